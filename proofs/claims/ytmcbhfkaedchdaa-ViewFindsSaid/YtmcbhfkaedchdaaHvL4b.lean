/- The view: ViewFinds answers true, for every argument. -/
import Derived.Test.YtmcbhfkaedchdaaHvL4
namespace Go.Hv
open Go.Hx Go.Proofs
noncomputable def E4b : EnvK := E4a.addL 4 4 [4, 5, 7, 8, 38, 39, 40] (fun _ _ _ => none)
theorem ok4b : EnvOK Try.prog E4b.env := ok4a.addL Try.func4 (show Try.f4.body = some (bod Try.f4) by kernel_rfl) (show (loops (bod Try.f4)).filter (fun b => rid b == 4) = [lpb Try.f4 4] by kernel_rfl) (fun _ _ _ _ _ _ _ _ h => by cases h)
def same7 {α : Type} (c : Bool) (a0 a1 a2 a3 a4 a5 a6 : Int) (r t : α) : α :=
  bif !((((bif c then a0 else 0) == (bif c then a0 else 0)) && (((bif c then a1 else 0) == (bif c then a1 else 0)) && true)) && ((((bif c then a2 else 0) == (bif c then a2 else 0)) && (((bif c then a3 else 0) == (bif c then a3 else 0)) && true)) && (((bif c then a4 else 0) == (bif c then a4 else 0)) && (((bif c then a5 else 0) == (bif c then a5 else 0)) && (((bif c then a6 else 0) == (bif c then a6 else 0)) && true))))) then r
  else bif !(c == c) then r else t
theorem same7_eq {α : Type} (c : Bool) (a0 a1 a2 a3 a4 a5 a6 : Int) (r t : α) : same7 c a0 a1 a2 a3 a4 a5 a6 r t = t := by unfold same7; simp
def two4 (bx by' vx vy z g br p0 p1 p2 p3 : Int) (t : Option PV) : Option PV :=
  same7 (pok bx by' vx vy z g br p0 p1 p2 p3) (wx bx vx vy p0 p1) (wy by' vx vy p0 p1) vx vy p2 p3 br (some (bv false))
  (same7 (pok bx by' vx vy z g br (Int.tmod p0 13) (Int.tmod p1 13) (Int.tmod p2 13) (Int.tmod p3 13)) (wx bx vx vy (Int.tmod p0 13) (Int.tmod p1 13)) (wy by' vx vy (Int.tmod p0 13) (Int.tmod p1 13)) vx vy (Int.tmod p2 13) (Int.tmod p3 13) br (some (bv false)) t)
theorem q4 (f : Bool) (es : List PV) (g : Bool) (qs : List PV) (o0 o1 p0 p1 p2 p3 bx by' vx vy z gg br : Int) :
    runP Try.prog E4b 60 4 [.lst f 3 es, .agg [iv o0, iv o1, iv p0, iv p1, iv p2, iv p3, .lst g 26 qs], vwv bx by' vx vy z gg br] =
    two4 (mAx es) (mAy es) (mUx es) (mUy es) (mW es) (mH es) (mHr es) p0 p1 p2 p3
    (two4 (odAx (mAx es) o0 o1) (odAy (mAy es) o0 o1) (odUx (mUx es) o0 o1) (odUy (mUy es) o0 o1) (odW (mW es) o0 o1) (odH (mH es) o0 o1) (odHr (mHr es) o0 o1) p0 p1 p2 p3
    (two4 bx by' vx vy z gg br p0 p1 p2 p3 (some (bv true)))) := by kernel_rfl
theorem law4 (f : Bool) (es : List PV) (g : Bool) (qs : List PV) (o0 o1 p0 p1 p2 p3 bx by' vx vy z gg br : Int) :
    Enters Try.prog 4 ∧ PCall Try.prog 4 [.lst f 3 es, .agg [iv o0, iv o1, iv p0, iv p1, iv p2, iv p3, .lst g 26 qs], vwv bx by' vx vy z gg br] (bv true) := by
  refine runP_sound ok4b (n := 60) ?_
  rw [q4]
  unfold two4
  simp only [same7_eq]
end Go.Hv
