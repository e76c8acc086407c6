/- The view: ViewChecks answers true. -/
import Derived.Test.YtmcbhfkaedchdaaHvQ3
namespace Go.Hv
open Go.Hx Go.Proofs
noncomputable def E12 : EnvK := (E10.addO 17 c16).addL 3 5 [4, 7, 8, 28, 29, 30] (fun _ _ _ => none)
theorem ok12 : EnvOK Try.prog E12.env := (ok10.addO o17).addL Try.func3 (show Try.f3.body = some (bod Try.f3) by kernel_rfl) (show (loops (bod Try.f3)).filter (fun b => rid b == 5) = [lpb Try.f3 5] by kernel_rfl) (fun _ _ _ _ _ _ _ _ h => by cases h)
def ne2 (a b c d : Int) : Bool := !((a == c) && ((b == d) && true))
def ch3 (ax ay ux uy w h hr i j : Int) (t : Option PV) : Option PV :=
  bif ck ax ay ux uy w h hr != ck ax ay ux uy w h hr then some (bv false) else
  bif ne2 (wx ax ux uy i j) (wy ay ux uy i j) (wx ax ux uy i j) (wy ay ux uy i j) then some (bv false) else
  bif ne2 (wx ax ux uy (Int.tmod i 9) (Int.tmod j 9)) (wy ay ux uy (Int.tmod i 9) (Int.tmod j 9)) (wx ax ux uy (Int.tmod i 9) (Int.tmod j 9)) (wy ay ux uy (Int.tmod i 9) (Int.tmod j 9)) then some (bv false) else
  bif !(((bif ok0 ax ay ux uy w h hr then bx0 ax ux uy w h else 0) == (bif ok0 ax ay ux uy w h hr then bx0 ax ux uy w h else 0)) && (((bif ok0 ax ay ux uy w h hr then by0 ay ux uy w h else 0) == (bif ok0 ax ay ux uy w h hr then by0 ay ux uy w h else 0)) &&
    (((bif ok0 ax ay ux uy w h hr then bx1 ax ux uy w h else 0) == (bif ok0 ax ay ux uy w h hr then bx1 ax ux uy w h else 0)) && (((bif ok0 ax ay ux uy w h hr then by1 ay ux uy w h else 0) == (bif ok0 ax ay ux uy w h hr then by1 ay ux uy w h else 0)) && true)))) then some (bv false) else
  bif !(((ax == ax) && ((ay == ay) && true)) && (((tpx ux uy i == trx ux uy i) && ((tpy ux uy i == tryy ux uy i) && true)) && ((w == w) && ((h == h) && ((hr == hr) && true))))) then some (bv false) else t
theorem q3 (f : Bool) (es : List PV) (a b c d bx by' vx vy z gg br : Int) :
    runP Try.prog E12 60 3 [.lst f 3 es, .agg [iv a, iv b, iv c, iv d], vwv bx by' vx vy z gg br] =
    ch3 (mAx es) (mAy es) (mUx es) (mUy es) (mW es) (mH es) (mHr es) d b
    (ch3 (odAx (mAx es) a b) (odAy (mAy es) a b) (odUx (mUx es) a b) (odUy (mUy es) a b) (odW (mW es) a b) (odH (mH es) a b) (odHr (mHr es) a b) d b
    (ch3 (odAx (odAx (mAx es) a b) c d) (odAy (odAy (mAy es) a b) c d) (odUx (odUx (mUx es) a b) c d) (odUy (odUy (mUy es) a b) c d) (odW (odW (mW es) a b) c d) (odH (odH (mH es) a b) c d) (odHr (odHr (mHr es) a b) c d) d b
    (ch3 bx by' vx vy z gg br d b (some (bv (ck (mAx es) (mAy es) (mUx es) (mUy es) (mW es) (mH es) (mHr es) == 0)))))) := by kernel_rfl
theorem ch3_eq {ax ay ux uy w h hr i j : Int} (hv : -9223372036854775808 ≤ uy ∧ uy ≤ 9223372036854775807) (t : Option PV) : ch3 ax ay ux uy w h hr i j t = t := by
  have e : tpx ux uy i = trx ux uy i ∧ tpy ux uy i = tryy ux uy i := by
    have h4 : i % 4 = 0 ∨ i % 4 = 1 ∨ i % 4 = 2 ∨ i % 4 = 3 := by omega
    have hw : W (0 - W (0 - uy)) = uy := by rw [W_eq, W_eq]; omega
    unfold tpx trx tpy tryy
    rw [hw]
    rcases h4 with g | g | g | g <;> rw [g] <;> simp
  unfold ch3 ne2
  rw [e.1, e.2]
  simp
theorem law3 (f : Bool) (es : List PV) (a b c d bx by' vx : Int) {vy : Int} (z gg br : Int) (hy : -9223372036854775808 ≤ vy ∧ vy ≤ 9223372036854775807) :
    Enters Try.prog 3 ∧ PCall Try.prog 3 [.lst f 3 es, .agg [iv a, iv b, iv c, iv d], vwv bx by' vx vy z gg br] (bv true) := by
  refine runP_sound ok12 (n := 60) ?_
  have m := made_ok es
  have my := m.puy
  have oy : ∀ (u p q : Int), (-9223372036854775808 ≤ u ∧ u ≤ 9223372036854775807) → -9223372036854775808 ≤ odUy u p q ∧ odUy u p q ≤ 9223372036854775807 := by
    intro u p q h1
    have e1 := Int.emod_nonneg (W (Int.tdiv q 30)) (show (250 : Int) ≠ 0 by omega)
    have e2 := Int.emod_lt_of_pos (W (Int.tdiv q 30)) (show (0 : Int) < 250 by omega)
    unfold odUy
    cases (p % 7 == 3)
    · exact h1
    · simp only [cond_true]; omega
  have y0 : -9223372036854775808 ≤ mUy es ∧ mUy es ≤ 9223372036854775807 := by omega
  have hc := m.right
  rw [q3, ch3_eq y0, ch3_eq (oy _ a b y0), ch3_eq (oy _ c d (oy _ a b y0)), ch3_eq hy, hc]
  rfl
end Go.Hv
