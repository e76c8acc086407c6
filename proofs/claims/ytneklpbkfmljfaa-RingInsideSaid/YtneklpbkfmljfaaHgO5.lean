/- Geometry: RingInside answers true. -/
import Derived.Test.YtneklpbkfmljfaaHgX1
namespace Go.Hg
open Go.Hx Go.Proofs
def mn12 (es : List PV) : Int := if 12 < ((es.length : Nat) : Int) then 12 else ((es.length : Nat) : Int)
def cut12 (es : List PV) : List PV := es.take (mn12 es).toNat
theorem mn12_ok (es : List PV) : (decide (0 ≤ mn12 es) && decide (mn12 es ≤ ((es.length : Nat) : Int))) = true := by unfold mn12; simp; split <;> omega
theorem cut12_len (es : List PV) : (cut12 es).length ≤ 12 := by unfold cut12 mn12; rw [List.length_take]; split <;> omega
def in5 (es : List PV) (a b : Int) (k : Option PV) : Option PV := bif big es then bif big es then bif ins es a b != ins es a b then some (bv false) else k else none else none
theorem q5 (f g : Bool) (L R : List PV) (x y : Int) : runP Try.prog E39 100 10 [.lst f 3 L, .lst g 23 R, ptv x y] =
  bif decide (0 ≤ mn12 R) && decide (mn12 R ≤ ((R.length : Nat) : Int)) then
    in5 (madeL L) x y (in5 (madeL L) (Int.tmod x 30) (Int.tmod y 30) (in5 (cut12 R) x y (in5 (cut12 R) (Int.tmod x 30) (Int.tmod y 30) (some (bv true))))) else none := by kernel_rfl
theorem in5_eq {es : List PV} (h : es.length ≤ 1000000) (a b : Int) (k : Option PV) : in5 es a b k = k := by
  unfold in5; rw [show big es = true by simpa using h]; simp
theorem law5 (f g : Bool) (L R : List PV) (x y : Int) : Enters Try.prog 10 ∧ PCall Try.prog 10 [.lst f 3 L, .lst g 23 R, ptv x y] (bv true) := by
  refine runP_sound ok39 (n := 100) ?_
  have h1 := (madeL_len L).2
  have h2 := cut12_len R
  rw [q5, mn12_ok, in5_eq (by omega), in5_eq (by omega), in5_eq (by omega), in5_eq (by omega)]; rfl
end Go.Hg
