/- Geometry: RingRays answers true. -/
import Derived.Test.YtneklpbkfmljfaaHgO
namespace Go.Hg
open Go.Hx Go.Proofs
def rry (a b c d e f : Int) (t : Option PV) : Option PV := bif ray a b c d e f != ray a b c d e f then some (bv false) else t
def rsy (a b c d e f g h : Int) (t : Option PV) : Option PV := bif rsp a b c d e f g h != rsp a b c d e f g h then some (bv false) else t
theorem rry_eq (a b c d e f : Int) (t : Option PV) : rry a b c d e f t = t := by unfold rry; simp
theorem rsy_eq (a b c d e f g h : Int) (t : Option PV) : rsy a b c d e f g h t = t := by unfold rsy; simp
def dd7 (x : Int) : Int := W (1 + bits .and .i64 x 7)
def m9 (x : Int) : Int := Int.tmod x 9
def two28 (a b c d s0 s1 s2 s3 s4 s5 e f : Int) (t : Option PV) : Option PV :=
  rry a b c d e f (rsy s0 s1 s2 s3 s4 s5 e f (rry (m9 a) (m9 b) (m9 c) (m9 d) e f (rsy (m9 a) (m9 b) (dd7 s2) (m9 c) (m9 d) (dd7 s5) e f t)))
theorem q28 (a b c d e f s0 s1 s2 s3 s4 s5 : Int) : runP Try.prog E32 60 11 [.agg [iv a, iv b, iv c, iv d, iv e, iv f], .agg [iv s0, iv s1, iv s2, iv s3, iv s4, iv s5]] =
  two28 a b c d s0 s1 s2 s3 s4 s5 e f (two28 a b c d s0 s1 s2 s3 s4 s5 (m9 e) (m9 f) (some (bv true))) := by kernel_rfl
theorem law28 (a b c d e f s0 s1 s2 s3 s4 s5 : Int) : Enters Try.prog 11 ∧ PCall Try.prog 11 [.agg [iv a, iv b, iv c, iv d, iv e, iv f], .agg [iv s0, iv s1, iv s2, iv s3, iv s4, iv s5]] (bv true) := by
  refine runP_sound ok32 (n := 60) ?_
  rw [q28]
  unfold two28
  simp only [rry_eq, rsy_eq]
end Go.Hg
