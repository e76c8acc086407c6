/- Geometry: PointMoves answers true. -/
import Derived.Test.YtneklpbkfmljfaaHgM
namespace Go.Hg
open Go.Hx Go.Proofs
/-- The right spot of a spot's numbers. -/
def cutD (d : Int) : Int := d % 2048 + 1
def cutX (x d : Int) : Int := Int.tmod x (16384 * cutD d + 1)
def cCut : List PV → Option PV | [.agg [.val (.int .i64 a), .val (.int .i64 b), .val (.int .i64 c)]] => some (spv (cutX a c) (cutX b c) (cutD c)) | _ => none
theorem cutD_range (d : Int) : 1 ≤ cutD d ∧ cutD d ≤ 2048 := by unfold cutD; omega
theorem oCut (args : List PV) (r : PV) (h : cCut args = some r) : Enters Try.prog 29 ∧ PCall Try.prog 29 args r := by
  unfold cCut at h; split at h
  · rename_i a b c; cases h
    have q : (bif !decide (W (W (16384 * W (c % 2048 + 1)) + 1) = 0) then bif !decide (W (W (16384 * W (c % 2048 + 1)) + 1) = 0) then
        some (spv (Int.tmod a (W (W (16384 * W (c % 2048 + 1)) + 1))) (Int.tmod b (W (W (16384 * W (c % 2048 + 1)) + 1))) (W (c % 2048 + 1))) else none else none) = some (spv (cutX a c) (cutX b c) (cutD c)) := by
      have hr := cutD_range c
      have e1 : W (c % 2048 + 1) = cutD c := W_id (by omega) (by omega)
      rw [e1, W_id (n := 16384 * cutD c) (by omega) (by omega), W_id (n := 16384 * cutD c + 1) (by omega) (by omega), show (!decide (16384 * cutD c + 1 = 0)) = true by simp; omega]
      rfl
    refine runP_sound ok19 (n := 60) (Eq.trans ?_ q); kernel_rfl
  · cases h
noncomputable def E20 : EnvK := (E19.addO 29 cCut).addL 5 6 [3, 5, 8, 61, 62, 63] (fun _ _ _ => none)
theorem ok20 : EnvOK Try.prog E20.env := (ok19.addO oCut).addL Try.func5 (show Try.f5.body = some (bod Try.f5) by kernel_rfl) (show (loops (bod Try.f5)).filter (fun b => rid b == 6) = [lpb Try.f5 6] by kernel_rfl) (fun _ _ _ _ _ _ _ _ h => by cases h)
abbrev no : Option PV := some (bv false)
def sides5 (a b c d e f x y z : Int) (t : Option PV) : Option PV :=
  bif ssd a b c d e f x y z != ssd a b c d e f x y z then no else bif ssd x y z a b c d e f != ssd x y z a b c d e f then no else t
def mv5 (a b c d e f n m cx cy cd px py pd : Int) (t : Option PV) : Option PV :=
  let P := mvP a b c d e f n m
  let X := bif P then W (Int.tdiv (mvX a d c f n m) (mvG a b c d e f n m)) else 0
  let Y := bif P then W (Int.tdiv (mvX b e c f n m) (mvG a b c d e f n m)) else 0
  let D := bif P then W (Int.tdiv (mvD c f m) (mvG a b c d e f n m)) else 0
  bif !((X == X) && ((Y == Y) && ((D == D) && true))) then no else bif !(P == P) then no else
  sides5 a b c d e f cx cy cd (sides5 a b c d e f px py pd (sides5 a b c d e f X Y D t))
theorem sides5_eq (a b c d e f x y z : Int) (t : Option PV) : sides5 a b c d e f x y z t = t := by unfold sides5; simp
theorem mv5_eq (a b c d e f n m cx cy cd px py pd : Int) (t : Option PV) : mv5 a b c d e f n m cx cy cd px py pd t = t := by
  unfold mv5; dsimp only; rw [sides5_eq, sides5_eq, sides5_eq]; simp
theorem q5 (a b c d e f n m x y z : Int) : runP Try.prog E20 60 5 [.agg [iv a, iv b, iv c, iv d, iv e, iv f, iv n, iv m], spv x y z] =
  let M := W (m % 1048576 + 1)
  let N := n % W (M + 1)
  bif decide (0 < W (M + 1)) && decide (W (M + 1) ≤ 4611686018427387904) then
    mv5 (cutX a c) (cutX b c) (cutD c) (cutX d f) (cutX e f) (cutD f) N M (cutX x z) (cutX y z) (cutD z) x y z
    (mv5 a b c d e f n m (cutX x z) (cutX y z) (cutD z) x y z
    (mv5 (cutX a c) (cutX b c) (cutD c) (cutX d f) (cutX e f) (cutD f) n m (cutX x z) (cutX y z) (cutD z) x y z
    (mv5 a b c (cutX d f) (cutX e f) (cutD f) N M (cutX x z) (cutX y z) (cutD z) x y z
    (mv5 (cutX a c) (cutX b c) (cutD c) d e f N M (cutX x z) (cutX y z) (cutD z) x y z (some (bv true))))))
  else none := by kernel_rfl
theorem law5 (a b c d e f n m x y z : Int) : Enters Try.prog 5 ∧ PCall Try.prog 5 [.agg [iv a, iv b, iv c, iv d, iv e, iv f, iv n, iv m], spv x y z] (bv true) := by
  refine runP_sound ok20 (n := 60) ?_
  rw [q5]
  dsimp only
  have h1 := Int.emod_nonneg m (show (1048576 : Int) ≠ 0 by omega)
  have h2 := Int.emod_lt_of_pos m (show (0 : Int) < 1048576 by omega)
  rw [W_id (n := m % 1048576 + 1) (by omega) (by omega), W_id (n := m % 1048576 + 1 + 1) (by omega) (by omega), decide_eq_true (show 0 < m % 1048576 + 1 + 1 by omega), decide_eq_true (show m % 1048576 + 1 + 1 ≤ 4611686018427387904 by omega)]
  simp only [mv5_eq]
  rfl
end Go.Hg
