/- Geometry: Meet. -/
import Derived.Test.YtneklpbkfmljfaaHgG
namespace Go.Hg
open Go.Hx Go.Proofs
def cOrd : List PV → Option PV
  | [.agg [.val (.int .i64 a), .val (.int .i64 b)], .agg [.val (.int .i64 c), .val (.int .i64 d)]] =>
    some (.tup [ptv (ifI (lessP c d a b) c a) (ifI (lessP c d a b) d b), ptv (ifI (lessP c d a b) a c) (ifI (lessP c d a b) b d)])
  | _ => none
theorem oOrd (args : List PV) (r : PV) (h : cOrd args = some r) : Enters Try.prog 87 ∧ PCall Try.prog 87 args r := by
  unfold cOrd at h; split at h
  · rename_i a b c d; cases h
    have q : (bif lessP c d a b then some (.tup [ptv c d, ptv a b]) else some (.tup [ptv a b, ptv c d])) = some (PV.tup [ptv (ifI (lessP c d a b) c a) (ifI (lessP c d a b) d b), ptv (ifI (lessP c d a b) a c) (ifI (lessP c d a b) b d)]) := by cases lessP c d a b <;> rfl
    refine runP_sound ok8 (n := 60) (Eq.trans ?_ q); kernel_rfl
  · cases h
def E9 : EnvK := E8.addO 87 cOrd
theorem ok9 : EnvOK Try.prog E9.env := ok8.addO oOrd

theorem sgn_lt {n : Int} : sgn n < 0 ↔ n < 0 := by unfold sgn; (repeat' split) <;> omega
theorem sgn_gt {n : Int} : 0 < sgn n ↔ 0 < n := by unfold sgn; (repeat' split) <;> omega
theorem sgn_zero {n : Int} : sgn n = 0 ↔ n = 0 := by unfold sgn; (repeat' split) <;> omega
theorem cmp2_range (a b c d : Int) : -1 ≤ cmp2 a b c d ∧ cmp2 a b c d ≤ 1 := by unfold cmp2; split <;> exact sgn_range _
theorem cmp2_lt_iff (a b c d : Int) : cmp2 a b c d < 0 ↔ a < c ∨ a = c ∧ b < d := by
  unfold cmp2
  split
  · rename_i h; have := sgn_zero.1 h; rw [sgn_lt]; omega
  · rename_i h; have : a - c ≠ 0 := fun e => h (sgn_zero.2 e); rw [sgn_lt]; omega
theorem cmp2_gt_iff (a b c d : Int) : 0 < cmp2 a b c d ↔ c < a ∨ c = a ∧ d < b := by
  unfold cmp2
  split
  · rename_i h; have := sgn_zero.1 h; rw [sgn_gt]; omega
  · rename_i h; have : a - c ≠ 0 := fun e => h (sgn_zero.2 e); rw [sgn_gt]; omega
theorem lessP_iff {a b c d : Int} : lessP a b c d = true ↔ a < c ∨ a = c ∧ b < d := by unfold lessP; simp
theorem swp_eq (a b c d : Int) : swp a b c d = lessP c d a b := by
  unfold swp
  rw [Bool.eq_iff_iff, decide_eq_true_iff, cmp2_lt_iff, lessP_iff]
theorem cmpgt_eq (a b c d : Int) : decide (cmp2 a b c d > 0) = lessP c d a b := by
  rw [Bool.eq_iff_iff, decide_eq_true_iff, lessP_iff]
  exact cmp2_gt_iff a b c d
theorem sd_range (a b c d e f : Int) : -1 ≤ sd a b c d e f ∧ sd a b c d e f ≤ 1 := by
  unfold sd
  cases bdd a b && bdd c d && bdd e f
  · exact ⟨by simp, by simp⟩
  · exact sgn_range _
/-- Segments that are not on one line. -/
def nfl (s1 s2 s3 s4 : Int) : Int := bif decide (s1 * s2 > 0) || decide (s3 * s4 > 0) then 0 else 1
/-- Segments on one line: the later beginning, the earlier end. -/
def fl (a b c d e f g h : Int) : Int :=
  let lx := ifI (lessP c d a b) c a; let ly := ifI (lessP c d a b) d b; let hx := ifI (lessP c d a b) a c; let hy := ifI (lessP c d a b) b d
  let mx := ifI (lessP g h e f) g e; let my := ifI (lessP g h e f) h f; let nx := ifI (lessP g h e f) e g; let ny := ifI (lessP g h e f) f h
  1 + cmp2 (ifI (lessP nx ny hx hy) nx hx) (ifI (lessP nx ny hx hy) ny hy) (ifI (lessP lx ly mx my) mx lx) (ifI (lessP lx ly mx my) my ly)
/-- P4.4: how many points two segments have in common (2: infinitely many). -/
def mt (a b c d e f g h : Int) : Int :=
  bif bdd a b && bdd c d && bdd e f && bdd g h then
    bif (sd a b c d e f == 0) && (sd a b c d g h == 0) && (sd e f g h a b == 0) && (sd e f g h c d == 0) then fl a b c d e f g h
    else nfl (sd a b c d e f) (sd a b c d g h) (sd e f g h a b) (sd e f g h c d)
  else 0
def cMeet : List PV → Option PV
  | [.agg [.val (.int .i64 a), .val (.int .i64 b)], .agg [.val (.int .i64 c), .val (.int .i64 d)], .agg [.val (.int .i64 e), .val (.int .i64 f)], .agg [.val (.int .i64 g), .val (.int .i64 h)]] => some (iv (mt a b c d e f g h))
  | _ => none
def nfI (s1 s2 s3 s4 : Int) : Option PV := bif decide (W (s1 * s2) > 0) then some (iv 0) else bif decide (W (s3 * s4) > 0) then some (iv 0) else some (iv 1)
def flI (a b c d e f g h : Int) : Option PV :=
  let lx := ifI (swp a b c d) c a; let ly := ifI (swp a b c d) d b; let hx := ifI (swp a b c d) a c; let hy := ifI (swp a b c d) b d
  let mx := ifI (swp e f g h) g e; let my := ifI (swp e f g h) h f; let nx := ifI (swp e f g h) e g; let ny := ifI (swp e f g h) f h
  let z := cmp2 (ifI (swp hx hy nx ny) nx hx) (ifI (swp hx hy nx ny) ny hy) (ifI (decide (cmp2 mx my lx ly > 0)) mx lx) (ifI (decide (cmp2 mx my lx ly > 0)) my ly)
  some (iv (W (1 + (if 1 < (if -1 > z then -1 else z) then 1 else (if -1 > z then -1 else z)))))
theorem qMeet (a b c d e f g h : Int) : runP Try.prog E9 60 27 [ptv a b, ptv c d, ptv e f, ptv g h] =
    bif !bdd a b then some (iv 0) else bif !bdd c d then some (iv 0) else bif !bdd e f then some (iv 0) else bif !bdd g h then some (iv 0) else
    bif !((sd a b c d e f == 0) && ((sd a b c d g h == 0) && true)) then nfI (sd a b c d e f) (sd a b c d g h) (sd e f g h a b) (sd e f g h c d)
    else bif !((sd e f g h a b == 0) && ((sd e f g h c d == 0) && true)) then nfI (sd a b c d e f) (sd a b c d g h) (sd e f g h a b) (sd e f g h c d)
    else flI a b c d e f g h := by kernel_rfl
theorem W_s {s t : Int} (hs : -1 ≤ s ∧ s ≤ 1) (ht : -1 ≤ t ∧ t ≤ 1) : W (s * t) = s * t := by
  have : s = -1 ∨ s = 0 ∨ s = 1 := by omega
  rcases this with e | e | e <;> rw [e] <;> exact W_id (by omega) (by omega)
theorem nfI_eq {s1 s2 s3 s4 : Int} (h1 : -1 ≤ s1 ∧ s1 ≤ 1) (h2 : -1 ≤ s2 ∧ s2 ≤ 1) (h3 : -1 ≤ s3 ∧ s3 ≤ 1) (h4 : -1 ≤ s4 ∧ s4 ≤ 1) : nfI s1 s2 s3 s4 = some (iv (nfl s1 s2 s3 s4)) := by
  unfold nfI nfl
  rw [W_s h1 h2, W_s h3 h4]
  cases decide (s1 * s2 > 0) <;> cases decide (s3 * s4 > 0) <;> rfl
theorem flI_eq (a b c d e f g h : Int) : flI a b c d e f g h = some (iv (fl a b c d e f g h)) := by
  unfold flI fl
  simp only [swp_eq, cmpgt_eq]
  have r := cmp2_range (ifI (lessP (ifI (lessP g h e f) e g) (ifI (lessP g h e f) f h) (ifI (lessP c d a b) a c) (ifI (lessP c d a b) b d)) (ifI (lessP g h e f) e g) (ifI (lessP c d a b) a c))
    (ifI (lessP (ifI (lessP g h e f) e g) (ifI (lessP g h e f) f h) (ifI (lessP c d a b) a c) (ifI (lessP c d a b) b d)) (ifI (lessP g h e f) f h) (ifI (lessP c d a b) b d))
    (ifI (lessP (ifI (lessP c d a b) c a) (ifI (lessP c d a b) d b) (ifI (lessP g h e f) g e) (ifI (lessP g h e f) h f)) (ifI (lessP g h e f) g e) (ifI (lessP c d a b) c a))
    (ifI (lessP (ifI (lessP c d a b) c a) (ifI (lessP c d a b) d b) (ifI (lessP g h e f) g e) (ifI (lessP g h e f) h f)) (ifI (lessP g h e f) h f) (ifI (lessP c d a b) d b))
  generalize cmp2 _ _ _ _ = z at r ⊢
  rw [if_neg (show ¬ (-1 > z) by omega), if_neg (show ¬ (1 < z) by omega), W_id (by omega) (by omega)]
theorem oMeet (args : List PV) (r : PV) (h : cMeet args = some r) : Enters Try.prog 27 ∧ PCall Try.prog 27 args r := by
  unfold cMeet at h; split at h
  · rename_i a b c d e f g h'; cases h
    refine runP_sound ok9 (n := 60) ?_
    rw [qMeet, nfI_eq (sd_range _ _ _ _ _ _) (sd_range _ _ _ _ _ _) (sd_range _ _ _ _ _ _) (sd_range _ _ _ _ _ _), flI_eq]
    unfold mt
    cases bdd a b <;> cases bdd c d <;> cases bdd e f <;> cases bdd g h' <;> cases (sd a b c d e f == 0) <;> cases (sd a b c d g h' == 0) <;> cases (sd e f g h' a b == 0) <;> cases (sd e f g h' c d == 0) <;> rfl
  · cases h
end Go.Hg
