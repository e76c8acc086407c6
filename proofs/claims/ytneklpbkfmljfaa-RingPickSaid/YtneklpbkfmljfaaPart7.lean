/- Geometry: plain laws for Pick's theorem: what a ring of columns has in each column. -/
import Derived.Test.YtneklpbkfmljfaaPart6
import Derived.Test.YtneklpbkfmljfaaPart5
import Derived.Test.YtneklpbkfmljfaaRows
import Derived.Test.YtneklpbkfmljfaaPart4
namespace Go.Hg
open Go.Hx Go.Proofs
/-- 2 inside, 1 on the ring, 0 outside. -/
def vl (es : List PV) (e f : Int) : Int := if onS es e f 0 es.length = true then 1 else if rs es e f 0 es.length = 0 then 0 else 2
theorem sumN_single {f : Nat → Int} : ∀ {n k : Nat}, k < n → (∀ j, j < n → j ≠ k → f j = 0) → sumN f n = f k
  | n + 1, 0, _, h => by
    simp only [sumN]
    rw [sumN_congr (g := fun _ => 0) fun j hj => h (j + 1) (by omega) (by omega), sumN_const]; omega
  | n + 1, k + 1, hk, h => by
    simp only [sumN]
    rw [h 0 (by omega) (by omega), sumN_single (f := fun j => f (j + 1)) (k := k) (by omega) fun j hj hne => h (j + 1) (by omega) (by omega)]; omega
theorem sum_pairs {m : Nat} {F : Nat → Int} (h2 : 2 ≤ m) (hm5 : m ≤ 5) (z1 : F (m - 1) = 0) (z2 : F (2 * m - 1) = 0) : sumN F (2 * m) = sumN (fun u => F u + F (2 * m - 2 - u)) (m - 1) := by
  have h4 : m = 2 ∨ m = 3 ∨ m = 4 ∨ m = 5 := by omega
  rcases h4 with rfl | rfl | rfl | rfl <;> simp only [sumN, Nat.reduceMul, Nat.reduceSub, Nat.reduceAdd, Nat.zero_add] at * <;> omega
/-- Where on a line, its ends from the left to the right. -/
theorem onX_iff {a b c d e f : Int} (h1 : bd a b) (h2 : bd c d) (h3 : bd e f) : onX a b c d e f = true ↔ (a ≤ e ∧ e ≤ c ∨ c ≤ e ∧ e ≤ a) ∧ (b ≤ f ∧ f ≤ d ∨ d ≤ f ∧ f ≤ b) ∧ (a - e) * (d - f) - (b - f) * (c - e) = 0 := by
  have e1 : crs a b c d e f = (a - e) * (d - f) - (b - f) * (c - e) := by unfold crs; grind
  rw [on_of h1 h2 h3, ← e1]
  unfold bx
  rw [Bool.and_eq_true, Bool.and_eq_true, btwn_iff, btwn_iff, beq_iff_eq, and_assoc]
  have s : sgn (crs a b c d e f) = 0 ↔ crs a b c d e f = 0 := by unfold sgn; (repeat' split) <;> omega
  rw [s]
theorem on_seg {x0 y0 x1 y1 e f : Int} (hx : x0 < x1) (h1 : bd x0 y0) (h2 : bd x1 y1) (h3 : bd e f) : onX x0 y0 x1 y1 e f = true ↔ (x0 ≤ e ∧ e ≤ x1) ∧ (x1 - x0) * f = lnN x0 y0 x1 y1 e := by
  rw [onX_iff h1 h2 h3]
  have id : (x0 - e) * (y1 - f) - (y0 - f) * (x1 - e) = (x1 - x0) * f - lnN x0 y0 x1 y1 e := by unfold lnN; grind
  rw [id]
  constructor
  · rintro ⟨g1, _, g3⟩; exact ⟨by omega, by omega⟩
  · rintro ⟨g1, g2⟩
    refine ⟨.inl g1, ?_, by omega⟩
    rcases Int.le_total y0 y1 with k | k
    · have m1 := Int.mul_nonneg (show 0 ≤ y1 - y0 by omega) (show 0 ≤ e - x0 by omega)
      have m2 := Int.mul_nonneg (show 0 ≤ y1 - y0 by omega) (show 0 ≤ x1 - e by omega)
      have a1 : (x1 - x0) * y0 ≤ (x1 - x0) * f := by
        rw [g2]; have : lnN x0 y0 x1 y1 e = (x1 - x0) * y0 + (y1 - y0) * (e - x0) := by unfold lnN; grind
        omega
      have a2 : (x1 - x0) * f ≤ (x1 - x0) * y1 := by
        rw [g2]; have : lnN x0 y0 x1 y1 e = (x1 - x0) * y1 - (y1 - y0) * (x1 - e) := by unfold lnN; grind
        omega
      exact .inl ⟨Int.le_of_mul_le_mul_left a1 (by omega), Int.le_of_mul_le_mul_left a2 (by omega)⟩
    · have m1 := Int.mul_nonneg (show 0 ≤ y0 - y1 by omega) (show 0 ≤ e - x0 by omega)
      have m2 := Int.mul_nonneg (show 0 ≤ y0 - y1 by omega) (show 0 ≤ x1 - e by omega)
      have a1 : (x1 - x0) * f ≤ (x1 - x0) * y0 := by
        rw [g2]; have : lnN x0 y0 x1 y1 e = (x1 - x0) * y0 - (y0 - y1) * (e - x0) := by unfold lnN; grind
        omega
      have a2 : (x1 - x0) * y1 ≤ (x1 - x0) * f := by
        rw [g2]; have : lnN x0 y0 x1 y1 e = (x1 - x0) * y1 + (y0 - y1) * (x1 - e) := by unfold lnN; grind
        omega
      exact .inr ⟨Int.le_of_mul_le_mul_left a2 (by omega), Int.le_of_mul_le_mul_left a1 (by omega)⟩
theorem on_vert {c b d e f : Int} (h1 : bd c b) (h2 : bd c d) (h3 : bd e f) : onX c b c d e f = true ↔ e = c ∧ (b ≤ f ∧ f ≤ d ∨ d ≤ f ∧ f ≤ b) := by
  rw [onX_iff h1 h2 h3]
  constructor
  · rintro ⟨g1, g2, _⟩; exact ⟨by omega, g2⟩
  · rintro ⟨rfl, g2⟩; exact ⟨by omega, g2, by rw [Int.sub_self]; omega⟩
/-- The two segments of a column seen from below. -/
theorem vr_in {x0 y0 h0 x1 y1 h1 e f : Int} (g1 : x0 ≤ e) (g2 : e < x1) :
    vr x0 y0 x1 y1 e f + vr x1 h1 x0 h0 e f = (if (x1 - x0) * f < lnN x0 y0 x1 y1 e then 1 else 0) - (if (x1 - x0) * f < lnN x0 h0 x1 h1 e then 1 else 0) := by
  have id1 : (x0 - e) * (y1 - f) - (y0 - f) * (x1 - e) = (x1 - x0) * f - lnN x0 y0 x1 y1 e := by unfold lnN; grind
  have id2 : (x1 - e) * (h0 - f) - (h1 - f) * (x0 - e) = lnN x0 h0 x1 h1 e - (x1 - x0) * f := by unfold lnN; grind
  unfold vr
  rw [id1, id2]
  generalize (x1 - x0) * f = z
  generalize lnN x0 y0 x1 y1 e = a
  generalize lnN x0 h0 x1 h1 e = b
  simp only [g1, g2, true_and, show ¬ x1 ≤ e by omega, false_and, if_false]
  (repeat' split) <;> omega
section
variable {m : Nat} {x y h : Nat → Int} (hC : Cols m x y h) (hm5 : m ≤ 5)
include hC
/-- On the ring: on one of its segments. -/
theorem col_on {e f : Int} (he : -60 ≤ e ∧ e ≤ 60) (hf : -60 ≤ f ∧ f ≤ 60) : onS (colL m x y h) e f 0 (2 * m) = true ↔
    (∃ u, u + 1 < m ∧ (x u ≤ e ∧ e ≤ x (u + 1)) ∧ ((x (u + 1) - x u) * f = lnN (x u) (y u) (x (u + 1)) (y (u + 1)) e ∨ (x (u + 1) - x u) * f = lnN (x u) (h u) (x (u + 1)) (h (u + 1)) e)) ∨
    (e = x (m - 1) ∧ y (m - 1) ≤ f ∧ f ≤ h (m - 1)) ∨ (e = x 0 ∧ y 0 ≤ f ∧ f ≤ h 0) := by
  have hm := hC.two
  have hl := colL_len m x y h
  have b3 : bd e f := by unfold bd; omega
  have o := onS_iff (es := colL m x y h) (x := e) (y := f) (2 * m) 0
  rw [show ((0 : Nat) : Int) = 0 from rfl] at o
  rw [o]
  obtain ⟨k1, k2, k3, k4⟩ := kd_at (x := x) (y := y) (h := h) hm
  have b := fun {j : Nat} {a b c d : Int} (k : Kd m x y h j a b c d) => kd_bd hC k
  have seg : ∀ j : Nat, j < 2 * m → ∀ a b c d, Kd m x y h j a b c d → (onq (colL m x y h) ((0 + j : Nat) : Int) (nx (colL m x y h) ((0 + j : Nat) : Int)) e f = onX a b c d e f) := fun j hj a b c d k => by
    have kk := kd_fun hm (hC.kd_ring hj) k
    unfold onq
    rw [Nat.zero_add, kk.1, kk.2.1, kk.2.2.1, kk.2.2.2]
  constructor
  · rintro ⟨j, hj, g⟩
    have kk := hC.kd_ring hj
    rw [seg j hj _ _ _ _ kk] at g
    obtain ⟨c1, c2⟩ := b kk
    rcases kk with ⟨q1, q2, q3, q4, q5⟩ | ⟨q1, q2, q3, q4, q5⟩ | ⟨u, q0, q1, q2, q3, q4, q5⟩ | ⟨q1, q2, q3, q4, q5⟩ <;> rw [q2, q3, q4, q5] at g <;> rw [q2, q3] at c1 <;> rw [q4, q5] at c2
    · rw [on_seg (hC.inc j (j + 1) (by omega) q1) c1 c2 b3] at g
      exact .inl ⟨j, q1, g.1, .inl g.2⟩
    · rw [on_vert c1 c2 b3] at g
      have := hC.up (m - 1) (by omega)
      exact .inr (.inl (by omega))
    · rw [onX_swap c2 c1 b3, on_seg (hC.inc u (u + 1) (by omega) q0) c2 c1 b3] at g
      exact .inl ⟨u, q0, g.1, .inr g.2⟩
    · rw [on_vert c1 c2 b3] at g
      have := hC.up 0 (by omega)
      exact .inr (.inr (by omega))
  · rintro (⟨u, hu, g1, g2⟩ | ⟨rfl, g2⟩ | ⟨rfl, g2⟩)
    · rcases g2 with g2 | g2
      · obtain ⟨c1, c2⟩ := b (k1 u hu)
        exact ⟨u, by omega, by rw [seg u (by omega) _ _ _ _ (k1 u hu), on_seg (hC.inc u (u + 1) (by omega) hu) c1 c2 b3]; exact ⟨g1, g2⟩⟩
      · obtain ⟨c1, c2⟩ := b (k3 u hu)
        exact ⟨2 * m - 2 - u, by omega, by rw [seg _ (by omega) _ _ _ _ (k3 u hu), onX_swap c2 c1 b3, on_seg (hC.inc u (u + 1) (by omega) hu) c2 c1 b3]; exact ⟨g1, g2⟩⟩
    · obtain ⟨c1, c2⟩ := b k2
      exact ⟨m - 1, by omega, by rw [seg _ (by omega) _ _ _ _ k2, on_vert c1 c2 b3]; exact ⟨rfl, .inl g2⟩⟩
    · obtain ⟨c1, c2⟩ := b k4
      exact ⟨2 * m - 1, by omega, by rw [seg _ (by omega) _ _ _ _ k4, on_vert c1 c2 b3]; exact ⟨rfl, .inr g2⟩⟩
include hm5
theorem col_rs2 {e f : Int} (he : -60 ≤ e ∧ e ≤ 60) (hf : -60 ≤ f ∧ f ≤ 60) (hon : onS (colL m x y h) e f 0 (2 * m) = false) :
    rs (colL m x y h) e f 0 (2 * m) = sumN (fun u => vr (x u) (y u) (x (u + 1)) (y (u + 1)) e f + vr (x (u + 1)) (h (u + 1)) (x u) (h u) e f) (m - 1) := by
  have hm := hC.two
  obtain ⟨F, h1, h2⟩ := col_F hC he hf hon
  obtain ⟨k1, k2, k3, k4⟩ := kd_at (x := x) (y := y) (h := h) hm
  rw [h1, sum_pairs hm hm5 (by rw [h2 _ (by omega) _ _ _ _ k2]; exact vr_vert) (by rw [h2 _ (by omega) _ _ _ _ k4]; exact vr_vert)]
  refine sumN_congr fun u hu => ?_
  rw [h2 u (by omega) _ _ _ _ (k1 u (by omega)), h2 _ (by omega) _ _ _ _ (k3 u (by omega))]
/-- Between two columns (the left one too, unless it is the first). -/
theorem vl_mid {u : Nat} (hu : u + 1 < m) {e f : Int} (he : -60 ≤ e ∧ e ≤ 60) (hf : -60 ≤ f ∧ f ≤ 60) (g1 : x u ≤ e) (g2 : e < x (u + 1)) (g0 : e ≠ x 0) :
    vl (colL m x y h) e f = s3 ((x (u + 1) - x u) * f - lnN (x u) (y u) (x (u + 1)) (y (u + 1)) e) + s3 (lnN (x u) (h u) (x (u + 1)) (h (u + 1)) e - (x (u + 1) - x u) * f) - 2 := by
  have hm := hC.two
  have hl := colL_len m x y h
  have lt : lnN (x u) (y u) (x (u + 1)) (y (u + 1)) e < lnN (x u) (h u) (x (u + 1)) (h (u + 1)) e := by
    have m1 := Int.mul_pos (show 0 < h u - y u by have := hC.up u (by omega); omega) (show 0 < x (u + 1) - e by omega)
    have m2 := Int.mul_nonneg (show 0 ≤ h (u + 1) - y (u + 1) by have := hC.up (u + 1) hu; omega) (show 0 ≤ e - x u by omega)
    have : lnN (x u) (h u) (x (u + 1)) (h (u + 1)) e = lnN (x u) (y u) (x (u + 1)) (y (u + 1)) e + (h u - y u) * (x (u + 1) - e) + (h (u + 1) - y (u + 1)) * (e - x u) := by unfold lnN; grind
    omega
  have on : onS (colL m x y h) e f 0 (2 * m) = true ↔ (x (u + 1) - x u) * f = lnN (x u) (y u) (x (u + 1)) (y (u + 1)) e ∨ (x (u + 1) - x u) * f = lnN (x u) (h u) (x (u + 1)) (h (u + 1)) e := by
    rw [col_on hC he hf]
    constructor
    · rintro (⟨v, hv, k1, k2⟩ | ⟨k, _⟩ | ⟨k, _⟩)
      · rcases Nat.lt_trichotomy v u with q | q | q
        · have : v + 1 = u := by
            rcases Nat.lt_or_ge (v + 1) u with t | t
            · have := hC.inc (v + 1) u t (by omega); omega
            · omega
          subst this
          have ee : e = x (v + 1) := by omega
          have hd := hC.inc v (v + 1) (by omega) hv
          have key : ∀ z : Nat → Int, (x (v + 1) - x v) * f = lnN (x v) (z v) (x (v + 1)) (z (v + 1)) e → (x (v + 1 + 1) - x (v + 1)) * f = lnN (x (v + 1)) (z (v + 1)) (x (v + 1 + 1)) (z (v + 1 + 1)) e := fun z hz => by
            have e1 : lnN (x v) (z v) (x (v + 1)) (z (v + 1)) e = (x (v + 1) - x v) * z (v + 1) := by rw [ee]; unfold lnN; grind
            rw [e1] at hz
            have ef := Int.eq_of_mul_eq_mul_left (by omega) hz
            rw [ef, ee]; unfold lnN; grind
          rcases k2 with k2 | k2
          · exact .inl (key y k2)
          · exact .inr (key h k2)
        · subst q; exact k2
        · have := cols_mono hC (u := u + 1) (v := v) (by omega) (by omega); omega
      · have := cols_mono hC (u := u + 1) (v := m - 1) (by omega) (by omega); omega
      · exact absurd k g0
    · intro k; exact .inl ⟨u, hu, by omega, k⟩
  unfold vl
  rw [hl]
  by_cases ho : onS (colL m x y h) e f 0 (2 * m) = true
  · rw [if_pos ho]
    have := on.1 ho
    unfold s3
    (repeat' split) <;> omega
  · rw [if_neg ho]
    have hn := fun t => ho (on.2 t)
    have hv := col_rs2 hC hm5 he hf (by simpa using ho)
    rw [sumN_single (k := u) (by omega) fun j hj hne => by
      have q := vr_col (x0 := x j) (y0 := y j) (h0 := h j) (x1 := x (j + 1)) (y1 := y (j + 1)) (h1 := h (j + 1)) (e := e) (f := f) (hC.inc j (j + 1) (by omega) (by omega)) (hC.up j (by omega)) (hC.up (j + 1) (by omega))
      rcases Int.lt_trichotomy (vr (x j) (y j) (x (j + 1)) (y (j + 1)) e f + vr (x (j + 1)) (h (j + 1)) (x j) (h j) e f) 0 with t | t | t
      · have := q.2 (by omega)
        rcases Nat.lt_or_ge j u with w | w
        · have := cols_mono hC (u := j + 1) (v := u) (by omega) (by omega); omega
        · have := cols_mono hC (u := u + 1) (v := j) (by omega) (by omega); omega
      · exact t
      · omega, vr_in g1 g2] at hv
    rw [hv]
    generalize (x (u + 1) - x u) * f = z at *
    generalize lnN (x u) (y u) (x (u + 1)) (y (u + 1)) e = a at *
    generalize lnN (x u) (h u) (x (u + 1)) (h (u + 1)) e = b at *
    have n1 : z ≠ a := fun t => hn (.inl t)
    have n2 : z ≠ b := fun t => hn (.inr t)
    unfold s3
    (repeat' split) <;> omega
/-- The first column. -/
theorem vl_first {f : Int} (hf : -60 ≤ f ∧ f ≤ 60) : vl (colL m x y h) (x 0) f = if y 0 ≤ f ∧ f ≤ h 0 then 1 else 0 := by
  have hm := hC.two
  have hl := colL_len m x y h
  have he := hC.bx 0 (by omega)
  have i1 : x 0 < x (0 + 1) := hC.inc 0 1 (by omega) (by omega)
  have up := hC.up 0 (by omega)
  have at0 : ∀ z : Nat → Int, (x (0 + 1) - x 0) * f = lnN (x 0) (z 0) (x (0 + 1)) (z (0 + 1)) (x 0) ↔ f = z 0 := fun z => by
    rw [show lnN (x 0) (z 0) (x (0 + 1)) (z (0 + 1)) (x 0) = (x (0 + 1) - x 0) * z 0 by unfold lnN; grind]
    exact ⟨fun t => Int.eq_of_mul_eq_mul_left (by omega) t, fun t => by rw [t]⟩
  have on : onS (colL m x y h) (x 0) f 0 (2 * m) = true ↔ y 0 ≤ f ∧ f ≤ h 0 := by
    rw [col_on hC he hf]
    constructor
    · rintro (⟨v, hv, k1, k2⟩ | ⟨k, _⟩ | ⟨_, k⟩)
      · have : v = 0 := by
          rcases Nat.eq_zero_or_pos v with t | t
          · exact t
          · have := hC.inc 0 v t (by omega); omega
        subst this
        rw [at0 y, at0 h] at k2; omega
      · have := hC.inc 0 (m - 1) (by omega) (by omega); omega
      · exact k
    · intro k; exact .inr (.inr ⟨rfl, k⟩)
  unfold vl
  rw [hl]
  by_cases ho : onS (colL m x y h) (x 0) f 0 (2 * m) = true
  · rw [if_pos ho, if_pos (on.1 ho)]
  · rw [if_neg ho, if_neg (fun t => ho (on.2 t))]
    have hn : ¬ (y 0 ≤ f ∧ f ≤ h 0) := fun t => ho (on.2 t)
    have hv := col_rs2 hC hm5 he hf (by simpa using ho)
    rw [sumN_single (k := 0) (by omega) fun j hj hne => by
      have q := vr_col (x0 := x j) (y0 := y j) (h0 := h j) (x1 := x (j + 1)) (y1 := y (j + 1)) (h1 := h (j + 1)) (e := x 0) (f := f) (hC.inc j (j + 1) (by omega) (by omega)) (hC.up j (by omega)) (hC.up (j + 1) (by omega))
      rcases Int.lt_trichotomy (vr (x j) (y j) (x (j + 1)) (y (j + 1)) (x 0) f + vr (x (j + 1)) (h (j + 1)) (x j) (h j) (x 0) f) 0 with t | t | t
      · have := q.2 (by omega)
        have := hC.inc 0 j (by omega) (by omega); omega
      · exact t
      · omega, vr_in (Int.le_refl _) i1] at hv
    rw [show lnN (x 0) (y 0) (x (0 + 1)) (y (0 + 1)) (x 0) = (x (0 + 1) - x 0) * y 0 by unfold lnN; grind, show lnN (x 0) (h 0) (x (0 + 1)) (h (0 + 1)) (x 0) = (x (0 + 1) - x 0) * h 0 by unfold lnN; grind] at hv
    rw [hv, if_pos]
    have c : ∀ z, (x (0 + 1) - x 0) * f < (x (0 + 1) - x 0) * z ↔ f < z := fun z => ⟨fun t => Int.lt_of_mul_lt_mul_left t (by omega), fun t => Int.mul_lt_mul_of_pos_left t (by omega)⟩
    simp only [c]
    (repeat' split) <;> omega
/-- The last column. -/
theorem vl_last {f : Int} (hf : -60 ≤ f ∧ f ≤ 60) : vl (colL m x y h) (x (m - 1)) f = if y (m - 1) ≤ f ∧ f ≤ h (m - 1) then 1 else 0 := by
  have hm := hC.two
  have hl := colL_len m x y h
  have he := hC.bx (m - 1) (by omega)
  have up := hC.up (m - 1) (by omega)
  have on : onS (colL m x y h) (x (m - 1)) f 0 (2 * m) = true ↔ y (m - 1) ≤ f ∧ f ≤ h (m - 1) := by
    rw [col_on hC he hf]
    constructor
    · rintro (⟨v, hv, k1, k2⟩ | ⟨_, k⟩ | ⟨k, _⟩)
      · have : v + 1 = m - 1 := by
          rcases Nat.lt_or_ge (v + 1) (m - 1) with t | t
          · have := hC.inc (v + 1) (m - 1) t (by omega); omega
          · omega
        rw [← this] at k2 ⊢
        have hd := hC.inc v (v + 1) (by omega) hv
        have at1 : ∀ z : Nat → Int, (x (v + 1) - x v) * f = lnN (x v) (z v) (x (v + 1)) (z (v + 1)) (x (v + 1)) → f = z (v + 1) := fun z t => by
          rw [show lnN (x v) (z v) (x (v + 1)) (z (v + 1)) (x (v + 1)) = (x (v + 1) - x v) * z (v + 1) by unfold lnN; grind] at t
          exact Int.eq_of_mul_eq_mul_left (by omega) t
        have up1 := hC.up (v + 1) hv
        rcases k2 with k2 | k2
        · have := at1 y k2; omega
        · have := at1 h k2; omega
      · exact k
      · have := hC.inc 0 (m - 1) (by omega) (by omega); omega
    · intro k; exact .inr (.inl ⟨rfl, k⟩)
  unfold vl
  rw [hl]
  by_cases ho : onS (colL m x y h) (x (m - 1)) f 0 (2 * m) = true
  · rw [if_pos ho, if_pos (on.1 ho)]
  · rw [if_neg ho, if_neg (fun t => ho (on.2 t)), if_pos]
    rw [col_rs2 hC hm5 he hf (by simpa using ho), sumN_congr (g := fun _ => 0) fun j hj => by
      have q := vr_col (x0 := x j) (y0 := y j) (h0 := h j) (x1 := x (j + 1)) (y1 := y (j + 1)) (h1 := h (j + 1)) (e := x (m - 1)) (f := f) (hC.inc j (j + 1) (by omega) (by omega)) (hC.up j (by omega)) (hC.up (j + 1) (by omega))
      rcases Int.lt_trichotomy (vr (x j) (y j) (x (j + 1)) (y (j + 1)) (x (m - 1)) f + vr (x (j + 1)) (h (j + 1)) (x j) (h j) (x (m - 1)) f) 0 with t | t | t
      · have := q.2 (by omega)
        have := cols_mono hC (u := j + 1) (v := m - 1) (by omega) (by omega); omega
      · exact t
      · omega, sumN_const]
    omega
/-- Beside all columns. -/
theorem vl_beside {e f : Int} (he : -60 ≤ e ∧ e ≤ 60) (hf : -60 ≤ f ∧ f ≤ 60) (g : e < x 0 ∨ x (m - 1) < e) : vl (colL m x y h) e f = 0 := by
  have hm := hC.two
  have hl := colL_len m x y h
  have i0 := cols_mono hC (u := 0) (v := m - 1) (by omega) (by omega)
  have on : ¬ onS (colL m x y h) e f 0 (2 * m) = true := by
    rw [col_on hC he hf]
    rintro (⟨v, hv, k1, k2⟩ | ⟨k, _⟩ | ⟨k, _⟩)
    · have := cols_mono hC (u := 0) (v := v) (by omega) (by omega)
      have := cols_mono hC (u := v + 1) (v := m - 1) (by omega) (by omega)
      omega
    · omega
    · omega
  unfold vl
  rw [hl, if_neg on, if_pos]
  rw [col_rs2 hC hm5 he hf (by simpa using on), sumN_congr (g := fun _ => 0) fun j hj => by
    have q := vr_col (x0 := x j) (y0 := y j) (h0 := h j) (x1 := x (j + 1)) (y1 := y (j + 1)) (h1 := h (j + 1)) (e := e) (f := f) (hC.inc j (j + 1) (by omega) (by omega)) (hC.up j (by omega)) (hC.up (j + 1) (by omega))
    rcases Int.lt_trichotomy (vr (x j) (y j) (x (j + 1)) (y (j + 1)) e f + vr (x (j + 1)) (h (j + 1)) (x j) (h j) e f) 0 with t | t | t
    · have := q.2 (by omega)
      have := cols_mono hC (u := 0) (v := j) (by omega) (by omega)
      have := cols_mono hC (u := j + 1) (v := m - 1) (by omega) (by omega); omega
    · exact t
    · omega, sumN_const]
  omega
end
end Go.Hg
/- Geometry: plain laws for Pick's theorem: the sum over all columns; turned rings; the box. -/
namespace Go.Hg
open Go.Hx Go.Proofs
theorem sumI_trim {f : Int → Int} {A B lo hi : Int} (h1 : A ≤ lo) (h2 : lo ≤ hi) (h3 : hi ≤ B) (z : ∀ e, A ≤ e → e < B → e < lo ∨ hi ≤ e → f e = 0) : sumI f A B = sumI f lo hi := by
  rw [sumI_split (mid := lo) h1 (by omega), sumI_split (lo := lo) (mid := hi) h2 h3, sumI_zero (f := f) (lo := A) (fun e g1 g2 => z e g1 (by omega) (.inl g2)), sumI_zero (f := f) (lo := hi) (fun e g1 g2 => z e (by omega) g2 (.inr g1))]; omega
theorem sum_ind {a b : Int} (h1 : -60 ≤ a) (h2 : a ≤ b) (h3 : b ≤ 60) : sumI (fun f => if a ≤ f ∧ f ≤ b then 1 else 0) (-60) 61 = b - a + 1 := by
  rw [sumI_trim (lo := a) (hi := b + 1) h1 (by omega) (by omega) (fun e _ _ g => if_neg (by omega)), sumI_const (f := fun f => if a ≤ f ∧ f ≤ b then (1 : Int) else 0) 1 (by omega) (fun z g1 g2 => if_pos (by omega))]; omega
/-- What a ring has in one column, and in all. -/
def vcol (es : List PV) (e : Int) : Int := sumI (fun f => vl es e f) (-60) 61
def vall (es : List PV) : Int := sumI (fun e => vcol es e) (-60) 61
section
variable {m : Nat} {x y h : Nat → Int} (hC : Cols m x y h) (hm5 : m ≤ 5)
include hC hm5
theorem vcol_mid {u : Nat} (hu : u + 1 < m) {e : Int} (g1 : x u ≤ e) (g2 : e < x (u + 1)) (g0 : e ≠ x 0) :
    vcol (colL m x y h) e = fc (x (u + 1) - x u) (lnN (x u) (h u) (x (u + 1)) (h (u + 1)) e) + - fc (x (u + 1) - x u) (lnN (x u) (y u) (x (u + 1)) (y (u + 1)) e) := by
  have b1 := hC.bx u (by omega); have b2 := hC.bx (u + 1) hu
  have r1 := lnN_range (K := 60) (y0 := y u) (y1 := y (u + 1)) (e := e) (hC.inc u (u + 1) (by omega) hu) g1 (by omega) (hC.by_ u (by omega)) (hC.by_ (u + 1) hu)
  have r2 := lnN_range (K := 60) (y0 := h u) (y1 := h (u + 1)) (e := e) (hC.inc u (u + 1) (by omega) hu) g1 (by omega) (hC.bh u (by omega)) (hC.bh (u + 1) hu)
  have hd : 0 < x (u + 1) - x u := by omega
  unfold vcol
  rw [sumI_congr (g := fun f => (s3 ((x (u + 1) - x u) * f - lnN (x u) (y u) (x (u + 1)) (y (u + 1)) e) + s3 (lnN (x u) (h u) (x (u + 1)) (h (u + 1)) e - (x (u + 1) - x u) * f)) + -2) fun f f1 f2 => by
    rw [vl_mid hC hm5 hu (by omega) (by omega) g1 g2 g0]; omega]
  have s1 := sum_s3 hd r1.1 r1.2
  have s2 := sum_s3' hd r2.1 r2.2
  rw [show (60 : Int) + 1 = 61 from rfl] at s1 s2
  rw [sumI_add, sumI_add, s1, s2, sumI_const (f := fun _ => -2) (-2) (by omega) (fun _ _ _ => rfl)]; omega
theorem vcol_first : vcol (colL m x y h) (x 0) = h 0 - y 0 + 1 := by
  have hm := hC.two
  have u := hC.up 0 (by omega)
  unfold vcol
  rw [sumI_congr (g := fun f => if y 0 ≤ f ∧ f ≤ h 0 then 1 else 0) fun f f1 f2 => vl_first hC hm5 (by omega)]
  exact sum_ind (hC.by_ 0 (by omega)).1 (by omega) (hC.bh 0 (by omega)).2
theorem vcol_last : vcol (colL m x y h) (x (m - 1)) = h (m - 1) - y (m - 1) + 1 := by
  have hm := hC.two
  have u := hC.up (m - 1) (by omega)
  unfold vcol
  rw [sumI_congr (g := fun f => if y (m - 1) ≤ f ∧ f ≤ h (m - 1) then 1 else 0) fun f f1 f2 => vl_last hC hm5 (by omega)]
  exact sum_ind (hC.by_ (m - 1) (by omega)).1 (by omega) (hC.bh (m - 1) (by omega)).2
theorem vcol_beside {e : Int} (he : -60 ≤ e ∧ e ≤ 60) (g : e < x 0 ∨ x (m - 1) < e) : vcol (colL m x y h) e = 0 := by
  unfold vcol
  exact sumI_zero fun f f1 f2 => vl_beside hC hm5 he (by omega) g
/-- As if the first column were one between others. -/
theorem vcol_seg {u : Nat} (hu : u + 1 < m) : sumI (fun e => if e = x 0 then 2 * (h 0 - y 0) else vcol (colL m x y h) e) (x u) (x (u + 1)) = (x (u + 1) - x u) * ((h u - y u) + (h (u + 1) - y (u + 1))) + (h u - y u) - (h (u + 1) - y (u + 1)) := by
  have i := hC.inc u (u + 1) (by omega) hu
  have hd : 0 < x (u + 1) - x u := by omega
  have e1 : sumI (fun e => if e = x 0 then 2 * (h 0 - y 0) else vcol (colL m x y h) e) (x u) (x (u + 1)) = sumI (fun e => fc (x (u + 1) - x u) (lnN (x u) (h u) (x (u + 1)) (h (u + 1)) e) + - fc (x (u + 1) - x u) (lnN (x u) (y u) (x (u + 1)) (y (u + 1)) e)) (x u) (x (u + 1)) := sumI_congr fun e g1 g2 => by
    by_cases g0 : e = x 0
    · rw [if_pos g0]
      have hu0 : u = 0 := by
        rcases Nat.eq_zero_or_pos u with t | t
        · exact t
        · have := hC.inc 0 u t (by omega); omega
      subst hu0
      have at0 : ∀ z : Nat → Int, fc (x (0 + 1) - x 0) (lnN (x 0) (z 0) (x (0 + 1)) (z (0 + 1)) e) = 2 * z 0 := fun z => by
        rw [g0, show lnN (x 0) (z 0) (x (0 + 1)) (z (0 + 1)) (x 0) = (x (0 + 1) - x 0) * z 0 by unfold lnN; grind, fc_mul hd]
      rw [at0 h, at0 y]; omega
    · rw [if_neg g0]; exact vcol_mid hC hm5 hu g1 g2 g0
  rw [e1, sumI_add, sumI_neg, sum_fc i, sum_fc i]
  grind
theorem vcol_upto : ∀ u, u < m → sumI (fun e => if e = x 0 then 2 * (h 0 - y 0) else vcol (colL m x y h) e) (x 0) (x u) = sumN (fun v => (x (v + 1) - x v) * ((h v - y v) + (h (v + 1) - y (v + 1)))) u + (h 0 - y 0) - (h u - y u)
  | 0, _ => by rw [sumI_none]; simp only [sumN]; omega
  | u + 1, hu => by
    rw [sumI_split (mid := x u) (cols_mono hC (by omega) (by omega)) (Int.le_of_lt (hC.inc u (u + 1) (by omega) hu)), vcol_upto u (by omega), vcol_seg hC hm5 hu, sumN_last]; omega
theorem vall_col : vall (colL m x y h) = sumN (fun v => (x (v + 1) - x v) * ((h v - y v) + (h (v + 1) - y (v + 1)))) (m - 1) + 2 := by
  have hm := hC.two
  have i1 := hC.inc 0 (m - 1) (by omega) (by omega)
  have b1 := hC.bx 0 (by omega); have b2 := hC.bx (m - 1) (by omega)
  unfold vall
  rw [sumI_trim (lo := x 0) (hi := x (m - 1) + 1) b1.1 (by omega) (by omega) (fun e g1 g2 g => vcol_beside hC hm5 (by omega) (by omega)),
    sumI_split (mid := x (m - 1)) (by omega) (by omega), sumI_one, vcol_last hC hm5]
  have u := vcol_upto hC hm5 (m - 1) (by omega)
  rw [sumI_split (mid := x 0 + 1) (by omega) (by omega), sumI_one, if_pos rfl, sumI_congr (lo := x 0 + 1) (g := fun e => vcol (colL m x y h) e) fun e g1 g2 => if_neg (by omega)] at u
  rw [sumI_split (mid := x 0 + 1) (by omega) (by omega), sumI_one, vcol_first hC hm5]
  omega
/-- Nothing outside of the box. -/
theorem vl_out {e f : Int} (he : -60 ≤ e ∧ e ≤ 60) (hf : -60 ≤ f ∧ f ≤ 60) (g : (∀ u, u < m → e < x u) ∨ (∀ u, u < m → x u < e) ∨ (∀ u, u < m → f < y u) ∨ (∀ u, u < m → h u < f)) : vl (colL m x y h) e f = 0 := by
  have hm := hC.two
  by_cases g1 : e < x 0 ∨ x (m - 1) < e
  · exact vl_beside hC hm5 he hf g1
  have hy : (∀ u, u < m → f < y u) ∨ (∀ u, u < m → h u < f) := by
    rcases g with g | g | g | g
    · exact absurd (.inl (g 0 (by omega))) g1
    · exact absurd (.inr (g (m - 1) (by omega))) g1
    · exact .inl g
    · exact .inr g
  by_cases g2 : e = x 0
  · rw [g2, vl_first hC hm5 hf, if_neg]
    rcases hy with k | k <;> have := k 0 (by omega) <;> omega
  by_cases g3 : e = x (m - 1)
  · rw [g3, vl_last hC hm5 hf, if_neg]
    rcases hy with k | k <;> have := k (m - 1) (by omega) <;> omega
  have find : ∀ k, k < m → e < x k → ∃ u, u + 1 < m ∧ x u ≤ e ∧ e < x (u + 1) := fun k => by
    induction k with
    | zero => intro _ q; omega
    | succ k ih =>
      intro hk q
      rcases Int.lt_or_le e (x k) with t | t
      · exact ih (by omega) t
      · exact ⟨k, hk, t, q⟩
  obtain ⟨u, hu, k1, k2⟩ := find (m - 1) (by omega) (by omega)
  rw [vl_mid hC hm5 hu he hf k1 k2 g2]
  have i := hC.inc u (u + 1) (by omega) hu
  have low : ∀ z : Nat → Int, f < z u → f < z (u + 1) → (x (u + 1) - x u) * f < lnN (x u) (z u) (x (u + 1)) (z (u + 1)) e := fun z t1 t2 => by
    have m1 := Int.mul_pos (show 0 < z u - f by omega) (show 0 < x (u + 1) - e by omega)
    have m2 := Int.mul_nonneg (show 0 ≤ z (u + 1) - f by omega) (show 0 ≤ e - x u by omega)
    have : lnN (x u) (z u) (x (u + 1)) (z (u + 1)) e = (x (u + 1) - x u) * f + (z u - f) * (x (u + 1) - e) + (z (u + 1) - f) * (e - x u) := by unfold lnN; grind
    omega
  have top : ∀ z : Nat → Int, z u < f → z (u + 1) < f → lnN (x u) (z u) (x (u + 1)) (z (u + 1)) e < (x (u + 1) - x u) * f := fun z t1 t2 => by
    have m1 := Int.mul_pos (show 0 < f - z u by omega) (show 0 < x (u + 1) - e by omega)
    have m2 := Int.mul_nonneg (show 0 ≤ f - z (u + 1) by omega) (show 0 ≤ e - x u by omega)
    have : (x (u + 1) - x u) * f = lnN (x u) (z u) (x (u + 1)) (z (u + 1)) e + (f - z u) * (x (u + 1) - e) + (f - z (u + 1)) * (e - x u) := by unfold lnN; grind
    omega
  have up1 := hC.up u (by omega); have up2 := hC.up (u + 1) hu
  rcases hy with k | k
  · have k3 := k u (by omega); have k4 := k (u + 1) hu
    have a1 := low y k3 k4
    have a2 := low h (by omega) (by omega)
    unfold s3; rw [if_pos (by omega), if_neg (by omega), if_neg (by omega)]; rfl
  · have k3 := k u (by omega); have k4 := k (u + 1) hu
    have a1 := top y (by omega) (by omega)
    have a2 := top h k3 k4
    unfold s3; rw [if_neg (by omega), if_neg (by omega), if_pos (by omega)]; rfl
/-- The area. -/
theorem sum_area_eq {F : Nat → Int} (hF : ∀ j, j < 2 * m → ∀ a b c d, Kd m x y h j a b c d → F j = a * d - b * c) : sumN F (2 * m) = sumN (fun v => (x (v + 1) - x v) * ((h v - y v) + (h (v + 1) - y (v + 1)))) (m - 1) := by
  have hm := hC.two
  obtain ⟨k1, k2, k3, k4⟩ := kd_at (x := x) (y := y) (h := h) hm
  have t : ∀ u, u + 1 < m → F u + F (2 * m - 2 - u) = (x (u + 1) - x u) * ((h u - y u) + (h (u + 1) - y (u + 1))) - (x (u + 1) * (h (u + 1) - y (u + 1))) + (x u * (h u - y u)) := fun u hu => by
    rw [hF u (by omega) _ _ _ _ (k1 u hu), hF (2 * m - 2 - u) (by omega) _ _ _ _ (k3 u hu)]
    grind
  have z1 : F (m - 1) = x (m - 1) * (h (m - 1) - y (m - 1)) := by rw [hF _ (by omega) _ _ _ _ k2]; grind
  have z2 : F (2 * m - 1) = -(x 0 * (h 0 - y 0)) := by rw [hF _ (by omega) _ _ _ _ k4]; grind
  generalize hG : (fun u => x u * (h u - y u)) = G at *
  have g : ∀ u, x u * (h u - y u) = G u := fun u => by rw [← hG]
  simp only [g] at t z1 z2
  generalize hT : (fun v => (x (v + 1) - x v) * ((h v - y v) + (h (v + 1) - y (v + 1)))) = T at *
  have gT : ∀ v, (x (v + 1) - x v) * ((h v - y v) + (h (v + 1) - y (v + 1))) = T v := fun v => by rw [← hT]
  simp only [gT] at t
  have h4 : m = 2 ∨ m = 3 ∨ m = 4 ∨ m = 5 := by omega
  rcases h4 with rfl | rfl | rfl | rfl
  · have t0 := t 0 (by omega)
    simp only [sumN, Nat.reduceMul, Nat.reduceSub, Nat.reduceAdd, Nat.zero_add] at *
    omega
  · have t0 := t 0 (by omega); have t1 := t 1 (by omega)
    simp only [sumN, Nat.reduceMul, Nat.reduceSub, Nat.reduceAdd, Nat.zero_add] at *
    omega
  · have t0 := t 0 (by omega); have t1 := t 1 (by omega); have t2 := t 2 (by omega)
    simp only [sumN, Nat.reduceMul, Nat.reduceSub, Nat.reduceAdd, Nat.zero_add] at *
    omega
  · have t0 := t 0 (by omega); have t1 := t 1 (by omega); have t2 := t 2 (by omega); have t3 := t 3 (by omega)
    simp only [sumN, Nat.reduceMul, Nat.reduceSub, Nat.reduceAdd, Nat.zero_add] at *
    omega
end
/-! Quarters of a turn. -/
def S2 (f : Int → Int → Int) : Int := sumI (fun a => sumI (fun b => f a b) (-60) 61) (-60) 61
theorem S2_congr {f g : Int → Int → Int} (h : ∀ a b, -60 ≤ a → a < 61 → -60 ≤ b → b < 61 → f a b = g a b) : S2 f = S2 g := by
  unfold S2; exact sumI_congr fun a a1 a2 => sumI_congr fun b b1 b2 => h a b a1 a2 b1 b2
theorem S2_q (f : Int → Int → Int) : S2 (fun a b => f (0 - b) a) = S2 f := by
  unfold S2
  rw [sumI_swap]
  exact sumI_flip (fun z => sumI (fun a => f z a) (-60) 61) (s := 0) (lo := -60) (hi := 61) (by omega) (by omega) (by omega)
theorem S2_qt {t : Int} (ht : 0 ≤ t ∧ t < 4) (f : Int → Int → Int) : S2 (fun a b => f (qtx t a b) (qty t a b)) = S2 f := by
  have h2 : S2 (fun a b => f (0 - a) (0 - b)) = S2 f := (S2_q (fun a b => f (0 - b) a)).trans (S2_q f)
  have h3 : S2 (fun a b => f (0 - (0 - b)) (0 - a)) = S2 f := (S2_q (fun a b => f (0 - a) (0 - b))).trans h2
  have h4 : t = 0 ∨ t = 1 ∨ t = 2 ∨ t = 3 := by omega
  rcases h4 with rfl | rfl | rfl | rfl
  · rfl
  · exact S2_q f
  · exact h2
  · rw [← h3]
    exact S2_congr fun a b _ _ _ _ => by
      have e1 : qtx 3 a b = b := by simp [qtx]
      have e2 : qty 3 a b = 0 - a := by simp [qty]
      rw [e1, e2, show 0 - (0 - b) = b by omega]
theorem vl_made (L : List PV) {a b : Int} (ha : -60 ≤ a ∧ a ≤ 60) (hb : -60 ≤ b ∧ b ≤ 60) : vl (madeL L) (qtx (dr L 1 4) a b) (qty (dr L 1 4) a b) = vl (colM L) a b := by
  have ht := dr_range L 1 (n := 4) (by omega)
  have hC := mcols L
  have hm := mm_le L
  have hl : (colM L).length = 2 * mm L := colL_len _ _ _ _
  have hl2 := madeL_len2 L
  have hA := made_alike L
  have hin := colL_in hC
  have e1 := onS_mv hin (t := dr L 1 4) (u := 0) (v := 0) ht (by omega) (by omega) ha hb (2 * mm L) 0 (by omega) (by rw [hl]; omega)
  rw [Int.add_zero, Int.add_zero] at e1
  unfold vl
  rw [alike_onS hA _ _ _ 0 (by omega) (by omega), alike_rs hA _ _ _ 0 (by omega) (by omega), hl2, e1, hl]
  by_cases ho : onS (colM L) a b 0 (2 * mm L) = true
  · rw [if_pos ho, if_pos ho]
  · have e2 := rs_mv hin (t := dr L 1 4) (u := 0) (v := 0) ht (by omega) (by omega) ha hb (by rw [hl]; omega) (by rw [hl]; simpa using ho)
    rw [Int.add_zero, Int.add_zero, hl] at e2
    rw [if_neg ho, if_neg ho, e2]
/-- Pick's theorem. -/
theorem made_pick (L : List PV) : S2 (fun a b => vl (madeL L) a b) = ar2 (madeL L) + 2 := by
  have ht := dr_range L 1 (n := 4) (by omega)
  have hC := mcols L
  have hm := mm_le L
  have hl2 := madeL_len2 L
  have hl : (colM L).length = 2 * mm L := colL_len _ _ _ _
  have hI := made_img L
  rw [← S2_qt ht, S2_congr (g := fun a b => vl (colM L) a b) fun a b _ _ _ _ => vl_made L (by omega) (by omega)]
  have e : ar2 (madeL L) = sumN (fun v => (mxF (dr L) (v + 1) - mxF (dr L) v) * ((mhF (dr L) v - myF (dr L) v) + (mhF (dr L) (v + 1) - myF (dr L) (v + 1)))) (mm L - 1) := by
    rw [ar2_sum (madeL_in L) (by omega), hl2]
    refine sum_area_eq hC hm.2 fun j hj a b c d k => ?_
    have hr := nx_range (es := colM L) (i := (j : Int)) (by omega) (by omega)
    have e := kd_fun hm.1 (hC.kd_ring hj) k
    unfold crP
    rw [img_nx hI, hI.x j (by omega) (by omega), hI.y j (by omega) (by omega), hI.x _ hr.1 hr.2, hI.y _ hr.1 hr.2, qt_cross _ _ _ _ _ ht, e.1, e.2.1, e.2.2.1, e.2.2.2]
  rw [e]
  exact vall_col hC hm.2
/-- Nothing outside of the box. -/
theorem made_out (L : List PV) {e f : Int} (he : -60 ≤ e ∧ e ≤ 60) (hf : -60 ≤ f ∧ f ≤ 60)
    (g : (∀ j : Int, 0 ≤ j → j < ((madeL L).length : Int) → e < qX (madeL L) j) ∨ (∀ j : Int, 0 ≤ j → j < ((madeL L).length : Int) → qX (madeL L) j < e) ∨ (∀ j : Int, 0 ≤ j → j < ((madeL L).length : Int) → f < qY (madeL L) j) ∨ (∀ j : Int, 0 ≤ j → j < ((madeL L).length : Int) → qY (madeL L) j < f)) : vl (madeL L) e f = 0 := by
  have ht := dr_range L 1 (n := 4) (by omega)
  have hC := mcols L
  have hm := mm_le L
  have hl : (colM L).length = 2 * mm L := colL_len _ _ _ _
  have hl2 := madeL_len2 L
  have hI := made_img L
  obtain ⟨a, b, ha, hb, rfl, rfl⟩ := qt_inv ht he hf
  rw [vl_made L ha hb]
  have gp : ∀ k, k < 2 * mm L → qX (colM L) (k : Int) = cpx (mm L) (mxF (dr L)) k ∧ qY (colM L) (k : Int) = cpy (mm L) (myF (dr L)) (mhF (dr L)) k := fun k hk => by
    unfold qX qY; rw [Int.toNat_natCast, colL_get _ _ _ _ k hk]; exact ⟨rfl, rfl⟩
  have lo : ∀ u, u < mm L → qX (colM L) ((u : Nat) : Int) = mxF (dr L) u ∧ qY (colM L) ((u : Nat) : Int) = myF (dr L) u := fun u hu => by
    have q := gp u (by omega)
    unfold cpx cpy at q
    rw [if_pos hu, if_pos hu] at q; exact q
  have up : ∀ u, u < mm L → qX (colM L) ((2 * mm L - 1 - u : Nat) : Int) = mxF (dr L) u ∧ qY (colM L) ((2 * mm L - 1 - u : Nat) : Int) = mhF (dr L) u := fun u hu => by
    have q := gp (2 * mm L - 1 - u) (by omega)
    unfold cpx cpy at q
    rw [if_neg (show ¬ 2 * mm L - 1 - u < mm L by omega), if_neg (show ¬ 2 * mm L - 1 - u < mm L by omega), if_pos (show 2 * mm L - 1 - u < 2 * mm L by omega), if_pos (show 2 * mm L - 1 - u < 2 * mm L by omega), show 2 * mm L - 1 - (2 * mm L - 1 - u) = u by omega] at q; exact q
  have im : ∀ (k : Nat), k < 2 * mm L → qX (madeL L) (k : Int) = qtx (dr L 1 4) (qX (colM L) (k : Int)) (qY (colM L) (k : Int)) ∧ qY (madeL L) (k : Int) = qty (dr L 1 4) (qX (colM L) (k : Int)) (qY (colM L) (k : Int)) := fun k hk =>
    ⟨hI.x _ (by omega) (by omega), hI.y _ (by omega) (by omega)⟩
  refine vl_out hC hm.2 ha hb ?_
  have h4 : dr L 1 4 = 0 ∨ dr L 1 4 = 1 ∨ dr L 1 4 = 2 ∨ dr L 1 4 = 3 := by omega
  have X : ∀ (P : Int → Int → Prop), (∀ j : Int, 0 ≤ j → j < ((madeL L).length : Int) → P (qX (madeL L) j) (qY (madeL L) j)) → ∀ u, u < mm L → P (qtx (dr L 1 4) (mxF (dr L) u) (myF (dr L) u)) (qty (dr L 1 4) (mxF (dr L) u) (myF (dr L) u)) ∧ P (qtx (dr L 1 4) (mxF (dr L) u) (mhF (dr L) u)) (qty (dr L 1 4) (mxF (dr L) u) (mhF (dr L) u)) := fun P hP u hu => by
    have p1 := hP (u : Int) (by omega) (by omega)
    have p2 := hP ((2 * mm L - 1 - u : Nat) : Int) (by omega) (by omega)
    rw [(im u (by omega)).1, (im u (by omega)).2, (lo u hu).1, (lo u hu).2] at p1
    rw [(im _ (by omega)).1, (im _ (by omega)).2, (up u hu).1, (up u hu).2] at p2
    exact ⟨p1, p2⟩
  have g' : (∀ u, u < mm L → qtx (dr L 1 4) a b < qtx (dr L 1 4) (mxF (dr L) u) (myF (dr L) u) ∧ qtx (dr L 1 4) a b < qtx (dr L 1 4) (mxF (dr L) u) (mhF (dr L) u)) ∨
      (∀ u, u < mm L → qtx (dr L 1 4) (mxF (dr L) u) (myF (dr L) u) < qtx (dr L 1 4) a b ∧ qtx (dr L 1 4) (mxF (dr L) u) (mhF (dr L) u) < qtx (dr L 1 4) a b) ∨
      (∀ u, u < mm L → qty (dr L 1 4) a b < qty (dr L 1 4) (mxF (dr L) u) (myF (dr L) u) ∧ qty (dr L 1 4) a b < qty (dr L 1 4) (mxF (dr L) u) (mhF (dr L) u)) ∨
      (∀ u, u < mm L → qty (dr L 1 4) (mxF (dr L) u) (myF (dr L) u) < qty (dr L 1 4) a b ∧ qty (dr L 1 4) (mxF (dr L) u) (mhF (dr L) u) < qty (dr L 1 4) a b) := by
    rcases g with g | g | g | g
    · exact .inl (X (fun p _ => qtx (dr L 1 4) a b < p) g)
    · exact .inr (.inl (X (fun p _ => p < qtx (dr L 1 4) a b) g))
    · exact .inr (.inr (.inl (X (fun _ q => qty (dr L 1 4) a b < q) g)))
    · exact .inr (.inr (.inr (X (fun _ q => q < qty (dr L 1 4) a b) g)))
  clear g X im up lo gp
  rcases h4 with t | t | t | t <;> rw [t] at g' <;> simp [qtx, qty] at g'
  · rcases g' with g | g | g | g
    · exact .inl fun u hu => g u hu
    · exact .inr (.inl fun u hu => g u hu)
    · exact .inr (.inr (.inl fun u hu => (g u hu).1))
    · exact .inr (.inr (.inr fun u hu => (g u hu).2))
  · rcases g' with g | g | g | g
    · exact .inr (.inr (.inr fun u hu => by have := (g u hu).2; omega))
    · exact .inr (.inr (.inl fun u hu => by have := (g u hu).1; omega))
    · exact .inl fun u hu => g u hu
    · exact .inr (.inl fun u hu => g u hu)
  · rcases g' with g | g | g | g
    · exact .inr (.inl fun u hu => by have := g u hu; omega)
    · exact .inl fun u hu => by have := g u hu; omega
    · exact .inr (.inr (.inr fun u hu => by have := (g u hu).2; omega))
    · exact .inr (.inr (.inl fun u hu => by have := (g u hu).1; omega))
  · rcases g' with g | g | g | g
    · exact .inr (.inr (.inl fun u hu => (g u hu).1))
    · exact .inr (.inr (.inr fun u hu => (g u hu).2))
    · exact .inr (.inl fun u hu => by have := g u hu; omega)
    · exact .inl fun u hu => by have := g u hu; omega
/-- The sum over the box. -/
theorem made_box (L : List PV) {lx ly hx hy : Int} (b1 : -59 ≤ lx ∧ hx ≤ 59 ∧ lx ≤ hx) (b2 : -59 ≤ ly ∧ hy ≤ 59 ∧ ly ≤ hy) (hb : ∀ j : Int, 0 ≤ j → j < ((madeL L).length : Int) → (lx ≤ qX (madeL L) j ∧ qX (madeL L) j ≤ hx) ∧ (ly ≤ qY (madeL L) j ∧ qY (madeL L) j ≤ hy)) :
    sumI (fun a => sumI (fun b => vl (madeL L) a b) (ly - 1) (hy + 2)) (lx - 1) (hx + 2) = ar2 (madeL L) + 2 := by
  have out : ∀ e f, -60 ≤ e → e < 61 → -60 ≤ f → f < 61 → (e < lx - 1 ∨ hx + 2 ≤ e ∨ f < ly - 1 ∨ hy + 2 ≤ f) → vl (madeL L) e f = 0 := fun e f e1 e2 f1 f2 g => by
    refine made_out L (by omega) (by omega) ?_
    rcases g with g | g | g | g
    · exact .inl fun j j0 j1 => by have := hb j j0 j1; omega
    · exact .inr (.inl fun j j0 j1 => by have := hb j j0 j1; omega)
    · exact .inr (.inr (.inl fun j j0 j1 => by have := hb j j0 j1; omega))
    · exact .inr (.inr (.inr fun j j0 j1 => by have := hb j j0 j1; omega))
  rw [← made_pick L]
  unfold S2
  symm
  rw [sumI_trim (lo := lx - 1) (hi := hx + 2) (by omega) (by omega) (by omega) (fun e e1 e2 g => sumI_zero fun f f1 f2 => out e f e1 e2 f1 f2 (by omega))]
  exact sumI_congr fun a a1 a2 => sumI_trim (by omega) (by omega) (by omega) (fun f f1 f2 g => out a f (by omega) (by omega) f1 f2 (by omega))
end Go.Hg
/- Geometry: RingPick: its first loop: the box. -/
namespace Go.Hg
open Go.Hx Go.Proofs
def mn2 (a b : Int) : Int := if b < a then b else a
def mx2 (a b : Int) : Int := if b > a then b else a
def shQ5 : S1 := ⟨100, [(3, .bool), (4, .lst 23), (5, .ptr 0 1 0 0), (6, .ptr 1 1 0 0), (23, .lst 23), (24, I64), (25, I64)],
  [.one 23 2 (.agg [I64, I64]), .one 23 2 (.agg [I64, I64])]⟩
abbrev lQ5 (u f : Bool) (R : List PV) (g : Bool) (T : List PV) (len j lx ly hx hy : Int) : LS := ([.b u, .l f R, .l g T, .i len, .i j], [.i lx, .i ly, .i hx, .i hy])
noncomputable abbrev xQ5 (u f : Bool) (R : List PV) (g : Bool) (T : List PV) (len lx ly hx hy : Int) : PX × List PV × List Row :=
  (.exit 0, tm 100 [(3, bv u), (4, .lst f 23 R), (5, .ptr 0 1 0 0), (6, .ptr 1 1 0 0)], (shQ5.put (lQ5 u f R g T len 0 lx ly hx hy)).2)
theorem qQ5 (u f : Bool) (R : List PV) (g : Bool) (T : List PV) (len j lx ly hx hy : Int) :
  runB Try.prog E39 60 15 (lpb Try.f15 5) [3, 4, 5, 6, 23, 24, 25] [3, 4, 5, 6] (shQ5.put (lQ5 u f R g T len j lx ly hx hy)).1 (shQ5.put (lQ5 u f R g T len j lx ly hx hy)).2 =
  bif decide (j < len) then bif inr T j then
    some (.normal, shQ5.put (lQ5 u f R g T len (W (j + 1)) (mn2 lx (qX T j)) (mn2 ly (qY T j)) (mx2 hx (qX T j)) (mx2 hy (qY T j))))
    else none
  else some (xQ5 u f R g T len lx ly hx hy) := by kernel_rfl
def foldJ (F : Int → Int → Int) (G : Int → Int) (j : Int) : Nat → Int → Int
  | 0, acc => acc
  | m + 1, acc => foldJ F G (j + 1) m (F acc (G j))
def pQ5 : LS → Bool
  | ([.b _, .l _ _, .l _ T, .i len, .i j], [.i _, .i _, .i _, .i _]) => decide (0 ≤ j) && decide (j ≤ len) && decide (len = (T.length : Int)) && decide (T.length ≤ 1000)
  | _ => false
noncomputable def fQ5 : LS → DT (PX × List PV × List Row)
  | ([.b u, .l f R, .l g T, .i len, .i j], [.i lx, .i ly, .i hx, .i hy]) =>
    .leaf (xQ5 u f R g T len (foldJ mn2 (qX T) j (len - j).toNat lx) (foldJ mn2 (qY T) j (len - j).toNat ly) (foldJ mx2 (qX T) j (len - j).toNat hx) (foldJ mx2 (qY T) j (len - j).toNat hy))
  | _ => .no
def mQ5 : LS → Nat
  | ([.b _, .l _ _, .l _ _, .i len, .i j], [.i _, .i _, .i _, .i _]) => (len - j).toNat
  | _ => 0
theorem sQ5 : ∀ s r, pQ5 s = true → (fQ5 s).run = some r → r.1 ≠ .normal ∧ (runB Try.prog E39 60 15 (lpb Try.f15 5) [3, 4, 5, 6, 23, 24, 25] [3, 4, 5, 6] (shQ5.put s).1 (shQ5.put s).2 = some r ∨
      ∃ s', runB Try.prog E39 60 15 (lpb Try.f15 5) [3, 4, 5, 6, 23, 24, 25] [3, 4, 5, 6] (shQ5.put s).1 (shQ5.put s).2 = some (.normal, shQ5.put s') ∧ pQ5 s' = true ∧ mQ5 s' < mQ5 s ∧ (fQ5 s').run = some r) := by
  intro s r hp hr
  unfold pQ5 at hp; split at hp
  · rename_i u f R g T len j lx ly hx hy
    simp only [Bool.and_eq_true, decide_eq_true_eq] at hp
    obtain ⟨⟨⟨h1, h2⟩, h3⟩, h9⟩ := hp
    have hr' := (Option.some.inj hr).symm
    refine ⟨by rw [hr']; simp, ?_⟩
    subst h3
    rw [show shQ5.put ([.b u, .l f R, .l g T, .i (T.length : Int), .i j], [.i lx, .i ly, .i hx, .i hy]) = shQ5.put (lQ5 u f R g T (T.length : Int) j lx ly hx hy) from rfl, qQ5]
    by_cases hi : j < (T.length : Int)
    · have hw := W_id (n := j + 1) (by omega) (by omega)
      rw [decide_eq_true hi, cond_true, hw, inr_of h1 hi]
      simp only [cond_true]
      obtain ⟨m, hm⟩ : ∃ m, ((T.length : Int) - j).toNat = m + 1 := ⟨((T.length : Int) - j).toNat - 1, by omega⟩
      have hm2 : ((T.length : Int) - (j + 1)).toNat = m := by omega
      rw [hm] at hr'
      simp only [foldJ] at hr'
      right
      refine ⟨lQ5 u f R g T (T.length : Int) (j + 1) (mn2 lx (qX T j)) (mn2 ly (qY T j)) (mx2 hx (qX T j)) (mx2 hy (qY T j)), rfl, by simp [pQ5]; omega, by simp only [mQ5]; omega, ?_⟩
      rw [hr']
      simp only [fQ5, hm2]
      simp [DT.run]
    · rw [decide_eq_false hi]
      rw [show ((T.length : Int) - j).toNat = 0 by omega] at hr'
      exact .inl (by rw [hr']; simp [foldJ])
  · cases hp
noncomputable def E85 : EnvK := E39.addW 15 5 [3, 4, 5, 6, 23, 24, 25] [] shQ5 pQ5 fQ5
theorem ok85 : EnvOK Try.prog E85.env :=
  ok39.addW (n := 60) Try.func15 (show Try.f15.body = some (bod Try.f15) by kernel_rfl) (show (loops (bod Try.f15)).filter (fun b => rid b == 5) = [lpb Try.f15 5] by kernel_rfl) [3, 4, 5, 6, 23, 24, 25] [3, 4, 5, 6] [] shQ5 mQ5 sQ5
end Go.Hg
/- Geometry: RingPick: its inner loop: a column. -/
namespace Go.Hg
open Go.Hx Go.Proofs
def shQ6 : S1 := ⟨100, [(3, .bool), (4, .lst 23), (5, .ptr 0 1 0 0), (6, .ptr 1 1 0 0), (9, I64), (10, I64), (11, I64), (12, I64)],
  [.one 23 2 (.agg [I64, I64]), .one 23 2 (.agg [I64, I64])]⟩
abbrev lQ6 (u f : Bool) (R : List PV) (i o x y lx ly hx hy : Int) : LS := ([.b u, .l f R, .i i, .i o, .i x, .i y], [.i lx, .i ly, .i hx, .i hy])
noncomputable abbrev xQ6 (u f : Bool) (R : List PV) (i o x lx ly hx hy : Int) : PX × List PV × List Row :=
  (.exit 4, tm 100 [(3, bv u), (4, .lst f 23 R), (5, .ptr 0 1 0 0), (6, .ptr 1 1 0 0), (9, iv i), (10, iv o), (11, iv x)], (shQ6.put (lQ6 u f R i o x 0 lx ly hx hy)).2)
theorem qQ6 (u f : Bool) (R : List PV) (i o x y lx ly hx hy : Int) :
  runB Try.prog E85 60 15 (lpb Try.f15 15) [3, 4, 5, 6, 9, 10, 11, 12] [3, 4, 5, 6, 9, 10, 11] (shQ6.put (lQ6 u f R i o x y lx ly hx hy)).1 (shQ6.put (lQ6 u f R i o x y lx ly hx hy)).2 =
  bif decide (y ≤ W (hy + 1)) then bif big R then
    bif ins R x y == 1 then some (.normal, shQ6.put (lQ6 u f R (W (i + 1)) o x (W (y + 1)) lx ly hx hy)) else
    bif ins R x y == 0 then some (.normal, shQ6.put (lQ6 u f R i (W (o + 1)) x (W (y + 1)) lx ly hx hy)) else
    some (.normal, shQ6.put (lQ6 u f R i o x (W (y + 1)) lx ly hx hy))
    else none
  else some (xQ6 u f R i o x lx ly hx hy) := by kernel_rfl
/-- How many points of a column are inside (v = 1), or on the ring (v = 0). -/
def cnt (R : List PV) (v x y : Int) : Nat → Int
  | 0 => 0
  | m + 1 => (bif ins R x y == v then 1 else 0) + cnt R v x (y + 1) m
theorem cnt_le (R : List PV) (v x : Int) : ∀ (m : Nat) (y : Int), 0 ≤ cnt R v x y m ∧ cnt R v x y m ≤ m
  | 0, _ => by simp [cnt]
  | m + 1, y => by
    have := cnt_le R v x m (y + 1)
    simp only [cnt]
    cases ins R x y == v <;> simp only [cond_true, cond_false] <;> omega
def pQ6 : LS → Bool
  | ([.b _, .l _ R, .i i, .i o, .i _, .i y], [.i _, .i _, .i _, .i hy]) => decide (R.length ≤ 1000) && decide (0 ≤ i) && decide (0 ≤ o) && decide (-100 ≤ y) && decide (hy ≤ 100) && decide (i + (hy + 2 - y).toNat ≤ 1000000) && decide (o + (hy + 2 - y).toNat ≤ 1000000) && decide (-100 ≤ hy) && decide (y ≤ 200)
  | _ => false
noncomputable def fQ6 : LS → DT (PX × List PV × List Row)
  | ([.b u, .l f R, .i i, .i o, .i x, .i y], [.i lx, .i ly, .i hx, .i hy]) =>
    .leaf (xQ6 u f R (i + cnt R 1 x y (hy + 2 - y).toNat) (o + cnt R 0 x y (hy + 2 - y).toNat) x lx ly hx hy)
  | _ => .no
def mQ6 : LS → Nat
  | ([.b _, .l _ _, .i _, .i _, .i _, .i y], [.i _, .i _, .i _, .i hy]) => (hy + 2 - y).toNat
  | _ => 0
theorem sQ6 : ∀ s r, pQ6 s = true → (fQ6 s).run = some r → r.1 ≠ .normal ∧ (runB Try.prog E85 60 15 (lpb Try.f15 15) [3, 4, 5, 6, 9, 10, 11, 12] [3, 4, 5, 6, 9, 10, 11] (shQ6.put s).1 (shQ6.put s).2 = some r ∨
      ∃ s', runB Try.prog E85 60 15 (lpb Try.f15 15) [3, 4, 5, 6, 9, 10, 11, 12] [3, 4, 5, 6, 9, 10, 11] (shQ6.put s).1 (shQ6.put s).2 = some (.normal, shQ6.put s') ∧ pQ6 s' = true ∧ mQ6 s' < mQ6 s ∧ (fQ6 s').run = some r) := by
  intro s r hp hr
  unfold pQ6 at hp; split at hp
  · rename_i u f R i o x y lx ly hx hy
    simp only [Bool.and_eq_true, decide_eq_true_eq] at hp
    obtain ⟨⟨⟨⟨⟨⟨⟨⟨h1, h2⟩, h3⟩, h4⟩, h5⟩, h6⟩, h7⟩, h8⟩, h9⟩ := hp
    have hr' := (Option.some.inj hr).symm
    refine ⟨by rw [hr']; simp, ?_⟩
    rw [show shQ6.put ([.b u, .l f R, .i i, .i o, .i x, .i y], [.i lx, .i ly, .i hx, .i hy]) = shQ6.put (lQ6 u f R i o x y lx ly hx hy) from rfl, qQ6]
    rw [W_id (n := hy + 1) (by omega) (by omega)]
    by_cases hi : y ≤ hy + 1
    · have hw := W_id (n := y + 1) (by omega) (by omega)
      have hw1 := W_id (n := i + 1) (by omega) (by omega)
      have hw2 := W_id (n := o + 1) (by omega) (by omega)
      rw [decide_eq_true hi, cond_true, hw, hw1, hw2, show big R = true by simp [big]; omega]
      simp only [cond_true]
      obtain ⟨m, hm⟩ : ∃ m, (hy + 2 - y).toNat = m + 1 := ⟨(hy + 2 - y).toNat - 1, by omega⟩
      have hm2 : (hy + 2 - (y + 1)).toNat = m := by omega
      rw [hm] at hr'
      simp only [cnt] at hr'
      right
      cases e1 : ins R x y == 1 with
      | true =>
        have e0 : (ins R x y == 0) = false := by rw [beq_iff_eq] at e1; rw [e1]; rfl
        refine ⟨lQ6 u f R (i + 1) o x (y + 1) lx ly hx hy, rfl, by simp [pQ6]; omega, by simp only [mQ6]; omega, ?_⟩
        rw [hr', e1, e0]
        simp only [fQ6, hm2, cond_true, cond_false, DT.run, Int.zero_add]
        rw [show i + 1 + cnt R 1 x (y + 1) m = i + (1 + cnt R 1 x (y + 1) m) by omega]
      | false =>
        cases e0 : ins R x y == 0 with
        | true =>
          refine ⟨lQ6 u f R i (o + 1) x (y + 1) lx ly hx hy, rfl, by simp [pQ6]; omega, by simp only [mQ6]; omega, ?_⟩
          rw [hr', e1, e0]
          simp only [fQ6, hm2, cond_true, cond_false, DT.run, Int.zero_add]
          rw [show o + 1 + cnt R 0 x (y + 1) m = o + (1 + cnt R 0 x (y + 1) m) by omega]
        | false =>
          refine ⟨lQ6 u f R i o x (y + 1) lx ly hx hy, rfl, by simp [pQ6]; omega, by simp only [mQ6]; omega, ?_⟩
          rw [hr', e1, e0]
          simp only [fQ6, hm2, cond_false, DT.run, Int.zero_add]
    · rw [decide_eq_false hi]
      rw [show (hy + 2 - y).toNat = 0 by omega] at hr'
      exact .inl (by rw [hr']; simp [cnt])
  · cases hp
noncomputable def E86 : EnvK := E85.addW 15 15 [3, 4, 5, 6, 9, 10, 11, 12] [] shQ6 pQ6 fQ6
theorem ok86 : EnvOK Try.prog E86.env :=
  ok85.addW (n := 60) Try.func15 (show Try.f15.body = some (bod Try.f15) by kernel_rfl) (show (loops (bod Try.f15)).filter (fun b => rid b == 15) = [lpb Try.f15 15] by kernel_rfl) [3, 4, 5, 6, 9, 10, 11, 12] [3, 4, 5, 6, 9, 10, 11] [] shQ6 mQ6 sQ6
end Go.Hg
/- Geometry: RingPick: its outer loop: all columns. -/
namespace Go.Hg
open Go.Hx Go.Proofs
def shQ7 : S1 := ⟨100, [(3, .bool), (4, .lst 23), (5, .ptr 0 1 0 0), (6, .ptr 1 1 0 0), (9, I64), (10, I64), (11, I64)],
  [.one 23 2 (.agg [I64, I64]), .one 23 2 (.agg [I64, I64])]⟩
abbrev lQ7 (u f : Bool) (R : List PV) (i o x lx ly hx hy : Int) : LS := ([.b u, .l f R, .i i, .i o, .i x], [.i lx, .i ly, .i hx, .i hy])
noncomputable abbrev xQ7 (u f : Bool) (R : List PV) (i o lx ly hx hy : Int) : PX × List PV × List Row :=
  (.exit 2, tm 100 [(3, bv u), (4, .lst f 23 R), (9, iv i), (10, iv o)], (shQ7.put (lQ7 u f R i o 0 lx ly hx hy)).2)
theorem qQ7 (u f : Bool) (R : List PV) (i o x lx ly hx hy : Int) :
  runB Try.prog E86 60 15 (lpb Try.f15 12) [3, 4, 5, 6, 9, 10, 11] [3, 4, 9, 10] (shQ7.put (lQ7 u f R i o x lx ly hx hy)).1 (shQ7.put (lQ7 u f R i o x lx ly hx hy)).2 =
  bif decide (x ≤ W (hx + 1)) then bif pQ6 (lQ6 u f R i o x (W (ly - 1)) lx ly hx hy) then
    some (.normal, shQ7.put (lQ7 u f R (i + cnt R 1 x (W (ly - 1)) (hy + 2 - W (ly - 1)).toNat) (o + cnt R 0 x (W (ly - 1)) (hy + 2 - W (ly - 1)).toNat) (W (x + 1)) lx ly hx hy))
    else none
  else some (xQ7 u f R i o lx ly hx hy) := by kernel_rfl
/-- How many points of all columns. -/
def cnts (R : List PV) (v y : Int) (k : Nat) (x : Int) : Nat → Int
  | 0 => 0
  | m + 1 => cnt R v x y k + cnts R v y k (x + 1) m
theorem cnts_le (R : List PV) (v y : Int) (k : Nat) : ∀ (m : Nat) (x : Int), 0 ≤ cnts R v y k x m ∧ cnts R v y k x m ≤ k * m
  | 0, _ => by simp [cnts]
  | m + 1, x => by
    have h1 := cnts_le R v y k m (x + 1)
    have h2 := cnt_le R v x k y
    simp only [cnts]
    rw [Int.natCast_succ, Int.mul_add]; omega
def pQ7 : LS → Bool
  | ([.b _, .l _ R, .i i, .i o, .i x], [.i _, .i ly, .i hx, .i hy]) => decide (R.length ≤ 1000) && decide (0 ≤ i) && decide (0 ≤ o) && decide (-70 ≤ x) && decide (x ≤ 100) && decide (hx ≤ 70) && decide (-70 ≤ ly) && decide (ly ≤ 70) && decide (-70 ≤ hy) && decide (hy ≤ 70) && decide (-70 ≤ hx) &&
    decide (i + 200 * (hx + 2 - x).toNat ≤ 100000) && decide (o + 200 * (hx + 2 - x).toNat ≤ 100000)
  | _ => false
noncomputable def fQ7 : LS → DT (PX × List PV × List Row)
  | ([.b u, .l f R, .i i, .i o, .i x], [.i lx, .i ly, .i hx, .i hy]) =>
    .leaf (xQ7 u f R (i + cnts R 1 (ly - 1) (hy + 3 - ly).toNat x (hx + 2 - x).toNat) (o + cnts R 0 (ly - 1) (hy + 3 - ly).toNat x (hx + 2 - x).toNat) lx ly hx hy)
  | _ => .no
def mQ7 : LS → Nat
  | ([.b _, .l _ _, .i _, .i _, .i x], [.i _, .i _, .i hx, .i _]) => (hx + 2 - x).toNat
  | _ => 0
theorem sQ7 : ∀ s r, pQ7 s = true → (fQ7 s).run = some r → r.1 ≠ .normal ∧ (runB Try.prog E86 60 15 (lpb Try.f15 12) [3, 4, 5, 6, 9, 10, 11] [3, 4, 9, 10] (shQ7.put s).1 (shQ7.put s).2 = some r ∨
      ∃ s', runB Try.prog E86 60 15 (lpb Try.f15 12) [3, 4, 5, 6, 9, 10, 11] [3, 4, 9, 10] (shQ7.put s).1 (shQ7.put s).2 = some (.normal, shQ7.put s') ∧ pQ7 s' = true ∧ mQ7 s' < mQ7 s ∧ (fQ7 s').run = some r) := by
  intro s r hp hr
  unfold pQ7 at hp; split at hp
  · rename_i u f R i o x lx ly hx hy
    simp only [Bool.and_eq_true, decide_eq_true_eq] at hp
    obtain ⟨⟨⟨⟨⟨⟨⟨⟨⟨⟨⟨⟨h1, h2⟩, h3⟩, h4⟩, h5⟩, h6⟩, h7⟩, h8⟩, h9⟩, h10⟩, h11⟩, h12⟩, h13⟩ := hp
    have hr' := (Option.some.inj hr).symm
    refine ⟨by rw [hr']; simp, ?_⟩
    rw [show shQ7.put ([.b u, .l f R, .i i, .i o, .i x], [.i lx, .i ly, .i hx, .i hy]) = shQ7.put (lQ7 u f R i o x lx ly hx hy) from rfl, qQ7]
    rw [W_id (n := hx + 1) (by omega) (by omega), W_id (n := ly - 1) (by omega) (by omega)]
    by_cases hi : x ≤ hx + 1
    · have hw := W_id (n := x + 1) (by omega) (by omega)
      have hp6 : pQ6 (lQ6 u f R i o x (ly - 1) lx ly hx hy) = true := by simp [pQ6]; omega
      rw [decide_eq_true hi, cond_true, hw, hp6, show (hy + 2 - (ly - 1)).toNat = (hy + 3 - ly).toNat by omega]
      simp only [cond_true]
      obtain ⟨m, hm⟩ : ∃ m, (hx + 2 - x).toNat = m + 1 := ⟨(hx + 2 - x).toNat - 1, by omega⟩
      have hm2 : (hx + 2 - (x + 1)).toNat = m := by omega
      rw [hm] at hr'
      simp only [cnts] at hr'
      have c1 := cnt_le R 1 x (hy + 3 - ly).toNat (ly - 1)
      have c0 := cnt_le R 0 x (hy + 3 - ly).toNat (ly - 1)
      right
      refine ⟨lQ7 u f R (i + cnt R 1 x (ly - 1) (hy + 3 - ly).toNat) (o + cnt R 0 x (ly - 1) (hy + 3 - ly).toNat) (x + 1) lx ly hx hy, rfl, by simp [pQ7]; omega, by simp only [mQ7]; omega, ?_⟩
      rw [hr']
      simp only [fQ7, hm2, DT.run]
      rw [Int.add_assoc, Int.add_assoc]
    · rw [decide_eq_false hi]
      rw [show (hx + 2 - x).toNat = 0 by omega] at hr'
      exact .inl (by rw [hr']; simp [cnts])
  · cases hp
noncomputable def E87 : EnvK := E86.addW 15 12 [3, 4, 5, 6, 9, 10, 11] [] shQ7 pQ7 fQ7
theorem ok87 : EnvOK Try.prog E87.env :=
  ok86.addW (n := 60) Try.func15 (show Try.f15.body = some (bod Try.f15) by kernel_rfl) (show (loops (bod Try.f15)).filter (fun b => rid b == 12) = [lpb Try.f15 12] by kernel_rfl) [3, 4, 5, 6, 9, 10, 11] [3, 4, 9, 10] [] shQ7 mQ7 sQ7
end Go.Hg
/- Geometry: RingPick: what it comes to. -/
namespace Go.Hg
open Go.Hx Go.Proofs
def mnx (R : List PV) : Int := foldJ mn2 (qX R) 0 ((R.length : Int) - 0).toNat (qX R 0)
def mny (R : List PV) : Int := foldJ mn2 (qY R) 0 ((R.length : Int) - 0).toNat (qY R 0)
def mxx (R : List PV) : Int := foldJ mx2 (qX R) 0 ((R.length : Int) - 0).toNat (qX R 0)
def mxy (R : List PV) : Int := foldJ mx2 (qY R) 0 ((R.length : Int) - 0).toNat (qY R 0)
def pickT (R : List PV) (x : Int) : Option PV :=
  bif inr R 0 then bif inr R 0 then bif pQ5 (lQ5 true false R false R (R.length : Int) 0 (qX R 0) (qY R 0) (qX R 0) (qY R 0)) then
    bif pQ7 (lQ7 true false R 0 0 x (mnx R) (mny R) (mxx R) (mxy R)) then bif big R then
      some (bv (mx2 (ar2 R) (W (0 - ar2 R)) == W (W (W (2 * (0 + cnts R 1 (mny R - 1) (mxy R + 3 - mny R).toNat x (mxx R + 2 - x).toNat)) + (0 + cnts R 0 (mny R - 1) (mxy R + 3 - mny R).toNat x (mxx R + 2 - x).toNat)) - 2)))
    else none else none else none else none else none
theorem q20 (f : Bool) (L : List PV) : runP Try.prog E87 100 15 [.lst f 3 L] = pickT (madeL L) (W (mnx (madeL L) - 1)) := by kernel_rfl
end Go.Hg
/- Geometry: RingPick answers true. -/
namespace Go.Hg
open Go.Hx Go.Proofs
theorem foldJ_mn (G : Int → Int) : ∀ (m : Nat) (j acc : Int), foldJ mn2 G j m acc ≤ acc ∧ (∀ k : Nat, k < m → foldJ mn2 G j m acc ≤ G (j + k)) ∧ (∀ B : Int, B ≤ acc → (∀ k : Nat, k < m → B ≤ G (j + k)) → B ≤ foldJ mn2 G j m acc)
  | 0, j, acc => ⟨Int.le_refl _, fun k hk => by omega, fun B h _ => h⟩
  | m + 1, j, acc => by
    obtain ⟨h1, h2, h3⟩ := foldJ_mn G m (j + 1) (mn2 acc (G j))
    have e : mn2 acc (G j) ≤ acc ∧ mn2 acc (G j) ≤ G j ∧ (mn2 acc (G j) = acc ∨ mn2 acc (G j) = G j) := by unfold mn2; split <;> omega
    simp only [foldJ]
    refine ⟨by omega, fun k hk => ?_, fun B hB hk => h3 B ?_ fun k hk' => ?_⟩
    · cases k with
      | zero => rw [show j + ((0 : Nat) : Int) = j by omega]; omega
      | succ k => have := h2 k (by omega); rwa [show j + 1 + (k : Int) = j + ((k + 1 : Nat) : Int) by omega] at this
    · have := hk 0 (by omega); rw [show j + ((0 : Nat) : Int) = j by omega] at this; omega
    · have := hk (k + 1) (by omega); rwa [show j + 1 + (k : Int) = j + ((k + 1 : Nat) : Int) by omega]
theorem foldJ_mx (G : Int → Int) : ∀ (m : Nat) (j acc : Int), acc ≤ foldJ mx2 G j m acc ∧ (∀ k : Nat, k < m → G (j + k) ≤ foldJ mx2 G j m acc) ∧ (∀ B : Int, acc ≤ B → (∀ k : Nat, k < m → G (j + k) ≤ B) → foldJ mx2 G j m acc ≤ B)
  | 0, j, acc => ⟨Int.le_refl _, fun k hk => by omega, fun B h _ => h⟩
  | m + 1, j, acc => by
    obtain ⟨h1, h2, h3⟩ := foldJ_mx G m (j + 1) (mx2 acc (G j))
    have e : acc ≤ mx2 acc (G j) ∧ G j ≤ mx2 acc (G j) ∧ (mx2 acc (G j) = acc ∨ mx2 acc (G j) = G j) := by unfold mx2; split <;> omega
    simp only [foldJ]
    refine ⟨by omega, fun k hk => ?_, fun B hB hk => h3 B ?_ fun k hk' => ?_⟩
    · cases k with
      | zero => rw [show j + ((0 : Nat) : Int) = j by omega]; omega
      | succ k => have := h2 k (by omega); rwa [show j + 1 + (k : Int) = j + ((k + 1 : Nat) : Int) by omega] at this
    · have := hk 0 (by omega); rw [show j + ((0 : Nat) : Int) = j by omega] at this; omega
    · have := hk (k + 1) (by omega); rwa [show j + 1 + (k : Int) = j + ((k + 1 : Nat) : Int) by omega]
theorem vl_ins {R : List PV} (g : rchk R = 0) (hl : R.length ≤ 1000) (e f : Int) : vl R e f = 2 * (bif ins R e f == 1 then 1 else 0) + (bif ins R e f == 0 then 1 else 0) := by
  have e2 : smS R e f 0 R.length 0 = rs R e f 0 R.length := by rw [smS_rs _ _ _ _ _ _ (by omega)]; omega
  unfold vl ins
  rw [g, e2]
  cases ho : onS R e f 0 R.length with
  | true => simp
  | false =>
    by_cases hz : rs R e f 0 R.length = 0
    · rw [hz]; simp
    · have hb : (rs R e f 0 R.length == 0) = false := by simpa using hz
      simp [hz, hb]
theorem cnt_sum {R : List PV} (g : rchk R = 0) (hl : R.length ≤ 1000) (x : Int) : ∀ (m : Nat) (y : Int), 2 * cnt R 1 x y m + cnt R 0 x y m = sumI (fun f => vl R x f) y (y + m)
  | 0, y => by rw [show y + ((0 : Nat) : Int) = y by omega, sumI_none]; simp [cnt]
  | m + 1, y => by
    rw [sumI_split (mid := y + 1) (by omega) (by omega), sumI_one, show y + ((m + 1 : Nat) : Int) = y + 1 + (m : Int) by omega, ← cnt_sum g hl x m (y + 1), vl_ins g hl]
    simp only [cnt]; omega
theorem cnts_sum {R : List PV} (g : rchk R = 0) (hl : R.length ≤ 1000) (y : Int) (k : Nat) : ∀ (m : Nat) (x : Int), 2 * cnts R 1 y k x m + cnts R 0 y k x m = sumI (fun e => sumI (fun f => vl R e f) y (y + k)) x (x + m)
  | 0, x => by rw [show x + ((0 : Nat) : Int) = x by omega, sumI_none]; simp [cnts]
  | m + 1, x => by
    rw [sumI_split (mid := x + 1) (by omega) (by omega), sumI_one, show x + ((m + 1 : Nat) : Int) = x + 1 + (m : Int) by omega, ← cnts_sum g hl y k m (x + 1), ← cnt_sum g hl x k y]
    simp only [cnts]; omega
theorem made_40 (L : List PV) {i : Int} (h0 : 0 ≤ i) (h1 : i < ((madeL L).length : Int)) : (-40 ≤ qX (madeL L) i ∧ qX (madeL L) i ≤ 40) ∧ (-40 ≤ qY (madeL L) i ∧ qY (madeL L) i ≤ 40) := by
  have hm := mm_le L
  have hl2 := madeL_len2 L
  have hl : (colM L).length = 2 * mm L := colL_len _ _ _ _
  have hI := made_img L
  have hc : (-40 ≤ qX (colM L) i ∧ qX (colM L) i ≤ 40) ∧ (-40 ≤ qY (colM L) i ∧ qY (colM L) i ≤ 40) := by
    unfold qX qY
    rw [colL_get _ _ _ _ i.toNat (by omega)]
    show (-40 ≤ cpx (mm L) (mxF (dr L)) i.toNat ∧ cpx (mm L) (mxF (dr L)) i.toNat ≤ 40) ∧ (-40 ≤ cpy (mm L) (myF (dr L)) (mhF (dr L)) i.toNat ∧ cpy (mm L) (myF (dr L)) (mhF (dr L)) i.toNat ≤ 40)
    have bx : ∀ u, u < mm L → -40 ≤ mxF (dr L) u ∧ mxF (dr L) u ≤ 40 := fun u hu => by have := mxF_range L u (by omega); omega
    have by_ : ∀ u, u < mm L → -40 ≤ myF (dr L) u ∧ myF (dr L) u ≤ 40 := fun u hu => by have := dr_range L (3 + 3 * u) (n := 9) (by omega); rw [myF_eq]; omega
    have bh : ∀ u, u < mm L → -40 ≤ mhF (dr L) u ∧ mhF (dr L) u ≤ 40 := fun u hu => by have := dr_range L (3 + 3 * u) (n := 9) (by omega); have := dr_range L (4 + 3 * u) (n := 7) (by omega); rw [mhF_eq, myF_eq]; omega
    unfold cpx cpy
    by_cases g : i.toNat < mm L
    · rw [if_pos g, if_pos g]; exact ⟨bx _ g, by_ _ g⟩
    · rw [if_neg g, if_neg g, if_pos (by omega), if_pos (by omega)]; exact ⟨bx _ (by omega), bh _ (by omega)⟩
  rw [hI.x i h0 (by omega), hI.y i h0 (by omega)]
  unfold qtx qty; constructor <;> (repeat' split) <;> omega
theorem pickT_eq (L : List PV) : pickT (madeL L) (W (mnx (madeL L) - 1)) = some (bv true) := by
  have hm := mm_le L
  have hl2 := madeL_len2 L
  have hk : (((madeL L).length : Int) - 0).toNat = (madeL L).length := by omega
  have b0 := made_40 L (i := 0) (by omega) (by omega)
  have all : ∀ k : Nat, k < (madeL L).length → (-40 ≤ qX (madeL L) (0 + k) ∧ qX (madeL L) (0 + k) ≤ 40) ∧ (-40 ≤ qY (madeL L) (0 + k) ∧ qY (madeL L) (0 + k) ≤ 40) := fun k hk => made_40 L (by omega) (by omega)
  obtain ⟨a1, a2, a3⟩ := foldJ_mn (qX (madeL L)) (madeL L).length 0 (qX (madeL L) 0)
  obtain ⟨c1, c2, c3⟩ := foldJ_mn (qY (madeL L)) (madeL L).length 0 (qY (madeL L) 0)
  obtain ⟨d1, d2, d3⟩ := foldJ_mx (qX (madeL L)) (madeL L).length 0 (qX (madeL L) 0)
  obtain ⟨e1, e2, e3⟩ := foldJ_mx (qY (madeL L)) (madeL L).length 0 (qY (madeL L) 0)
  have a4 := a3 (-40) b0.1.1 fun k hk => (all k hk).1.1
  have c4 := c3 (-40) b0.2.1 fun k hk => (all k hk).2.1
  have d4 := d3 40 b0.1.2 fun k hk => (all k hk).1.2
  have e4 := e3 40 b0.2.2 fun k hk => (all k hk).2.2
  have r1 : mnx (madeL L) = foldJ mn2 (qX (madeL L)) 0 (madeL L).length (qX (madeL L) 0) := by unfold mnx; rw [hk]
  have r2 : mny (madeL L) = foldJ mn2 (qY (madeL L)) 0 (madeL L).length (qY (madeL L) 0) := by unfold mny; rw [hk]
  have r3 : mxx (madeL L) = foldJ mx2 (qX (madeL L)) 0 (madeL L).length (qX (madeL L) 0) := by unfold mxx; rw [hk]
  have r4 : mxy (madeL L) = foldJ mx2 (qY (madeL L)) 0 (madeL L).length (qY (madeL L) 0) := by unfold mxy; rw [hk]
  rw [← r1] at a1 a2 a4; rw [← r2] at c1 c2 c4; rw [← r3] at d1 d2 d4; rw [← r4] at e1 e2 e4
  clear a3 c3 d3 e3
  have box := made_box L (lx := mnx (madeL L)) (ly := mny (madeL L)) (hx := mxx (madeL L)) (hy := mxy (madeL L)) (by omega) (by omega) fun j j0 j1 => by
    have := a2 j.toNat (by omega); have := c2 j.toNat (by omega); have := d2 j.toNat (by omega); have := e2 j.toNat (by omega)
    rw [show 0 + (j.toNat : Int) = j by omega] at *
    omega
  have ok := made_ok L
  have p0 := made_ar2 L
  have cs := cnts_sum ok (by omega) (mny (madeL L) - 1) (mxy (madeL L) + 3 - mny (madeL L)).toNat (mxx (madeL L) + 2 - (mnx (madeL L) - 1)).toNat (mnx (madeL L) - 1)
  rw [show mny (madeL L) - 1 + ((mxy (madeL L) + 3 - mny (madeL L)).toNat : Int) = mxy (madeL L) + 2 by omega, show mnx (madeL L) - 1 + ((mxx (madeL L) + 2 - (mnx (madeL L) - 1)).toNat : Int) = mxx (madeL L) + 2 by omega, box] at cs
  have l1 := cnts_le (madeL L) 1 (mny (madeL L) - 1) (mxy (madeL L) + 3 - mny (madeL L)).toNat (mxx (madeL L) + 2 - (mnx (madeL L) - 1)).toNat (mnx (madeL L) - 1)
  have l0 := cnts_le (madeL L) 0 (mny (madeL L) - 1) (mxy (madeL L) + 3 - mny (madeL L)).toNat (mxx (madeL L) + 2 - (mnx (madeL L) - 1)).toNat (mnx (madeL L) - 1)
  have mb : ((mxy (madeL L) + 3 - mny (madeL L)).toNat : Int) * ((mxx (madeL L) + 2 - (mnx (madeL L) - 1)).toNat : Int) ≤ 100 * 100 := Int.mul_le_mul (by omega) (by omega) (by omega) (by omega)
  unfold pickT
  have wx : W (mnx (madeL L) - 1) = mnx (madeL L) - 1 := W_id (by omega) (by omega)
  have hp5 : pQ5 (lQ5 true false (madeL L) false (madeL L) ((madeL L).length : Int) 0 (qX (madeL L) 0) (qY (madeL L) 0) (qX (madeL L) 0) (qY (madeL L) 0)) = true := by simp [pQ5]; omega
  have hp7 : pQ7 (lQ7 true false (madeL L) 0 0 (mnx (madeL L) - 1) (mnx (madeL L)) (mny (madeL L)) (mxx (madeL L)) (mxy (madeL L))) = true := by simp [pQ7]; omega
  rw [wx, inr_of (by omega) (by omega), hp5, hp7, show big (madeL L) = true by simp [big]; omega]
  simp only [cond_true, Int.zero_add]
  generalize cnts (madeL L) 1 (mny (madeL L) - 1) (mxy (madeL L) + 3 - mny (madeL L)).toNat (mnx (madeL L) - 1) (mxx (madeL L) + 2 - (mnx (madeL L) - 1)).toNat = A at *
  generalize cnts (madeL L) 0 (mny (madeL L) - 1) (mxy (madeL L) + 3 - mny (madeL L)).toNat (mnx (madeL L) - 1) (mxx (madeL L) + 2 - (mnx (madeL L) - 1)).toNat = B at *
  rw [W_id (n := 2 * A) (by omega) (by omega), W_id (n := 2 * A + B) (by omega) (by omega), W_id (n := 2 * A + B - 2) (by omega) (by omega), W_id (n := 0 - ar2 (madeL L)) (by omega) (by omega)]
  have : mx2 (ar2 (madeL L)) (0 - ar2 (madeL L)) = 2 * A + B - 2 := by unfold mx2; rw [if_neg (by omega)]; omega
  rw [this]; simp
theorem law20 (f : Bool) (L : List PV) : Enters Try.prog 15 ∧ PCall Try.prog 15 [.lst f 3 L] (bv true) :=
  runP_sound ok87 (n := 100) ((q20 f L).trans (pickT_eq L))
end Go.Hg
/- Geometry: the frames of the laws: their arguments. -/
namespace Go.Proofs.Ytneklpbkfmljfaa
open Go.ChangeShapes Go.WideShapes Go.ChangeAt Go.RowKit Go.Hx Go.Hg

theorem own : ownKnob Try.prog.godebug = none := by kernel_rfl
theorem laidOut : laidOutB Try.prog = true := by kernel_rfl
theorem wt_nil {ps : List PV} (h : wtcs [] ps = true) : ps = [] := by
  cases ps with
  | nil => rfl
  | cons p ps => simp [wtcs] at h
theorem wtc_int {k : IntKind} {p : PV} (h : wtc (.int k) p = true) : ∃ n, p = .val (.int k n) := by
  cases p with
  | val v => cases v <;> simp_all [wtc]
  | lst f t es => simp_all [wtc]
  | _ => simp [wtc] at h
theorem wt_int {k : IntKind} {ks : List Kind} {ps : List PV} (h : wtcs ((.int k) :: ks) ps = true) : ∃ n qs, ps = .val (.int k n) :: qs ∧ wtcs ks qs = true := by
  cases ps with
  | nil => simp [wtcs] at h
  | cons p ps =>
    simp only [wtcs, Bool.and_eq_true] at h
    obtain ⟨n, rfl⟩ := wtc_int h.1
    exact ⟨n, ps, rfl, h.2⟩
theorem wtc_bool {p : PV} (h : wtc (.bool) p = true) : ∃ b, p = .val (.bool b) := by
  cases p with
  | val v => cases v <;> simp_all [wtc]
  | lst f t es => simp_all [wtc]
  | _ => simp [wtc] at h
theorem wt_bool {ks : List Kind} {ps : List PV} (h : wtcs ((.bool) :: ks) ps = true) : ∃ b qs, ps = .val (.bool b) :: qs ∧ wtcs ks qs = true := by
  cases ps with
  | nil => simp [wtcs] at h
  | cons p ps =>
    simp only [wtcs, Bool.and_eq_true] at h
    obtain ⟨b, rfl⟩ := wtc_bool h.1
    exact ⟨b, ps, rfl, h.2⟩
theorem wtc_str {p : PV} (h : wtc (.str) p = true) : ∃ s, p = .val (.string s) := by
  cases p with
  | val v => cases v <;> simp_all [wtc]
  | lst f t es => simp_all [wtc]
  | _ => simp [wtc] at h
theorem wt_str {ks : List Kind} {ps : List PV} (h : wtcs ((.str) :: ks) ps = true) : ∃ s qs, ps = .val (.string s) :: qs ∧ wtcs ks qs = true := by
  cases ps with
  | nil => simp [wtcs] at h
  | cons p ps =>
    simp only [wtcs, Bool.and_eq_true] at h
    obtain ⟨s, rfl⟩ := wtc_str h.1
    exact ⟨s, ps, rfl, h.2⟩
theorem wtc_sl {e : TypeId} {p : PV} (h : wtc (.sl e) p = true) : ∃ f es, p = .lst f e es := by
  cases p with
  | val v => cases v <;> simp [wtc] at h
  | lst f t es =>
    have : e = t := by simpa [wtc] using h
    subst this
    exact ⟨f, es, rfl⟩
  | _ => simp [wtc] at h
theorem wt_sl {e : TypeId} {ks : List Kind} {ps : List PV} (h : wtcs (.sl e :: ks) ps = true) : ∃ f es qs, ps = .lst f e es :: qs ∧ wtcs ks qs = true := by
  cases ps with
  | nil => simp [wtcs] at h
  | cons p ps =>
    simp only [wtcs, Bool.and_eq_true] at h
    obtain ⟨f, es, rfl⟩ := wtc_sl h.1
    exact ⟨f, es, ps, rfl, h.2⟩
theorem fit_i64 {n : Int} (h : Fit (.val (.int .i64 n))) : -9223372036854775808 ≤ n ∧ n ≤ 9223372036854775807 := by
  cases h with
  | int h => exact bounds_i64 h
theorem fit_u8 {n : Int} (h : Fit (.val (.int .u8 n))) : 0 ≤ n ∧ n ≤ 255 := by
  cases h with
  | int h => exact bounds_u8 h
theorem fit_u16 {n : Int} (h : Fit (.val (.int .u16 n))) : 0 ≤ n ∧ n ≤ 65535 := by
  cases h with
  | int h => exact bounds_u16 h
theorem rv_agg {t : TypeId} {ps : List PV} {W : World} {v : Value} (h : RV Try.prog (Ctx.of W) (mkE Try.prog t ps) v) (ha : isAggT Try.prog t = true) : RV Try.prog (Ctx.of W) (.agg ps) v := by
  unfold mkE at h
  rwa [if_pos ha] at h
theorem rv_one {t : TypeId} {p : PV} {W : World} {v : Value} (h : RV Try.prog (Ctx.of W) (mkE Try.prog t [p]) v) (ha : isAggT Try.prog t = false) : RV Try.prog (Ctx.of W) p v := by
  unfold mkE at h
  rwa [if_neg (by simp [ha])] at h
theorem cs_one {W : World} {p : PV} {v : Value} (h1 : RV Try.prog (Ctx.of W) p v) : Cs Try.prog (Ctx.of W) [p] #[v] := by
  refine ⟨rfl, fun j c x a b => ?_⟩
  match j with
  | 0 => simp at a b; subst a; subst b; exact h1
  | j + 1 => simp at a
theorem cs_four {W : World} {p q s t : PV} {v u x y : Value} (h1 : RV Try.prog (Ctx.of W) p v) (h2 : RV Try.prog (Ctx.of W) q u) (h3 : RV Try.prog (Ctx.of W) s x) (h4 : RV Try.prog (Ctx.of W) t y) : Cs Try.prog (Ctx.of W) [p, q, s, t] #[v, u, x, y] := by
  refine ⟨rfl, fun j c z a b => ?_⟩
  match j with
  | 0 => simp at a b; subst a; subst b; exact h1
  | 1 => simp at a b; subst a; subst b; exact h2
  | 2 => simp at a b; subst a; subst b; exact h3
  | 3 => simp at a b; subst a; subst b; exact h4
  | j + 4 => simp at a
theorem cs_two {W : World} {p q : PV} {v u : Value} (h1 : RV Try.prog (Ctx.of W) p v) (h2 : RV Try.prog (Ctx.of W) q u) : Cs Try.prog (Ctx.of W) [p, q] #[v, u] := by
  refine ⟨rfl, fun j c x a b => ?_⟩
  match j with
  | 0 => simp at a b; subst a; subst b; exact h1
  | 1 => simp at a b; subst a; subst b; exact h2
  | j + 2 => simp at a
theorem cs_three {W : World} {p q s : PV} {v u x : Value} (h1 : RV Try.prog (Ctx.of W) p v) (h2 : RV Try.prog (Ctx.of W) q u) (h3 : RV Try.prog (Ctx.of W) s x) : Cs Try.prog (Ctx.of W) [p, q, s] #[v, u, x] := by
  refine ⟨rfl, fun j c y a b => ?_⟩
  match j with
  | 0 => simp at a b; subst a; subst b; exact h1
  | 1 => simp at a b; subst a; subst b; exact h2
  | 2 => simp at a b; subst a; subst b; exact h3
  | j + 3 => simp at a
end Go.Proofs.Ytneklpbkfmljfaa
