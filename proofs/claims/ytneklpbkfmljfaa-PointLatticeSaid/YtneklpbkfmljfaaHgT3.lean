/- Geometry: plain laws: whole points that two segments have in common. -/
import Derived.Test.YtneklpbkfmljfaaHgT2
namespace Go.Hg
open Go.Hx Go.Proofs
/-- A point of a segment is a mean of its ends. -/
theorem on_weights {c d e f x y : Int} (hb : bx c d e f x y = true) (hc : crs c d e f x y = 0) : ∃ A B : Int, 0 ≤ A ∧ 0 ≤ B ∧ 0 < A + B ∧ (A + B) * x = A * c + B * e ∧ (A + B) * y = A * d + B * f := by
  unfold bx at hb
  rw [Bool.and_eq_true, btwn_iff, btwn_iff] at hb
  unfold crs at hc
  obtain ⟨hx, hy⟩ := hb
  rcases Int.lt_trichotomy c e with g | g | g
  · exact ⟨e - x, x - c, by omega, by omega, by omega, by grind, by grind⟩
  · subst g
    have hxe : x = c := by omega
    subst hxe
    rcases Int.lt_trichotomy d f with g | g | g
    · exact ⟨f - y, y - d, by omega, by omega, by omega, by grind, by grind⟩
    · exact ⟨1, 0, by omega, by omega, by omega, by omega, by omega⟩
    · exact ⟨y - f, d - y, by omega, by omega, by omega, by grind, by grind⟩
  · exact ⟨x - e, c - x, by omega, by omega, by omega, by grind, by grind⟩
theorem crs_mean {a b c d e f g h x y A B : Int} (h1 : (A + B) * x = A * e + B * g) (h2 : (A + B) * y = A * f + B * h) : (A + B) * crs a b c d x y = A * crs a b c d e f + B * crs a b c d g h := by
  unfold crs; grind
theorem mean_zero {A B p q : Int} (hA : 0 ≤ A) (hB : 0 ≤ B) (hAB : 0 < A + B) (h : A * p + B * q = 0) : ¬ (0 < p ∧ 0 < q) ∧ ¬ (p < 0 ∧ q < 0) := by
  constructor
  · rintro ⟨hp, hq⟩
    have m1 := Int.mul_nonneg hA (Int.le_of_lt hp)
    have m2 := Int.mul_nonneg hB (Int.le_of_lt hq)
    rcases Int.lt_or_le 0 A with g | g
    · have := Int.mul_pos g hp; omega
    · have := Int.mul_pos (show 0 < B by omega) hq; omega
  · rintro ⟨hp, hq⟩
    have m1 := Int.mul_nonneg hA (show 0 ≤ -p by omega)
    have m2 := Int.mul_nonneg hB (show 0 ≤ -q by omega)
    rw [Int.mul_neg] at m1 m2
    rcases Int.lt_or_le 0 A with g | g
    · have := Int.mul_pos g (show 0 < -p by omega); rw [Int.mul_neg] at this; omega
    · have := Int.mul_pos (show 0 < B by omega) (show 0 < -q by omega); rw [Int.mul_neg] at this; omega
theorem sgn_mul_pos {p q : Int} (h1 : ¬ (0 < p ∧ 0 < q)) (h2 : ¬ (p < 0 ∧ q < 0)) : decide (sgn p * sgn q > 0) = false := by
  rw [decide_eq_false_iff_not]
  unfold sgn
  (repeat' split) <;> omega
/-- Such a point: neither segment has the other one on one side. -/
theorem side_meet {a b c d e f g h x y : Int} (k1 : crs a b c d x y = 0) (k2 : bx e f g h x y = true) (k3 : crs e f g h x y = 0) : decide (sgn (crs a b c d e f) * sgn (crs a b c d g h) > 0) = false := by
  obtain ⟨A, B, hA, hB, hAB, e1, e2⟩ := on_weights k2 k3
  have := crs_mean (a := a) (b := b) (c := c) (d := d) e1 e2
  rw [k1, Int.mul_zero] at this
  obtain ⟨n1, n2⟩ := mean_zero hA hB hAB this.symm
  exact sgn_mul_pos n1 n2
theorem flk_meet {p q r s x : Int} (h1 : K p q x) (h2 : K r s x) : 1 ≤ flk p q r s := by
  obtain ⟨k0, _, k3⟩ := flk_props p q r s
  have : flk p q r s ≠ 0 := fun e => by
    obtain ⟨n1, n2, n3, n4⟩ := k0.1 e
    unfold K at *; omega
  omega
theorem flk_two {p q r s x y : Int} (h1 : K p q x) (h2 : K r s x) (h3 : K p q y) (h4 : K r s y) (hxy : x ≠ y) : flk p q r s = 2 := by
  unfold flk
  have : 0 < mnk (mxk p q) (mxk r s) - mxk (mnk p q) (mnk r s) := by
    unfold K at *
    unfold mnk mxk
    (repeat' split) <;> omega
  unfold sgn
  rw [if_neg (by omega), if_pos this]; rfl
theorem kb_K {p q x : Int} : kb p q x = true ↔ K p q x := kb_iff
/-- With a common point there is one at least. -/
theorem mt_meet {a b c d e f g h x y : Int} (h1 : bd a b) (h2 : bd c d) (h3 : bd e f) (h4 : bd g h) (h5 : bd x y) (o1 : onX a b c d x y = true) (o2 : onX e f g h x y = true) : 1 ≤ mt a b c d e f g h := by
  rw [on_of h1 h2 h5, Bool.and_eq_true, beq_iff_eq, sgn_zero] at o1
  rw [on_of h3 h4 h5, Bool.and_eq_true, beq_iff_eq, sgn_zero] at o2
  obtain ⟨b1, c1⟩ := o1
  obtain ⟨b2, c2⟩ := o2
  unfold mt
  rw [bd_iff.2 h1, bd_iff.2 h2, bd_iff.2 h3, bd_iff.2 h4, sd_of h1 h2 h3, sd_of h1 h2 h4, sd_of h3 h4 h1, sd_of h3 h4 h2]
  simp only [Bool.and_self, cond_true]
  cases hz : (sgn (crs a b c d e f) == 0) && (sgn (crs a b c d g h) == 0) && (sgn (crs e f g h a b) == 0) && (sgn (crs e f g h c d) == 0) with
  | false =>
    show 1 ≤ nfl _ _ _ _
    unfold nfl
    rw [side_meet c1 b2 c2, side_meet c2 b1 c1]
    decide
  | true =>
    show 1 ≤ fl _ _ _ _ _ _ _ _
    rw [fl_key h1 h2 h3 h4]
    exact flk_meet (kb_K.1 (by rw [kb_box h1 h2 h5 c1]; exact b1)) (kb_K.1 (by rw [kb_box h3 h4 h5 c2]; exact b2))
theorem par {a b c d u v : Int} (h1 : a * v = b * u) (h2 : c * v = d * u) (hw : u ≠ 0 ∨ v ≠ 0) : a * d = b * c := by
  rcases hw with hw | hw
  · have : u * (a * d) = u * (b * c) := by grind
    exact Int.eq_of_mul_eq_mul_left hw this
  · have : v * (a * d) = v * (b * c) := by grind
    exact Int.eq_of_mul_eq_mul_left hw this
theorem seg_ne {a b c d x y z w : Int} (h1 : bx a b c d x y = true) (h2 : bx a b c d z w = true) (hn : ¬ (x = z ∧ y = w)) : c - a ≠ 0 ∨ d - b ≠ 0 := by
  unfold bx at h1 h2
  rw [Bool.and_eq_true, btwn_iff, btwn_iff] at h1 h2
  omega
/-- With two common points there are infinitely many. -/
theorem mt_two {a b c d e f g h x y z w : Int} (h1 : bd a b) (h2 : bd c d) (h3 : bd e f) (h4 : bd g h) (h5 : bd x y) (h6 : bd z w) (o1 : onX a b c d x y = true) (o2 : onX e f g h x y = true)
    (o3 : onX a b c d z w = true) (o4 : onX e f g h z w = true) (hn : ¬ (x = z ∧ y = w)) : mt a b c d e f g h = 2 := by
  rw [on_of h1 h2 h5, Bool.and_eq_true, beq_iff_eq, sgn_zero] at o1
  rw [on_of h3 h4 h5, Bool.and_eq_true, beq_iff_eq, sgn_zero] at o2
  rw [on_of h1 h2 h6, Bool.and_eq_true, beq_iff_eq, sgn_zero] at o3
  rw [on_of h3 h4 h6, Bool.and_eq_true, beq_iff_eq, sgn_zero] at o4
  obtain ⟨b1, c1⟩ := o1
  obtain ⟨b2, c2⟩ := o2
  obtain ⟨b3, c3⟩ := o3
  obtain ⟨b4, c4⟩ := o4
  have n1 := seg_ne b1 b3 hn
  have n2 := seg_ne b2 b4 hn
  have nw : z - x ≠ 0 ∨ w - y ≠ 0 := by omega
  -- the directions are one
  have p1 : (c - a) * (w - y) = (d - b) * (z - x) := by unfold crs at c1 c3; grind
  have p2 : (g - e) * (w - y) = (h - f) * (z - x) := by unfold crs at c2 c4; grind
  have p3 : (c - a) * (h - f) = (d - b) * (g - e) := par p1 p2 nw
  have q1 : (e - x) * (h - f) = (f - y) * (g - e) := by unfold crs at c2; grind
  have q2 : (c - a) * (f - y) = (d - b) * (e - x) := par p3 q1 n2
  have q3 : (a - x) * (d - b) = (b - y) * (c - a) := by unfold crs at c1; grind
  have q4 : (g - e) * (b - y) = (h - f) * (a - x) := par (by grind) q3 n1
  have z1 : crs a b c d e f = 0 := by unfold crs at c1 ⊢; grind
  have z2 : crs a b c d g h = 0 := by unfold crs at c1 ⊢; grind
  have z3 : crs e f g h a b = 0 := by unfold crs at c2 ⊢; grind
  have z4 : crs e f g h c d = 0 := by unfold crs at c2 ⊢; grind
  unfold mt
  rw [bd_iff.2 h1, bd_iff.2 h2, bd_iff.2 h3, bd_iff.2 h4, sd_of h1 h2 h3, sd_of h1 h2 h4, sd_of h3 h4 h1, sd_of h3 h4 h2, z1, z2, z3, z4]
  show fl _ _ _ _ _ _ _ _ = 2
  rw [fl_key h1 h2 h3 h4]
  exact flk_two (kb_K.1 (by rw [kb_box h1 h2 h5 c1]; exact b1)) (kb_K.1 (by rw [kb_box h3 h4 h5 c2]; exact b2)) (kb_K.1 (by rw [kb_box h1 h2 h6 c3]; exact b3)) (kb_K.1 (by rw [kb_box h3 h4 h6 c4]; exact b4))
    (fun e => hn ((key_eq h5 h6).2 e))
theorem crs_self1 (a b c d : Int) : crs a b c d a b = 0 := by unfold crs; rw [Int.sub_self, Int.sub_self, Int.mul_zero, Int.mul_zero]; rfl
theorem crs_self2 (a b c d : Int) : crs a b c d c d = 0 := by unfold crs; grind
theorem bx_self1 (a b c d : Int) : bx a b c d a b = true := by unfold bx; rw [Bool.and_eq_true, btwn_iff, btwn_iff]; omega
theorem bx_self2 (a b c d : Int) : bx a b c d c d = true := by unfold bx; rw [Bool.and_eq_true, btwn_iff, btwn_iff]; omega
theorem on_self1 {a b c d : Int} (h1 : bd a b) (h2 : bd c d) : onX a b c d a b = true := by rw [on_of h1 h2 h1, bx_self1, crs_self1]; rfl
theorem on_self2 {a b c d : Int} (h1 : bd a b) (h2 : bd c d) : onX a b c d c d = true := by rw [on_of h1 h2 h2, bx_self2, crs_self2]; rfl
/-- With infinitely many, an end of one is a point of the other. -/
theorem mt_end {a b c d e f g h : Int} (h1 : bd a b) (h2 : bd c d) (h3 : bd e f) (h4 : bd g h) (hm : mt a b c d e f g h = 2) :
    (onX a b c d e f = true ∨ onX a b c d g h = true ∨ onX e f g h a b = true ∨ onX e f g h c d = true) := by
  rw [mt_of h1 h2 h3 h4] at hm
  cases hz : (sgn (crs a b c d e f) == 0) && (sgn (crs a b c d g h) == 0) && (sgn (crs e f g h a b) == 0) && (sgn (crs e f g h c d) == 0) with
  | false =>
    rw [hz] at hm
    unfold nfl at hm
    revert hm
    cases decide (sgn (crs a b c d e f) * sgn (crs a b c d g h) > 0) || decide (sgn (crs e f g h a b) * sgn (crs e f g h c d) > 0) <;> intro hm <;> cases hm
  | true =>
    rw [hz] at hm
    simp only [Bool.and_eq_true] at hz
    rw [on_of h1 h2 h3, on_of h1 h2 h4, on_of h3 h4 h1, on_of h3 h4 h2, hz.1.1.1, hz.1.1.2, hz.1.2, hz.2]
    simp only [Bool.and_true]
    unfold flS at hm
    cases ha : (bx a b c d e f || bx a b c d g h || bx e f g h a b || bx e f g h c d) with
    | false => rw [ha] at hm; cases hm
    | true => simp only [Bool.or_eq_true] at ha; rcases ha with ((h | h) | h) | h <;> simp [h]
theorem mt_range (a b c d e f g h : Int) : 0 ≤ mt a b c d e f g h ∧ mt a b c d e f g h ≤ 2 := by
  unfold mt
  cases bdd a b && bdd c d && bdd e f && bdd g h
  · exact ⟨by simp, by simp⟩
  · simp only [cond_true]
    cases (sd a b c d e f == 0) && (sd a b c d g h == 0) && (sd e f g h a b == 0) && (sd e f g h c d == 0)
    · show 0 ≤ nfl _ _ _ _ ∧ nfl _ _ _ _ ≤ 2
      unfold nfl
      cases decide (sd a b c d e f * sd a b c d g h > 0) || decide (sd e f g h a b * sd e f g h c d > 0) <;> decide
    · show 0 ≤ fl _ _ _ _ _ _ _ _ ∧ fl _ _ _ _ _ _ _ _ ≤ 2
      unfold fl
      have := cmp2_range (ifI (lessP (ifI (lessP g h e f) e g) (ifI (lessP g h e f) f h) (ifI (lessP c d a b) a c) (ifI (lessP c d a b) b d)) (ifI (lessP g h e f) e g) (ifI (lessP c d a b) a c))
        (ifI (lessP (ifI (lessP g h e f) e g) (ifI (lessP g h e f) f h) (ifI (lessP c d a b) a c) (ifI (lessP c d a b) b d)) (ifI (lessP g h e f) f h) (ifI (lessP c d a b) b d))
        (ifI (lessP (ifI (lessP c d a b) c a) (ifI (lessP c d a b) d b) (ifI (lessP g h e f) g e) (ifI (lessP g h e f) h f)) (ifI (lessP g h e f) g e) (ifI (lessP c d a b) c a))
        (ifI (lessP (ifI (lessP c d a b) c a) (ifI (lessP c d a b) d b) (ifI (lessP g h e f) g e) (ifI (lessP g h e f) h f)) (ifI (lessP g h e f) h f) (ifI (lessP c d a b) d b))
      dsimp only
      omega
/-- Twice as long. -/
theorem on_twice {a b c d x y : Int} (h1 : bd a b) (h2 : bd c d) (h3 : bd x y) (k1 : bd (2 * a) (2 * b)) (k2 : bd (2 * c) (2 * d)) (k3 : bd (2 * x) (2 * y)) : onX (2 * a) (2 * b) (2 * c) (2 * d) (2 * x) (2 * y) = onX a b c d x y := by
  rw [on_of h1 h2 h3, on_of k1 k2 k3, show crs (2 * a) (2 * b) (2 * c) (2 * d) (2 * x) (2 * y) = 4 * crs a b c d x y by unfold crs; grind,
    show sgn (4 * crs a b c d x y) = sgn (crs a b c d x y) by unfold sgn; (repeat' split) <;> omega]
  congr 1
  unfold bx
  rw [Bool.eq_iff_iff, Bool.and_eq_true, Bool.and_eq_true, btwn_iff, btwn_iff, btwn_iff, btwn_iff]; omega
end Go.Hg
