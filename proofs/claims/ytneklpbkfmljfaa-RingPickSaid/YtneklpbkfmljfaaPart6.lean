/- Geometry: plain laws: whole points that two segments have in common. -/
import Derived.Test.YtneklpbkfmljfaaPart5
namespace Go.Hg
open Go.Hx Go.Proofs
/-- A point of a segment is a mean of its ends. -/
theorem on_weights {c d e f x y : Int} (hb : bx c d e f x y = true) (hc : crs c d e f x y = 0) : ∃ A B : Int, 0 ≤ A ∧ 0 ≤ B ∧ 0 < A + B ∧ (A + B) * x = A * c + B * e ∧ (A + B) * y = A * d + B * f := by
  unfold bx at hb
  rw [Bool.and_eq_true, btwn_iff, btwn_iff] at hb
  unfold crs at hc
  obtain ⟨hx, hy⟩ := hb
  rcases Int.lt_trichotomy c e with g | g | g
  · exact ⟨e - x, x - c, by omega, by omega, by omega, by grind, by grind⟩
  · subst g
    have hxe : x = c := by omega
    subst hxe
    rcases Int.lt_trichotomy d f with g | g | g
    · exact ⟨f - y, y - d, by omega, by omega, by omega, by grind, by grind⟩
    · exact ⟨1, 0, by omega, by omega, by omega, by omega, by omega⟩
    · exact ⟨y - f, d - y, by omega, by omega, by omega, by grind, by grind⟩
  · exact ⟨x - e, c - x, by omega, by omega, by omega, by grind, by grind⟩
theorem crs_mean {a b c d e f g h x y A B : Int} (h1 : (A + B) * x = A * e + B * g) (h2 : (A + B) * y = A * f + B * h) : (A + B) * crs a b c d x y = A * crs a b c d e f + B * crs a b c d g h := by
  unfold crs; grind
theorem mean_zero {A B p q : Int} (hA : 0 ≤ A) (hB : 0 ≤ B) (hAB : 0 < A + B) (h : A * p + B * q = 0) : ¬ (0 < p ∧ 0 < q) ∧ ¬ (p < 0 ∧ q < 0) := by
  constructor
  · rintro ⟨hp, hq⟩
    have m1 := Int.mul_nonneg hA (Int.le_of_lt hp)
    have m2 := Int.mul_nonneg hB (Int.le_of_lt hq)
    rcases Int.lt_or_le 0 A with g | g
    · have := Int.mul_pos g hp; omega
    · have := Int.mul_pos (show 0 < B by omega) hq; omega
  · rintro ⟨hp, hq⟩
    have m1 := Int.mul_nonneg hA (show 0 ≤ -p by omega)
    have m2 := Int.mul_nonneg hB (show 0 ≤ -q by omega)
    rw [Int.mul_neg] at m1 m2
    rcases Int.lt_or_le 0 A with g | g
    · have := Int.mul_pos g (show 0 < -p by omega); rw [Int.mul_neg] at this; omega
    · have := Int.mul_pos (show 0 < B by omega) (show 0 < -q by omega); rw [Int.mul_neg] at this; omega
theorem sgn_mul_pos {p q : Int} (h1 : ¬ (0 < p ∧ 0 < q)) (h2 : ¬ (p < 0 ∧ q < 0)) : decide (sgn p * sgn q > 0) = false := by
  rw [decide_eq_false_iff_not]
  unfold sgn
  (repeat' split) <;> omega
/-- Such a point: neither segment has the other one on one side. -/
theorem side_meet {a b c d e f g h x y : Int} (k1 : crs a b c d x y = 0) (k2 : bx e f g h x y = true) (k3 : crs e f g h x y = 0) : decide (sgn (crs a b c d e f) * sgn (crs a b c d g h) > 0) = false := by
  obtain ⟨A, B, hA, hB, hAB, e1, e2⟩ := on_weights k2 k3
  have := crs_mean (a := a) (b := b) (c := c) (d := d) e1 e2
  rw [k1, Int.mul_zero] at this
  obtain ⟨n1, n2⟩ := mean_zero hA hB hAB this.symm
  exact sgn_mul_pos n1 n2
theorem flk_meet {p q r s x : Int} (h1 : K p q x) (h2 : K r s x) : 1 ≤ flk p q r s := by
  obtain ⟨k0, _, k3⟩ := flk_props p q r s
  have : flk p q r s ≠ 0 := fun e => by
    obtain ⟨n1, n2, n3, n4⟩ := k0.1 e
    unfold K at *; omega
  omega
theorem flk_two {p q r s x y : Int} (h1 : K p q x) (h2 : K r s x) (h3 : K p q y) (h4 : K r s y) (hxy : x ≠ y) : flk p q r s = 2 := by
  unfold flk
  have : 0 < mnk (mxk p q) (mxk r s) - mxk (mnk p q) (mnk r s) := by
    unfold K at *
    unfold mnk mxk
    (repeat' split) <;> omega
  unfold sgn
  rw [if_neg (by omega), if_pos this]; rfl
theorem kb_K {p q x : Int} : kb p q x = true ↔ K p q x := kb_iff
/-- With a common point there is one at least. -/
theorem mt_meet {a b c d e f g h x y : Int} (h1 : bd a b) (h2 : bd c d) (h3 : bd e f) (h4 : bd g h) (h5 : bd x y) (o1 : onX a b c d x y = true) (o2 : onX e f g h x y = true) : 1 ≤ mt a b c d e f g h := by
  rw [on_of h1 h2 h5, Bool.and_eq_true, beq_iff_eq, sgn_zero] at o1
  rw [on_of h3 h4 h5, Bool.and_eq_true, beq_iff_eq, sgn_zero] at o2
  obtain ⟨b1, c1⟩ := o1
  obtain ⟨b2, c2⟩ := o2
  unfold mt
  rw [bd_iff.2 h1, bd_iff.2 h2, bd_iff.2 h3, bd_iff.2 h4, sd_of h1 h2 h3, sd_of h1 h2 h4, sd_of h3 h4 h1, sd_of h3 h4 h2]
  simp only [Bool.and_self, cond_true]
  cases hz : (sgn (crs a b c d e f) == 0) && (sgn (crs a b c d g h) == 0) && (sgn (crs e f g h a b) == 0) && (sgn (crs e f g h c d) == 0) with
  | false =>
    show 1 ≤ nfl _ _ _ _
    unfold nfl
    rw [side_meet c1 b2 c2, side_meet c2 b1 c1]
    decide
  | true =>
    show 1 ≤ fl _ _ _ _ _ _ _ _
    rw [fl_key h1 h2 h3 h4]
    exact flk_meet (kb_K.1 (by rw [kb_box h1 h2 h5 c1]; exact b1)) (kb_K.1 (by rw [kb_box h3 h4 h5 c2]; exact b2))
theorem par {a b c d u v : Int} (h1 : a * v = b * u) (h2 : c * v = d * u) (hw : u ≠ 0 ∨ v ≠ 0) : a * d = b * c := by
  rcases hw with hw | hw
  · have : u * (a * d) = u * (b * c) := by grind
    exact Int.eq_of_mul_eq_mul_left hw this
  · have : v * (a * d) = v * (b * c) := by grind
    exact Int.eq_of_mul_eq_mul_left hw this
theorem seg_ne {a b c d x y z w : Int} (h1 : bx a b c d x y = true) (h2 : bx a b c d z w = true) (hn : ¬ (x = z ∧ y = w)) : c - a ≠ 0 ∨ d - b ≠ 0 := by
  unfold bx at h1 h2
  rw [Bool.and_eq_true, btwn_iff, btwn_iff] at h1 h2
  omega
/-- With two common points there are infinitely many. -/
theorem mt_two {a b c d e f g h x y z w : Int} (h1 : bd a b) (h2 : bd c d) (h3 : bd e f) (h4 : bd g h) (h5 : bd x y) (h6 : bd z w) (o1 : onX a b c d x y = true) (o2 : onX e f g h x y = true)
    (o3 : onX a b c d z w = true) (o4 : onX e f g h z w = true) (hn : ¬ (x = z ∧ y = w)) : mt a b c d e f g h = 2 := by
  rw [on_of h1 h2 h5, Bool.and_eq_true, beq_iff_eq, sgn_zero] at o1
  rw [on_of h3 h4 h5, Bool.and_eq_true, beq_iff_eq, sgn_zero] at o2
  rw [on_of h1 h2 h6, Bool.and_eq_true, beq_iff_eq, sgn_zero] at o3
  rw [on_of h3 h4 h6, Bool.and_eq_true, beq_iff_eq, sgn_zero] at o4
  obtain ⟨b1, c1⟩ := o1
  obtain ⟨b2, c2⟩ := o2
  obtain ⟨b3, c3⟩ := o3
  obtain ⟨b4, c4⟩ := o4
  have n1 := seg_ne b1 b3 hn
  have n2 := seg_ne b2 b4 hn
  have nw : z - x ≠ 0 ∨ w - y ≠ 0 := by omega
  -- the directions are one
  have p1 : (c - a) * (w - y) = (d - b) * (z - x) := by unfold crs at c1 c3; grind
  have p2 : (g - e) * (w - y) = (h - f) * (z - x) := by unfold crs at c2 c4; grind
  have p3 : (c - a) * (h - f) = (d - b) * (g - e) := par p1 p2 nw
  have q1 : (e - x) * (h - f) = (f - y) * (g - e) := by unfold crs at c2; grind
  have q2 : (c - a) * (f - y) = (d - b) * (e - x) := par p3 q1 n2
  have q3 : (a - x) * (d - b) = (b - y) * (c - a) := by unfold crs at c1; grind
  have q4 : (g - e) * (b - y) = (h - f) * (a - x) := par (by grind) q3 n1
  have z1 : crs a b c d e f = 0 := by unfold crs at c1 ⊢; grind
  have z2 : crs a b c d g h = 0 := by unfold crs at c1 ⊢; grind
  have z3 : crs e f g h a b = 0 := by unfold crs at c2 ⊢; grind
  have z4 : crs e f g h c d = 0 := by unfold crs at c2 ⊢; grind
  unfold mt
  rw [bd_iff.2 h1, bd_iff.2 h2, bd_iff.2 h3, bd_iff.2 h4, sd_of h1 h2 h3, sd_of h1 h2 h4, sd_of h3 h4 h1, sd_of h3 h4 h2, z1, z2, z3, z4]
  show fl _ _ _ _ _ _ _ _ = 2
  rw [fl_key h1 h2 h3 h4]
  exact flk_two (kb_K.1 (by rw [kb_box h1 h2 h5 c1]; exact b1)) (kb_K.1 (by rw [kb_box h3 h4 h5 c2]; exact b2)) (kb_K.1 (by rw [kb_box h1 h2 h6 c3]; exact b3)) (kb_K.1 (by rw [kb_box h3 h4 h6 c4]; exact b4))
    (fun e => hn ((key_eq h5 h6).2 e))
theorem crs_self1 (a b c d : Int) : crs a b c d a b = 0 := by unfold crs; rw [Int.sub_self, Int.sub_self, Int.mul_zero, Int.mul_zero]; rfl
theorem crs_self2 (a b c d : Int) : crs a b c d c d = 0 := by unfold crs; grind
theorem bx_self1 (a b c d : Int) : bx a b c d a b = true := by unfold bx; rw [Bool.and_eq_true, btwn_iff, btwn_iff]; omega
theorem bx_self2 (a b c d : Int) : bx a b c d c d = true := by unfold bx; rw [Bool.and_eq_true, btwn_iff, btwn_iff]; omega
theorem on_self1 {a b c d : Int} (h1 : bd a b) (h2 : bd c d) : onX a b c d a b = true := by rw [on_of h1 h2 h1, bx_self1, crs_self1]; rfl
theorem on_self2 {a b c d : Int} (h1 : bd a b) (h2 : bd c d) : onX a b c d c d = true := by rw [on_of h1 h2 h2, bx_self2, crs_self2]; rfl
/-- With infinitely many, an end of one is a point of the other. -/
theorem mt_end {a b c d e f g h : Int} (h1 : bd a b) (h2 : bd c d) (h3 : bd e f) (h4 : bd g h) (hm : mt a b c d e f g h = 2) :
    (onX a b c d e f = true ∨ onX a b c d g h = true ∨ onX e f g h a b = true ∨ onX e f g h c d = true) := by
  rw [mt_of h1 h2 h3 h4] at hm
  cases hz : (sgn (crs a b c d e f) == 0) && (sgn (crs a b c d g h) == 0) && (sgn (crs e f g h a b) == 0) && (sgn (crs e f g h c d) == 0) with
  | false =>
    rw [hz] at hm
    unfold nfl at hm
    revert hm
    cases decide (sgn (crs a b c d e f) * sgn (crs a b c d g h) > 0) || decide (sgn (crs e f g h a b) * sgn (crs e f g h c d) > 0) <;> intro hm <;> cases hm
  | true =>
    rw [hz] at hm
    simp only [Bool.and_eq_true] at hz
    rw [on_of h1 h2 h3, on_of h1 h2 h4, on_of h3 h4 h1, on_of h3 h4 h2, hz.1.1.1, hz.1.1.2, hz.1.2, hz.2]
    simp only [Bool.and_true]
    unfold flS at hm
    cases ha : (bx a b c d e f || bx a b c d g h || bx e f g h a b || bx e f g h c d) with
    | false => rw [ha] at hm; cases hm
    | true => simp only [Bool.or_eq_true] at ha; rcases ha with ((h | h) | h) | h <;> simp [h]
theorem mt_range (a b c d e f g h : Int) : 0 ≤ mt a b c d e f g h ∧ mt a b c d e f g h ≤ 2 := by
  unfold mt
  cases bdd a b && bdd c d && bdd e f && bdd g h
  · exact ⟨by simp, by simp⟩
  · simp only [cond_true]
    cases (sd a b c d e f == 0) && (sd a b c d g h == 0) && (sd e f g h a b == 0) && (sd e f g h c d == 0)
    · show 0 ≤ nfl _ _ _ _ ∧ nfl _ _ _ _ ≤ 2
      unfold nfl
      cases decide (sd a b c d e f * sd a b c d g h > 0) || decide (sd e f g h a b * sd e f g h c d > 0) <;> decide
    · show 0 ≤ fl _ _ _ _ _ _ _ _ ∧ fl _ _ _ _ _ _ _ _ ≤ 2
      unfold fl
      have := cmp2_range (ifI (lessP (ifI (lessP g h e f) e g) (ifI (lessP g h e f) f h) (ifI (lessP c d a b) a c) (ifI (lessP c d a b) b d)) (ifI (lessP g h e f) e g) (ifI (lessP c d a b) a c))
        (ifI (lessP (ifI (lessP g h e f) e g) (ifI (lessP g h e f) f h) (ifI (lessP c d a b) a c) (ifI (lessP c d a b) b d)) (ifI (lessP g h e f) f h) (ifI (lessP c d a b) b d))
        (ifI (lessP (ifI (lessP c d a b) c a) (ifI (lessP c d a b) d b) (ifI (lessP g h e f) g e) (ifI (lessP g h e f) h f)) (ifI (lessP g h e f) g e) (ifI (lessP c d a b) c a))
        (ifI (lessP (ifI (lessP c d a b) c a) (ifI (lessP c d a b) d b) (ifI (lessP g h e f) g e) (ifI (lessP g h e f) h f)) (ifI (lessP g h e f) h f) (ifI (lessP c d a b) d b))
      dsimp only
      omega
/-- Twice as long. -/
theorem on_twice {a b c d x y : Int} (h1 : bd a b) (h2 : bd c d) (h3 : bd x y) (k1 : bd (2 * a) (2 * b)) (k2 : bd (2 * c) (2 * d)) (k3 : bd (2 * x) (2 * y)) : onX (2 * a) (2 * b) (2 * c) (2 * d) (2 * x) (2 * y) = onX a b c d x y := by
  rw [on_of h1 h2 h3, on_of k1 k2 k3, show crs (2 * a) (2 * b) (2 * c) (2 * d) (2 * x) (2 * y) = 4 * crs a b c d x y by unfold crs; grind,
    show sgn (4 * crs a b c d x y) = sgn (crs a b c d x y) by unfold sgn; (repeat' split) <;> omega]
  congr 1
  unfold bx
  rw [Bool.eq_iff_iff, Bool.and_eq_true, Bool.and_eq_true, btwn_iff, btwn_iff, btwn_iff, btwn_iff]; omega
end Go.Hg
/- Geometry: plain laws: segments that meet nowhere, or in one point. -/
namespace Go.Hg
open Go.Hx Go.Proofs
theorem sgn_mul_not {p q : Int} (h : decide (sgn p * sgn q > 0) = false) : ¬ (0 < p ∧ 0 < q) ∧ ¬ (p < 0 ∧ q < 0) := by
  simp only [decide_eq_false_iff_not] at h
  constructor
  · rintro ⟨g1, g2⟩; apply h; unfold sgn; rw [if_neg (by omega), if_pos g1, if_neg (by omega), if_pos g2]; decide
  · rintro ⟨g1, g2⟩; apply h; unfold sgn; rw [if_pos g1, if_pos g2]; decide
/-- Segments that meet have a point in common, told by weights. -/
theorem mt_common {a b c d e f g h : Int} (h1 : bd a b) (h2 : bd c d) (h3 : bd e f) (h4 : bd g h) (hm : mt a b c d e f g h ≠ 0) :
    ∃ p q r s : Int, 0 ≤ p ∧ 0 ≤ q ∧ 0 ≤ r ∧ 0 ≤ s ∧ p + q = r + s ∧ 0 < p + q ∧ p * a + q * c = r * e + s * g ∧ p * b + q * d = r * f + s * h := by
  rw [mt_of h1 h2 h3 h4] at hm
  have w : ∀ {a b c d e f g h A B : Int}, 0 ≤ A → 0 ≤ B → 0 < A + B → (A + B) * e = A * a + B * c → (A + B) * f = A * b + B * d →
      ∃ p q r s : Int, 0 ≤ p ∧ 0 ≤ q ∧ 0 ≤ r ∧ 0 ≤ s ∧ p + q = r + s ∧ 0 < p + q ∧ p * a + q * c = r * e + s * g ∧ p * b + q * d = r * f + s * h := fun {a b c d e f g h A B} k1 k2 k3 k4 k5 =>
    ⟨A, B, A + B, 0, k1, k2, by omega, by omega, by omega, k3, by omega, by omega⟩
  cases hz : (sgn (crs a b c d e f) == 0) && (sgn (crs a b c d g h) == 0) && (sgn (crs e f g h a b) == 0) && (sgn (crs e f g h c d) == 0) with
  | true =>
    rw [hz] at hm
    simp only [Bool.and_eq_true, beq_iff_eq, sgn_zero] at hz
    unfold flS at hm
    cases ha : (bx a b c d e f || bx a b c d g h || bx e f g h a b || bx e f g h c d) with
    | false => rw [ha] at hm; exact absurd rfl hm
    | true =>
      simp only [Bool.or_eq_true] at ha
      rcases ha with ((k | k) | k) | k
      · obtain ⟨A, B, k1, k2, k3, k4, k5⟩ := on_weights k hz.1.1.1
        exact w k1 k2 k3 k4 k5
      · obtain ⟨A, B, k1, k2, k3, k4, k5⟩ := on_weights k hz.1.1.2
        exact ⟨A, B, 0, A + B, k1, k2, by omega, by omega, by omega, k3, by omega, by omega⟩
      · obtain ⟨A, B, k1, k2, k3, k4, k5⟩ := on_weights k hz.1.2
        exact ⟨A + B, 0, A, B, by omega, by omega, k1, k2, by omega, by omega, by omega, by omega⟩
      · obtain ⟨A, B, k1, k2, k3, k4, k5⟩ := on_weights k hz.2
        exact ⟨0, A + B, A, B, by omega, by omega, k1, k2, by omega, by omega, by omega, by omega⟩
  | false =>
    rw [hz] at hm
    simp only [cond_false] at hm
    unfold nfl at hm
    cases hp : decide (sgn (crs a b c d e f) * sgn (crs a b c d g h) > 0) with
    | true => rw [hp] at hm; exact absurd rfl hm
    | false =>
      cases hq : decide (sgn (crs e f g h a b) * sgn (crs e f g h c d) > 0) with
      | true => rw [hp, hq] at hm; exact absurd rfl hm
      | false =>
        obtain ⟨p1, p2⟩ := sgn_mul_not hp
        obtain ⟨q1, q2⟩ := sgn_mul_not hq
        have id1 : crs a b c d e f - crs a b c d g h = crs e f g h c d - crs e f g h a b := by unfold crs; grind
        have id2 : crs a b c d e f * g - crs a b c d g h * e = crs e f g h c d * a - crs e f g h a b * c := by unfold crs; grind
        have id3 : crs a b c d e f * h - crs a b c d g h * f = crs e f g h c d * b - crs e f g h a b * d := by unfold crs; grind
        have hnz : ¬ (crs a b c d e f = 0 ∧ crs a b c d g h = 0 ∧ crs e f g h a b = 0 ∧ crs e f g h c d = 0) := by
          rintro ⟨z1, z2, z3, z4⟩
          rw [z1, z2, z3, z4] at hz; exact absurd hz (by decide)
        generalize crs a b c d e f = A1 at *
        generalize crs a b c d g h = A2 at *
        generalize crs e f g h a b = B1 at *
        generalize crs e f g h c d = B2 at *
        rcases Int.lt_trichotomy (A1 - A2) 0 with k | k | k
        · refine ⟨-B2, B1, A2, -A1, by omega, by omega, by omega, by omega, by omega, by omega, ?_, ?_⟩
          · have e1 : -B2 * a + B1 * c = -(B2 * a - B1 * c) := by grind
            have e2 : A2 * e + -A1 * g = -(A1 * g - A2 * e) := by grind
            rw [e1, e2, id2]
          · have e1 : -B2 * b + B1 * d = -(B2 * b - B1 * d) := by grind
            have e2 : A2 * f + -A1 * h = -(A1 * h - A2 * f) := by grind
            rw [e1, e2, id3]
        · exfalso; apply hnz; omega
        · refine ⟨B2, -B1, -A2, A1, by omega, by omega, by omega, by omega, by omega, by omega, ?_, ?_⟩
          · have e1 : B2 * a + -B1 * c = B2 * a - B1 * c := by grind
            have e2 : -A2 * e + A1 * g = A1 * g - A2 * e := by grind
            rw [e1, e2, id2]
          · have e1 : B2 * b + -B1 * d = B2 * b - B1 * d := by grind
            have e2 : -A2 * f + A1 * h = A1 * h - A2 * f := by grind
            rw [e1, e2, id3]
section
variable {a b c d e f g h : Int} (h1 : bd a b) (h2 : bd c d) (h3 : bd e f) (h4 : bd g h)
include h1 h2 h3 h4
theorem mt_zero_of (k : ∀ p q r s : Int, 0 ≤ p → 0 ≤ q → 0 ≤ r → 0 ≤ s → p + q = r + s → 0 < p + q → p * a + q * c = r * e + s * g → p * b + q * d = r * f + s * h → False) : mt a b c d e f g h = 0 := by
  rcases Int.lt_trichotomy (mt a b c d e f g h) 0 with g0 | g0 | g0
  · have := mt_range a b c d e f g h; omega
  · exact g0
  · obtain ⟨p, q, r, s, k1, k2, k3, k4, k5, k6, k7, k8⟩ := mt_common h1 h2 h3 h4 (by omega)
    exact absurd (k p q r s k1 k2 k3 k4 k5 k6 k7 k8) id
/-- Left of one another. -/
theorem mt_left (g1 : a < e) (g2 : a < g) (g3 : c < e) (g4 : c < g) : mt a b c d e f g h = 0 := by
  refine mt_zero_of h1 h2 h3 h4 fun p q r s k1 k2 k3 k4 k5 k6 k7 _ => ?_
  have key : ∀ X : Int, a ≤ X → c ≤ X → X < e → X < g → False := fun X x1 x2 x3 x4 => by
    have m1 := Int.mul_le_mul_of_nonneg_left x1 k1
    have m2 := Int.mul_le_mul_of_nonneg_left x2 k2
    have m3 := Int.mul_le_mul_of_nonneg_left (show X + 1 ≤ e by omega) k3
    have m4 := Int.mul_le_mul_of_nonneg_left (show X + 1 ≤ g by omega) k4
    have e1 : p * X + q * X = (p + q) * X := by grind
    have e2 : r * (X + 1) + s * (X + 1) = (p + q) * X + (r + s) := by rw [k5]; grind
    omega
  rcases Int.le_total a c with t | t
  · exact key c t (Int.le_refl _) g3 g4
  · exact key a (Int.le_refl _) t g1 g2
theorem mt_right (g1 : e < a) (g2 : e < c) (g3 : g < a) (g4 : g < c) : mt a b c d e f g h = 0 := by
  rw [← mt_swap3 h1 h2 h3 h4]; exact mt_left h3 h4 h1 h2 g1 g2 g3 g4
end
theorem pos_zero2 {u v x y : Int} (hu : 0 ≤ u) (hv : 0 ≤ v) (hx : 0 < x) (hy : 0 < y) (h : u * x + v * y = 0) : u = 0 ∧ v = 0 := by
  have h1 := Int.mul_nonneg hu (show 0 ≤ x by omega)
  have h2 := Int.mul_nonneg hv (show 0 ≤ y by omega)
  have e1 : u * x = 0 := by omega
  have e2 : v * y = 0 := by omega
  exact ⟨by rcases Int.mul_eq_zero.1 e1 with g | g <;> omega, by rcases Int.mul_eq_zero.1 e2 with g | g <;> omega⟩
/-- One above the other, in one column. -/
theorem mt_over {x0 y0 x1 y1 h1 h0 : Int} (b1 : bd x0 y0) (b2 : bd x1 y1) (b3 : bd x1 h1) (b4 : bd x0 h0) (g1 : x0 < x1) (g2 : y0 < h0) (g3 : y1 < h1) : mt x0 y0 x1 y1 x1 h1 x0 h0 = 0 := by
  refine mt_zero_of b1 b2 b3 b4 fun p q r s k1 k2 k3 k4 k5 k6 k7 k8 => ?_
  have e : (q - r) * (x1 - x0) = 0 := by
    have : s = p + q - r := by omega
    subst this; grind
  have hqr : q = r := by rcases Int.mul_eq_zero.1 e with g | g <;> omega
  have hps : p = s := by omega
  subst hqr; subst hps
  have := pos_zero2 k1 k2 (show 0 < h0 - y0 by omega) (show 0 < h1 - y1 by omega) (by grind)
  omega
/-- In columns side by side. -/
theorem mt_next {x0 y0 X y1 x2 h2 h : Int} (b1 : bd x0 y0) (b2 : bd X y1) (b3 : bd x2 h2) (b4 : bd X h) (g1 : x0 < X) (g2 : X < x2) (g3 : y1 < h) : mt x0 y0 X y1 x2 h2 X h = 0 := by
  refine mt_zero_of b1 b2 b3 b4 fun p q r s k1 k2 k3 k4 k5 k6 k7 k8 => ?_
  have z := pos_zero2 k1 k3 (show 0 < X - x0 by omega) (show 0 < x2 - X by omega) (by
    have : s = p + q - r := by omega
    subst this; grind)
  obtain ⟨rfl, rfl⟩ := z
  have : q = s := by omega
  subst this
  have e : q * (h - y1) = 0 := by grind
  rcases Int.mul_eq_zero.1 e with g | g <;> omega
theorem mt_prev {X y1 x2 y2 h x0 h0 : Int} (b1 : bd X y1) (b2 : bd x2 y2) (b3 : bd X h) (b4 : bd x0 h0) (g1 : x0 < X) (g2 : X < x2) (g3 : y1 < h) : mt X y1 x2 y2 X h x0 h0 = 0 := by
  refine mt_zero_of b1 b2 b3 b4 fun p q r s k1 k2 k3 k4 k5 k6 k7 k8 => ?_
  have z := pos_zero2 k2 k4 (show 0 < x2 - X by omega) (show 0 < X - x0 by omega) (by
    have : r = p + q - s := by omega
    subst this; grind)
  obtain ⟨rfl, rfl⟩ := z
  have : p = r := by omega
  subst this
  have e : p * (h - y1) = 0 := by grind
  rcases Int.mul_eq_zero.1 e with g | g <;> omega
/-- One behind the other. -/
theorem mt_chain {a b c d g h : Int} (b1 : bd a b) (b2 : bd c d) (b4 : bd g h) (k : (a < c ∧ c < g) ∨ (g < c ∧ c < a) ∨ crs a b c d g h ≠ 0) : mt a b c d c d g h = 1 := by
  rw [mt_of b1 b2 b2 b4]
  have z1 : crs a b c d c d = 0 := crs_self2 a b c d
  have z4 : crs c d g h c d = 0 := crs_self1 c d g h
  have id1 : crs c d g h a b = crs a b c d g h := by unfold crs; grind
  rw [z1, z4, id1]
  by_cases hc : crs a b c d g h = 0
  · rw [hc]
    have o1 : bx a b c d c d = true := bx_self2 a b c d
    have o4 : bx c d g h c d = true := bx_self1 c d g h
    have o2 : bx a b c d g h = false := by
      rw [Bool.eq_false_iff]; intro t; unfold bx at t; rw [Bool.and_eq_true, btwn_iff, btwn_iff] at t; omega
    have o3 : bx c d g h a b = false := by
      rw [Bool.eq_false_iff]; intro t; unfold bx at t; rw [Bool.and_eq_true, btwn_iff, btwn_iff] at t; omega
    rw [o1, o2, o3, o4]
    have e1 : eqP c d g h = false := by unfold eqP; simp; omega
    have e2 : eqP a b c d = false := by unfold eqP; simp; omega
    have e3 : eqP c d a b = false := by unfold eqP; simp; omega
    have e4 : eqP c d c d = true := by unfold eqP; simp
    have e5 : eqP g h a b = false := by unfold eqP; simp; omega
    have e6 : eqP g h c d = false := by unfold eqP; simp; omega
    rw [e1, e2, e3, e4, e5, e6]
    decide
  · have hs : (sgn (crs a b c d g h) == 0) = false := by
      rw [Bool.eq_false_iff]; intro t; rw [beq_iff_eq, sgn_zero] at t; exact hc t
    rw [hs]
    unfold nfl
    simp [show sgn 0 = 0 from rfl]
/-- The last one and the first one. -/
theorem mt_ring {a b c d e f : Int} (b1 : bd a b) (b2 : bd c d) (b3 : bd e f) (k : crs a b c d e f ≠ 0) : mt a b c d e f a b = 1 := by
  rw [mt_of b1 b2 b3 b1]
  have z2 : crs a b c d a b = 0 := crs_self1 a b c d
  have z3 : crs e f a b a b = 0 := crs_self2 e f a b
  have hs : (sgn (crs a b c d e f) == 0) = false := by
    rw [Bool.eq_false_iff]; intro t; rw [beq_iff_eq, sgn_zero] at t; exact k t
  rw [z2, z3, hs]
  unfold nfl
  simp [show sgn 0 = 0 from rfl]
end Go.Hg
/- Geometry: plain laws: a ray's sum and turns. -/
namespace Go.Hg
open Go.Hx Go.Proofs
/-- A ray by numbers seen from the point. -/
def rayN (a b c d : Int) : Int := if b ≤ 0 ∧ 0 < d ∧ a * d - b * c < 0 then 1 else if d ≤ 0 ∧ 0 < b ∧ 0 < a * d - b * c then -1 else 0
def phi (a b : Int) : Int := if a ≤ 0 ∧ 0 < b then 1 else 0
def offN (a b c d : Int) : Prop := ¬ ((a ≤ 0 ∧ 0 ≤ c ∨ c ≤ 0 ∧ 0 ≤ a) ∧ (b ≤ 0 ∧ 0 ≤ d ∨ d ≤ 0 ∧ 0 ≤ b) ∧ a * d - b * c = 0)
theorem mnn {u v : Int} (h : u ≤ 0) (k : v ≤ 0) : 0 ≤ u * v := Int.mul_nonneg_of_nonpos_of_nonpos h k
theorem mnp {u v : Int} (h : u ≤ 0) (k : 0 < v) : u * v ≤ 0 := Int.mul_nonpos_of_nonpos_of_nonneg h (by omega)
theorem mpn {u v : Int} (h : 0 < u) (k : v ≤ 0) : u * v ≤ 0 := Int.mul_nonpos_of_nonneg_of_nonpos (by omega) k
theorem mnp0 {u v : Int} (k : 0 < v) (e : u * v = 0) : u = 0 := by rcases Int.mul_eq_zero.1 e with g | g <;> omega
theorem mpn0 {u v : Int} (k : 0 < u) (e : u * v = 0) : v = 0 := by rcases Int.mul_eq_zero.1 e with g | g <;> omega
theorem rayN_rot {a b c d : Int} (h : offN a b c d) : rayN (-b) a (-d) c = rayN a b c d + phi a b - phi c d := by
  unfold offN at h
  unfold rayN phi
  have e : -b * c - a * -d = a * d - b * c := by rw [Int.neg_mul, Int.mul_neg]; omega
  rw [e]
  by_cases hA : a ≤ 0 <;> by_cases hC : c ≤ 0 <;> by_cases hB : b ≤ 0 <;> by_cases hD : d ≤ 0 <;> simp only [hA, hB, hC, hD, true_and, false_and, if_false]
  · simp [show ¬ 0 < c by omega, show ¬ 0 < a by omega, show ¬ 0 < b by omega, show ¬ 0 < d by omega]
  · have p := mnp hA (show 0 < d by omega)
    have q := mnn hB hC
    have z := mnp0 (u := a) (v := d) (by omega)
    have : a * d - b * c < 0 := by
      rcases Int.lt_or_le (a * d - b * c) 0 with g | g
      · exact g
      · exact absurd ⟨.inr ⟨hC, by have := z (by omega); omega⟩, .inl ⟨hB, by omega⟩, by omega⟩ h
    simp [show ¬ 0 < c by omega, show ¬ 0 < a by omega, show ¬ 0 < b by omega, show 0 < d by omega, this]
  · have p := mnn hA hD
    have q := mpn (show 0 < b by omega) hC
    have z := mpn0 (u := b) (v := c) (by omega)
    have : 0 < a * d - b * c := by
      rcases Int.lt_or_le 0 (a * d - b * c) with g | g
      · exact g
      · exact absurd ⟨.inl ⟨hA, by have := z (by omega); omega⟩, .inr ⟨hD, by omega⟩, by omega⟩ h
    simp [show ¬ 0 < c by omega, show ¬ 0 < a by omega, show 0 < b by omega, show ¬ 0 < d by omega, show b * c < a * d by omega]
  · simp [show ¬ 0 < c by omega, show ¬ 0 < a by omega, show 0 < b by omega, show 0 < d by omega]
  · have p := mnn hA hD
    have q : b * c ≤ 0 := mnp hB (by omega)
    simp [show 0 < c by omega, show ¬ 0 < b by omega, show ¬ 0 < d by omega, show ¬ a * d - b * c < 0 by omega]
  · simp [show 0 < c by omega, show ¬ 0 < b by omega, show 0 < d by omega]
  · have hx : a * d - b * c ≠ 0 := fun g => h ⟨.inl ⟨hA, by omega⟩, .inr ⟨hD, by omega⟩, g⟩
    simp only [show 0 < c by omega, show 0 < b by omega, true_and, if_true]
    (repeat' split) <;> omega
  · have p := mnp hA (show 0 < d by omega)
    have q := Int.mul_pos (show 0 < b by omega) (show 0 < c by omega)
    simp [show 0 < c by omega, show 0 < b by omega, show a * d - b * c < 0 by omega]
  · have p := mpn (show 0 < a by omega) hD
    have q := mnn hB hC
    simp [show 0 < a by omega, show ¬ 0 < b by omega, show ¬ 0 < d by omega]; omega
  · have hx : a * d - b * c ≠ 0 := fun g => h ⟨.inr ⟨hC, by omega⟩, .inl ⟨hB, by omega⟩, g⟩
    simp only [show 0 < a by omega, show 0 < d by omega, true_and, if_true]
    (repeat' split) <;> omega
  · simp [show 0 < a by omega, show 0 < b by omega, show ¬ 0 < d by omega]
  · have p := Int.mul_pos (show 0 < a by omega) (show 0 < d by omega)
    have q := mpn (show 0 < b by omega) hC
    simp [show 0 < a by omega, show 0 < d by omega]; omega
  · simp [show ¬ 0 < b by omega, show ¬ 0 < d by omega]
  · have p := Int.mul_pos (show 0 < a by omega) (show 0 < d by omega)
    have q : b * c ≤ 0 := mnp hB (by omega)
    simp [show 0 < d by omega, show ¬ a * d - b * c < 0 by omega]
  · have p := mpn (show 0 < a by omega) hD
    have q := Int.mul_pos (show 0 < b by omega) (show 0 < c by omega)
    simp [show 0 < b by omega]; omega
  · simp
end Go.Hg
/- Geometry: plain laws: turned and moved rings. -/
namespace Go.Hg
open Go.Hx Go.Proofs
abbrev sm5 (x y : Int) : Prop := (-5000 ≤ x ∧ x ≤ 5000) ∧ (-5000 ≤ y ∧ y ≤ 5000)
theorem sm5_bd {x y : Int} (h : sm5 x y) : bd x y := by unfold bd; omega
theorem ray_eqN {a b c d e f : Int} (h1 : sm5 a b) (h2 : sm5 c d) (h3 : sm5 e f) : ray a b c d e f = rayN (a - e) (b - f) (c - e) (d - f) := by
  unfold ray rayV rayN
  rw [sd_of (sm5_bd h1) (sm5_bd h2) (sm5_bd h3), sd_of (sm5_bd h2) (sm5_bd h1) (sm5_bd h3)]
  have e1 : crs a b c d e f = (a - e) * (d - f) - (b - f) * (c - e) := by unfold crs; grind
  have e2 : crs c d a b e f = -crs a b c d e f := by unfold crs; grind
  rw [e2, e1]
  generalize (a - e) * (d - f) - (b - f) * (c - e) = k
  have s1 : sgn k < 0 ↔ k < 0 := by unfold sgn; (repeat' split) <;> omega
  have s2 : sgn (-k) < 0 ↔ 0 < k := by unfold sgn; (repeat' split) <;> omega
  by_cases p : b > f <;> by_cases q : d > f <;> by_cases r : k < 0 <;> by_cases t : 0 < k <;>
    simp [p, q, r, t, s1, s2] <;> omega
theorem off_of {a b c d e f : Int} (h1 : sm5 a b) (h2 : sm5 c d) (h3 : sm5 e f) (h : onX a b c d e f = false) : offN (a - e) (b - f) (c - e) (d - f) := by
  rw [on_of (sm5_bd h1) (sm5_bd h2) (sm5_bd h3)] at h
  unfold offN
  rintro ⟨g1, g2, g3⟩
  have e1 : crs a b c d e f = 0 := by unfold crs; grind
  rw [e1, show (sgn 0 == 0) = true from rfl, Bool.and_true] at h
  have : bx a b c d e f = true := by unfold bx; rw [Bool.and_eq_true, btwn_iff, btwn_iff]; omega
  rw [this] at h; cases h
theorem rot_q1 {a b c d e f : Int} (h1 : sm5 a b) (h2 : sm5 c d) (h3 : sm5 e f) (h : onX a b c d e f = false) :
    ray (0 - b) a (0 - d) c (0 - f) e = ray a b c d e f + phi (a - e) (b - f) - phi (c - e) (d - f) := by
  rw [ray_eqN h1 h2 h3, ray_eqN (by omega) (by omega) (by omega)]
  have := rayN_rot (off_of h1 h2 h3 h)
  rw [show 0 - b - (0 - f) = -(b - f) by omega, show 0 - d - (0 - f) = -(d - f) by omega]
  exact this
/-- Quarters of a turn. -/
def qtx (t x y : Int) : Int := if t = 0 then x else if t = 1 then 0 - y else if t = 2 then 0 - x else y
def qty (t x y : Int) : Int := if t = 0 then y else if t = 1 then x else if t = 2 then 0 - y else 0 - x
theorem qt_sm {t x y : Int} (h : sm5 x y) : sm5 (qtx t x y) (qty t x y) := by
  unfold qtx qty
  by_cases h0 : t = 0
  · rw [if_pos h0, if_pos h0]; exact h
  · rw [if_neg h0, if_neg h0]
    by_cases h1 : t = 1
    · rw [if_pos h1, if_pos h1]; omega
    · rw [if_neg h1, if_neg h1]
      by_cases h2 : t = 2
      · rw [if_pos h2, if_pos h2]; omega
      · rw [if_neg h2, if_neg h2]; omega
theorem qt_keeps (t : Int) : Keeps (fun x y => qtx t x y) (fun x y => qty t x y) := by
  unfold qtx qty
  by_cases h0 : t = 0
  · simp only [h0, if_true]; exact keeps_id
  · simp only [if_neg h0]
    by_cases h1 : t = 1
    · simp only [h1, if_true]; exact keeps_q1
    · simp only [if_neg h1]
      by_cases h2 : t = 2
      · simp only [h2, if_true]; exact keeps_q2
      · simp only [if_neg h2]; exact keeps_q3
theorem rot_t (t : Int) {e f : Int} (h3 : sm5 e f) : ∃ g : Int → Int → Int, ∀ a b c d, sm5 a b → sm5 c d → onX a b c d e f = false →
    ray (qtx t a b) (qty t a b) (qtx t c d) (qty t c d) (qtx t e f) (qty t e f) = ray a b c d e f + g a b - g c d := by
  have on1 : ∀ {a b c d e f : Int}, sm5 a b → sm5 c d → sm5 e f → onX a b c d e f = false → onX (0 - b) a (0 - d) c (0 - f) e = false := fun {a b c d e f} k1 k2 k3 k => by
    have := keeps_q1.on (a := a) (b := b) (c := c) (d := d) (e := e) (f := f) (sm5_bd k1) (sm5_bd k2) (sm5_bd k3) (sm5_bd (by omega)) (sm5_bd (by omega)) (sm5_bd (by omega))
    rw [this]; exact k
  unfold qtx qty
  by_cases h0 : t = 0
  · simp only [h0, if_true]; exact ⟨fun _ _ => 0, fun a b c d _ _ _ => by dsimp only; omega⟩
  · simp only [if_neg h0]
    by_cases h1 : t = 1
    · simp only [h1, if_true]; exact ⟨fun x y => phi (x - e) (y - f), fun a b c d k1 k2 k => rot_q1 k1 k2 h3 k⟩
    · simp only [if_neg h1]
      have two : ∀ a b c d, sm5 a b → sm5 c d → onX a b c d e f = false → ray (0 - a) (0 - b) (0 - c) (0 - d) (0 - e) (0 - f) = ray a b c d e f + (phi (a - e) (b - f) + phi (0 - b - (0 - f)) (a - e)) - (phi (c - e) (d - f) + phi (0 - d - (0 - f)) (c - e)) := fun a b c d k1 k2 k => by
        have r1 := rot_q1 k1 k2 h3 k
        have r2 := rot_q1 (a := 0 - b) (b := a) (c := 0 - d) (d := c) (e := 0 - f) (f := e) (by omega) (by omega) (by omega) (on1 k1 k2 h3 k)
        omega
      by_cases h2 : t = 2
      · simp only [h2, if_true]; exact ⟨fun x y => phi (x - e) (y - f) + phi (0 - y - (0 - f)) (x - e), two⟩
      · simp only [if_neg h2]
        refine ⟨fun x y => (phi (x - e) (y - f) + phi (0 - y - (0 - f)) (x - e)) + phi (0 - x - (0 - e)) (0 - y - (0 - f)), fun a b c d k1 k2 k => ?_⟩
        have r1 := two a b c d k1 k2 k
        have k4 := on1 (a := 0 - b) (b := a) (c := 0 - d) (d := c) (e := 0 - f) (f := e) (by omega) (by omega) (by omega) (on1 k1 k2 h3 k)
        have r2 := rot_q1 (a := 0 - a) (b := 0 - b) (c := 0 - c) (d := 0 - d) (e := 0 - e) (f := 0 - f) (by omega) (by omega) (by omega) k4
        rw [show 0 - (0 - b) = b by omega, show 0 - (0 - d) = d by omega, show 0 - (0 - f) = f by omega] at r2
        dsimp only
        omega
theorem ray_shift (a b c d e f u v : Int) (h1 : sm5 a b) (h2 : sm5 c d) (h3 : sm5 e f) (k1 : sm5 (a + u) (b + v)) (k2 : sm5 (c + u) (d + v)) (k3 : sm5 (e + u) (f + v)) :
    ray (a + u) (b + v) (c + u) (d + v) (e + u) (f + v) = ray a b c d e f := by
  rw [ray_eqN h1 h2 h3, ray_eqN k1 k2 k3]
  rw [show a + u - (e + u) = a - e by omega, show b + v - (f + v) = b - f by omega, show c + u - (e + u) = c - e by omega, show d + v - (f + v) = d - f by omega]
/-- The sum of the rays from i on. -/
def rs (es : List PV) (x y i : Int) : Nat → Int
  | 0 => 0
  | n + 1 => ryq es i (nx es i) x y + rs es x y (i + 1) n
theorem ryq_range (es : List PV) (i j x y : Int) : -1 ≤ ryq es i j x y ∧ ryq es i j x y ≤ 1 := by
  unfold ryq ray rayV
  cases decide (qY es i > y) <;> cases decide (qY es j > y) <;> cases decide (sd (qX es i) (qY es i) (qX es j) (qY es j) x y < 0) <;> cases decide (sd (qX es j) (qY es j) (qX es i) (qY es i) x y < 0) <;> decide
theorem smS_rs (es : List PV) (x y : Int) : ∀ (n : Nat) (i acc : Int), -1000000 ≤ acc - n ∧ acc + n ≤ 1000000 → smS es x y i n acc = acc + rs es x y i n
  | 0, i, acc, _ => by simp [smS, rs]
  | n + 1, i, acc, h => by
    have := ryq_range es i (nx es i) x y
    simp only [smS, rs]
    rw [W_id (by omega) (by omega), smS_rs es x y n (i + 1) _ (by omega)]
    omega
theorem nx_last {es : List PV} {i : Int} (h : i + 1 = (es.length : Int)) (_ : 0 ≤ i) : nx es i = 0 := by unfold nx; rw [h]; exact Int.tmod_self
theorem nx_next {es : List PV} {i : Int} (h : i + 1 < (es.length : Int)) (h0 : 0 ≤ i) : nx es i = i + 1 := by unfold nx; exact Int.tmod_eq_of_lt (by omega) h
theorem rs_rot {A B : List PV} {x y x' y' : Int} (g : Int → Int) (hstep : ∀ i, 0 ≤ i → i < (A.length : Int) → onq A i (nx A i) x y = false → ryq B i (nx B i) x' y' = ryq A i (nx A i) x y + g i - g (nx A i)) :
    ∀ (n : Nat) (i : Int), 0 ≤ i → i + (n + 1 : Nat) = (A.length : Int) → onS A x y i (n + 1) = false → rs B x' y' i (n + 1) = rs A x y i (n + 1) + g i - g 0
  | 0, i, h0, h1, h2 => by
    simp only [onS, Bool.or_false] at h2
    simp only [rs]
    rw [hstep i h0 (by omega) h2, nx_last (by omega) h0]; omega
  | n + 1, i, h0, h1, h2 => by
    have h2' : onq A i (nx A i) x y = false ∧ onS A x y (i + 1) (n + 1) = false := by
      rw [onS, Bool.or_eq_false_iff] at h2; exact h2
    have := rs_rot g hstep n (i + 1) (by omega) (by omega) h2'.2
    show ryq B i (nx B i) x' y' + rs B x' y' (i + 1) (n + 1) = ryq A i (nx A i) x y + rs A x y (i + 1) (n + 1) + g i - g 0
    rw [this, hstep i h0 (by omega) h2'.1, nx_next (by omega) h0]; omega
/-- A list of the images of another's points. -/
structure Img (A B : List PV) (X Y : Int → Int → Int) : Prop where
  len : B.length = A.length
  x : ∀ i, 0 ≤ i → i < (A.length : Int) → qX B i = X (qX A i) (qY A i)
  y : ∀ i, 0 ≤ i → i < (A.length : Int) → qY B i = Y (qX A i) (qY A i)
theorem eqq_iff {es : List PV} {i j : Int} : eqq es i j = true ↔ qX es i = qX es j ∧ qY es i = qY es j := by unfold eqq; simp
section
variable {A B : List PV} {X Y : Int → Int → Int} (hK : Keeps X Y) (hI : Img A B X Y) (hA : ∀ i, 0 ≤ i → i < (A.length : Int) → bd (qX A i) (qY A i)) (hB : ∀ i, 0 ≤ i → i < (A.length : Int) → bd (qX B i) (qY B i))
include hK hI
theorem img_eqq {i j : Int} (h0 : 0 ≤ i) (h1 : i < (A.length : Int)) (h2 : 0 ≤ j) (h3 : j < (A.length : Int)) : eqq B i j = eqq A i j := by
  rw [Bool.eq_iff_iff, eqq_iff, eqq_iff, hI.x i h0 h1, hI.x j h2 h3, hI.y i h0 h1, hI.y j h2 h3]
  have := hK.eq (qX A i) (qY A i) (qX A j) (qY A j)
  unfold eqP at this
  exact decide_eq_decide.1 this
theorem img_cls : cls B = cls A := by
  unfold cls
  rw [hI.len]
  by_cases h : (A.length : Int) ≥ 4
  · have := img_eqq hK hI (i := 0) (j := (A.length : Int) - 1) (by omega) (by omega) (by omega) (by omega)
    unfold eqq at this
    rw [this]
  · rw [decide_eq_false h]; rfl
include hA hB
theorem img_mq {i k : Int} (h0 : 0 ≤ i) (h1 : i + 1 < (A.length : Int)) (h2 : 0 ≤ k) (h3 : k + 1 < (A.length : Int)) : mq B k i = mq A k i := by
  unfold mq
  have b1 := hB k h2 (by omega); have b2 := hB (k + 1) (by omega) h3; have b3 := hB i h0 (by omega); have b4 := hB (i + 1) (by omega) h1
  rw [hI.x k h2 (by omega), hI.y k h2 (by omega)] at b1 ⊢
  rw [hI.x (k + 1) (by omega) h3, hI.y (k + 1) (by omega) h3] at b2 ⊢
  rw [hI.x i h0 (by omega), hI.y i h0 (by omega)] at b3 ⊢
  rw [hI.x (i + 1) (by omega) h1, hI.y (i + 1) (by omega) h1] at b4 ⊢
  exact hK.mt (hA k h2 (by omega)) (hA (k + 1) (by omega) h3) (hA i h0 (by omega)) (hA (i + 1) (by omega) h1) b1 b2 b3 b4
theorem img_allP {la i : Int} (h0 : 0 ≤ i) (h1 : i + 1 < (A.length : Int)) : ∀ (n : Nat) (k : Int), 0 ≤ k → k + n ≤ i → allP B la i k n = allP A la i k n
  | 0, k, _, _ => rfl
  | n + 1, k, h2, h3 => by
    simp only [allP]
    rw [img_allP h0 h1 n (k + 1) (by omega) (by omega), img_mq hK hI hA hB h0 h1 h2 (by omega)]
    unfold want
    rw [img_cls hK hI]
theorem img_allI {la : Int} : ∀ (n : Nat) (i : Int), 0 ≤ i → i + n + 1 ≤ (A.length : Int) → allI B la i n = allI A la i n
  | 0, i, _, _ => rfl
  | n + 1, i, h0, h1 => by
    simp only [allI]
    rw [img_allI n (i + 1) (by omega) (by omega), img_eqq hK hI h0 (by omega) (by omega) (by omega), img_allP hK hI hA hB h0 (by omega) i.toNat 0 (by omega) (by omega)]
theorem img_chk (fA : fin A = true) (fB : fin B = true) : chk B = chk A := by
  unfold chk
  rw [fA, fB, hI.len]
  by_cases h : (A.length : Int) < 2
  · rw [decide_eq_true h]; rfl
  · rw [img_allI hK hI hA hB (A.length - 1) 0 (by omega) (by omega)]
end
end Go.Hg
/- Geometry: Within, both. -/
namespace Go.Hg
open Go.Hx Go.Proofs
def dt (a b c d : Int) : Int := W (W (a * c) + W (b * d))
def crW4 (a b c d : Int) : Int := W (W (a * d) - W (b * c))
def nearT {α : Type} (a b c d x y n : Int) (k : Bool → α) : α :=
  bif decide (dt (W (x - a)) (W (y - b)) (W (c - a)) (W (d - b)) ≤ 0) then k (decide (W (4 * dt (W (x - a)) (W (y - b)) (W (x - a)) (W (y - b))) ≤ n))
  else bif decide (dt (W (x - a)) (W (y - b)) (W (c - a)) (W (d - b)) ≥ dt (W (c - a)) (W (d - b)) (W (c - a)) (W (d - b))) then k (decide (W (4 * dt (W (x - c)) (W (y - d)) (W (x - c)) (W (y - d))) ≤ n))
  else k (decide (sg2 (W (4 * crW4 (W (c - a)) (W (d - b)) (W (x - a)) (W (y - b)))) (crW4 (W (c - a)) (W (d - b)) (W (x - a)) (W (y - b))) n (dt (W (c - a)) (W (d - b)) (W (c - a)) (W (d - b))) ≤ 0))
def nearB (a b c d x y n : Int) : Bool := nearT a b c d x y n id
theorem nearT_eq {α : Type} (a b c d x y n : Int) (k : Bool → α) : nearT a b c d x y n k = k (nearB a b c d x y n) := by
  unfold nearB nearT
  cases decide (dt (W (x - a)) (W (y - b)) (W (c - a)) (W (d - b)) ≤ 0) <;> cases decide (dt (W (x - a)) (W (y - b)) (W (c - a)) (W (d - b)) ≥ dt (W (c - a)) (W (d - b)) (W (c - a)) (W (d - b))) <;> rfl
theorem qNear (a b c d x y n : Int) : runP Try.prog E39 60 121 [ptv a b, ptv c d, ptv x y, iv n] = nearT a b c d x y n (fun v => some (bv v)) := by kernel_rfl
def cNear : List PV → Option PV
  | [.agg [.val (.int .i64 a), .val (.int .i64 b)], .agg [.val (.int .i64 c), .val (.int .i64 d)], .agg [.val (.int .i64 x), .val (.int .i64 y)], .val (.int .i64 n)] => some (bv (nearB a b c d x y n))
  | _ => none
theorem oNear (args : List PV) (r : PV) (h : cNear args = some r) : Enters Try.prog 121 ∧ PCall Try.prog 121 args r := by
  unfold cNear at h; split at h
  · rename_i a b c d x y n; cases h; exact runP_sound ok39 ((qNear a b c d x y n).trans (nearT_eq a b c d x y n _))
  · cases h
noncomputable def E40 : EnvK := (E39.addO 121 cNear).addV 71 4 [4, 5, 6, 25]
theorem ok40 : EnvOK Try.prog E40.env := (ok39.addO oNear).addV 71 4 [4, 5, 6, 25]
def nrq (es : List PV) (i x y n : Int) : Bool := nearB (qX es i) (qY es i) (qX es (i + 1)) (qY es (i + 1)) x y n
/-- Some segment from i on is near. -/
def nrA (es : List PV) (x y n i : Int) : Nat → Bool
  | 0 => false
  | m + 1 => nrq es i x y n || nrA es x y n (i + 1) m
noncomputable def lrT (st : LSt) : Row := lrow 71 Try.f71 4 (tm 78 [(4, .ptr 0 1 0 0), (5, .ptr 1 1 0 0), (6, .ptr 2 1 0 0), (25, sgf 4)]) st
def shT : S1 := ⟨25, [(0, .yld 5), (1, .ptr 4 1 0 0), (3, I64)], [.one 23 2 (.agg [I64, I64]), .one 3 1 I64, .one 4 1 .bool, .many 23 2, .one 53 1 (.lst 23), .raw]⟩
abbrev lT (i x y n : Int) (res : Bool) (nl : Bool) (es3 : List PV) (f : Bool) (es : List PV) (r : Row) : LS := ([.i i], [.i x, .i y, .i n, .b res, .l nl es3, .l f es, .r r])
noncomputable abbrev hT (x y n : Int) (res : Bool) (nl : Bool) (es3 : List PV) (f : Bool) (es : List PV) (r : Row) : List Row := (shT.put (lT 0 x y n res nl es3 f es r)).2
theorem qT (i x y n : Int) (res : Bool) (nl : Bool) (es3 : List PV) (f : Bool) (es : List PV) : runB Try.prog E40 60 152 (lpb Try.f152 1) [0, 1, 3] [] (shT.put (lT i x y n res nl es3 f es (lrT .ready))).1 (shT.put (lT i x y n res nl es3 f es (lrT .ready))).2 =
  bif decide (W (i + 1) < (es.length : Int)) then bif inr es i then bif inr es (W (i + 1)) then
    nearT (qX es i) (qY es i) (qX es (W (i + 1))) (qY es (W (i + 1))) x y n (fun v => bif v then some (.ret, tm 25 [], hT x y n true nl es3 f es (lrT (.done .ret))) else some (.normal, shT.put (lT (W (i + 1)) x y n res nl es3 f es (lrT .ready))))
  else none else none else some (.exit 0, tm 25 [], hT x y n res nl es3 f es (lrT .ready)) := by kernel_rfl
def shU : S1 := ⟨37, [(0, .lst 23), (2, I64), (4, .ptr 0 1 0 0), (8, I64)], [.one 23 2 (.agg [I64, I64])]⟩
theorem qU (f : Bool) (es : List PV) (n i x y : Int) : runB Try.prog E40 60 72 (lpb Try.f72 5) [0, 2, 4, 8] [6] (shU.put ([.l f es, .i n, .i i], [.i x, .i y])).1 (shU.put ([.l f es, .i n, .i i], [.i x, .i y])).2 =
  bif decide (W (i + 1) < (es.length : Int)) then bif inr es i then bif inr es (W (i + 1)) then
    bif nearB (qX es i) (qY es i) (qX es (W (i + 1))) (qY es (W (i + 1))) x y n then some (.ret, tm 37 [(6, bv true)], (shU.put ([.l f es, .i n, .i i], [.i x, .i y])).2) else some (.normal, shU.put ([.l f es, .i n, .i (W (i + 1))], [.i x, .i y]))
  else none else none else some (.exit 0, tm 37 [], (shU.put ([.l f es, .i n, .i i], [.i x, .i y])).2) := by kernel_rfl
end Go.Hg
/- Geometry: contracts: Within, both. -/
namespace Go.Hg
open Go.Hx Go.Proofs
noncomputable def pT : LS → Bool
  | ([.i i], [.i _, .i _, .i _, .b _, .l _ _, .l _ es, .r r]) => decide (0 ≤ i) && decide (i ≤ (es.length : Int)) && big es && same r (lrT .ready)
  | _ => false
noncomputable def fT : LS → DT (PX × List PV × List Row)
  | ([.i i], [.i x, .i y, .i n, .b res, .l nl es3, .l f es, .r r]) => .br (nrA es x y n i ((es.length : Int) - (i + 1)).toNat) (.leaf (.ret, tm 25 [], hT x y n true nl es3 f es (lrT (.done .ret)))) (.leaf (.exit 0, tm 25 [], hT x y n res nl es3 f es r))
  | _ => .no
def mT : LS → Nat
  | ([.i i], [.i _, .i _, .i _, .b _, .l _ _, .l _ es, .r _]) => ((es.length : Int) - (i + 1)).toNat
  | _ => 0
theorem sT : ∀ s r, pT s = true → (fT s).run = some r → r.1 ≠ .normal ∧ (runB Try.prog E40 60 152 (lpb Try.f152 1) [0, 1, 3] [] (shT.put s).1 (shT.put s).2 = some r ∨
      ∃ s', runB Try.prog E40 60 152 (lpb Try.f152 1) [0, 1, 3] [] (shT.put s).1 (shT.put s).2 = some (.normal, shT.put s') ∧ pT s' = true ∧ mT s' < mT s ∧ (fT s').run = some r) := by
  intro s r hp hr
  unfold pT at hp; split at hp
  · rename_i i x y n res nl es3 f es r0
    simp only [Bool.and_eq_true, decide_eq_true_eq, same_iff] at hp
    obtain ⟨⟨⟨h1, h2⟩, h3⟩, rfl⟩ := hp
    have hr' := run_br2 hr
    refine ⟨by rw [hr']; cases nrA es x y n i ((es.length : Int) - (i + 1)).toNat <;> simp, ?_⟩
    rw [qT]
    have hw := W_id (n := i + 1) (by omega) (by omega)
    rw [hw]
    by_cases hi : i + 1 < (es.length : Int)
    · rw [decide_eq_true hi, cond_true, inr_of h1 (by omega), inr_of (by omega) hi]
      simp only [cond_true, nearT_eq]
      obtain ⟨m, hm⟩ : ∃ m, ((es.length : Int) - (i + 1)).toNat = m + 1 := ⟨((es.length : Int) - (i + 1)).toNat - 1, by omega⟩
      rw [hm] at hr'
      simp only [nrA, nrq] at hr'
      cases hE : nearB (qX es i) (qY es i) (qX es (i + 1)) (qY es (i + 1)) x y n with
      | true =>
        rw [hE] at hr'
        exact .inl (by rw [hr']; rfl)
      | false =>
        rw [hE] at hr'
        refine .inr ⟨lT (i + 1) x y n res nl es3 f es (lrT .ready), rfl, by simp [pT, same_self]; omega, by simp only [mT]; omega, ?_⟩
        rw [hr']
        simp only [fT]
        rw [show ((es.length : Int) - (i + 1 + 1)).toNat = m by omega]
        simp only [Bool.false_or]
        cases nrA es x y n (i + 1) m <;> rfl
    · rw [decide_eq_false hi]
      rw [show ((es.length : Int) - (i + 1)).toNat = 0 by omega] at hr'
      exact .inl (by rw [hr']; rfl)
  · cases hp
noncomputable def E40a : EnvK := E40.addW 152 1 [0, 1, 3] [] shT pT fT
theorem ok40a : EnvOK Try.prog E40a.env :=
  ok40.addW (n := 60) Try.func152 (show Try.f152.body = some (bod Try.f152) by kernel_rfl) (show (loops (bod Try.f152)).filter (fun b => rid b == 1) = [lpb Try.f152 1] by kernel_rfl) [0, 1, 3] [] [] shT mT sT
noncomputable def pU : LS → Bool
  | ([.l _ es, .i _, .i i], [.i _, .i _]) => decide (0 ≤ i) && decide (i ≤ (es.length : Int)) && big es
  | _ => false
noncomputable def fU : LS → DT (PX × List PV × List Row)
  | ([.l f es, .i n, .i i], [.i x, .i y]) => .br (nrA es x y n i ((es.length : Int) - (i + 1)).toNat) (.leaf (.ret, tm 37 [(6, bv true)], (shU.put ([.l f es, .i n, .i i], [.i x, .i y])).2)) (.leaf (.exit 0, tm 37 [], (shU.put ([.l f es, .i n, .i i], [.i x, .i y])).2))
  | _ => .no
def mU : LS → Nat
  | ([.l _ es, .i _, .i i], [.i _, .i _]) => ((es.length : Int) - (i + 1)).toNat
  | _ => 0
theorem sU : ∀ s r, pU s = true → (fU s).run = some r → r.1 ≠ .normal ∧ (runB Try.prog E40 60 72 (lpb Try.f72 5) [0, 2, 4, 8] [6] (shU.put s).1 (shU.put s).2 = some r ∨
      ∃ s', runB Try.prog E40 60 72 (lpb Try.f72 5) [0, 2, 4, 8] [6] (shU.put s).1 (shU.put s).2 = some (.normal, shU.put s') ∧ pU s' = true ∧ mU s' < mU s ∧ (fU s').run = some r) := by
  intro s r hp hr
  unfold pU at hp; split at hp
  · rename_i f es n i x y
    simp only [Bool.and_eq_true, decide_eq_true_eq] at hp
    obtain ⟨⟨h1, h2⟩, h3⟩ := hp
    have hr' := run_br2 hr
    refine ⟨by rw [hr']; cases nrA es x y n i ((es.length : Int) - (i + 1)).toNat <;> simp, ?_⟩
    rw [qU]
    have hw := W_id (n := i + 1) (by omega) (by omega)
    rw [hw]
    by_cases hi : i + 1 < (es.length : Int)
    · rw [decide_eq_true hi, cond_true, inr_of h1 (by omega), inr_of (by omega) hi]
      simp only [cond_true]
      obtain ⟨m, hm⟩ : ∃ m, ((es.length : Int) - (i + 1)).toNat = m + 1 := ⟨((es.length : Int) - (i + 1)).toNat - 1, by omega⟩
      rw [hm] at hr'
      simp only [nrA, nrq] at hr'
      cases hE : nearB (qX es i) (qY es i) (qX es (i + 1)) (qY es (i + 1)) x y n with
      | true =>
        rw [hE] at hr'
        exact .inl (by rw [hr']; rfl)
      | false =>
        rw [hE] at hr'
        refine .inr ⟨([.l f es, .i n, .i (i + 1)], [.i x, .i y]), rfl, by simp [pU]; omega, by simp only [mU]; omega, ?_⟩
        rw [hr']
        simp only [fU]
        rw [show ((es.length : Int) - (i + 1 + 1)).toNat = m by omega]
        simp only [Bool.false_or]
        cases nrA es x y n (i + 1) m <;> rfl
    · rw [decide_eq_false hi]
      rw [show ((es.length : Int) - (i + 1)).toNat = 0 by omega] at hr'
      exact .inl (by rw [hr']; rfl)
  · cases hp
noncomputable def E40b : EnvK := E40.addW 72 5 [0, 2, 4, 8] [] shU pU fU
theorem ok40b : EnvOK Try.prog E40b.env :=
  ok40.addW (n := 60) Try.func72 (show Try.f72.body = some (bod Try.f72) by kernel_rfl) (show (loops (bod Try.f72)).filter (fun b => rid b == 5) = [lpb Try.f72 5] by kernel_rfl) [0, 2, 4, 8] [6] [] shU mU sU
/-- P5.3. -/
def wit (es : List PV) (x y n : Int) : Bool := fin es && right x y && nrA es x y n 0 (es.length - 1)
noncomputable def witT (f : Bool) (es : List PV) (x y n : Int) : Option PV := bif pT (lT 0 x y n false false [ptv x y] f es (lrT .ready)) then bif nrA es x y n 0 ((es.length : Int) - (0 + 1)).toNat then some (bv true) else some (bv false) else none
theorem fin_one (x y : Int) : fin [ptv x y] = right x y := by
  show (right x y && true) = right x y; simp
theorem qWit (f : Bool) (es : List PV) (x y n : Int) : runP Try.prog E40a 60 71 [.lst f 23 es, ptv x y, iv n] =
  bif big es then bif !fin es then some (bv false) else bif !fin [ptv x y] then some (bv false) else witT f es x y n else none := by kernel_rfl
theorem qRWit (f : Bool) (es : List PV) (x y n : Int) : runP Try.prog E40b 60 72 [.lst f 23 es, ptv x y, iv n] =
  bif !right x y then some (bv false) else bif big es then bif !fin es then some (bv false) else bif pU ([.l f es, .i n, .i 0], [.i x, .i y]) then bif nrA es x y n 0 ((es.length : Int) - (0 + 1)).toNat then some (bv true) else some (bv false) else none else none := by kernel_rfl
theorem qWit' (f : Bool) (es : List PV) (x y n : Int) (h : big es = true) : runP Try.prog E40a 60 71 [.lst f 23 es, ptv x y, iv n] = some (bv (wit es x y n)) := by
  have h' : es.length ≤ 1000000 := by simpa using h
  rw [qWit, h, fin_one]; unfold witT wit
  rw [show pT (lT 0 x y n false false [ptv x y] f es (lrT .ready)) = true by simp [pT, same_self]; omega, show ((es.length : Int) - (0 + 1)).toNat = es.length - 1 by omega]
  cases fin es <;> cases right x y <;> cases nrA es x y n 0 (es.length - 1) <;> rfl
theorem qRWit' (f : Bool) (es : List PV) (x y n : Int) (h : big es = true) : runP Try.prog E40b 60 72 [.lst f 23 es, ptv x y, iv n] = some (bv (wit es x y n)) := by
  have h' : es.length ≤ 1000000 := by simpa using h
  rw [qRWit, h]; unfold wit
  rw [show pU ([.l f es, .i n, .i 0], [.i x, .i y]) = true by simp [pU]; omega, show ((es.length : Int) - (0 + 1)).toNat = es.length - 1 by omega]
  cases fin es <;> cases right x y <;> cases nrA es x y n 0 (es.length - 1) <;> rfl
def cWit : List PV → Option (DT PV) | [.lst _ 23 es, .agg [.val (.int .i64 x), .val (.int .i64 y)], .val (.int .i64 n)] => some (.br (big es) (.leaf (bv (wit es x y n))) .no) | _ => none
theorem eWit : Enters Try.prog 71 := (runP_sound ok40a (qWit' true [] 0 0 0 rfl)).1
theorem eRWit : Enters Try.prog 72 := (runP_sound ok40b (qRWit' true [] 0 0 0 rfl)).1
theorem oWit (args : List PV) (d : DT PV) (r : PV) (h : cWit args = some d) (hr : d.run = some r) : PCall Try.prog 71 args r := by
  unfold cWit at h; split at h
  · rename_i f es x y n; cases h; obtain ⟨h1, rfl⟩ := run_br hr; exact (runP_sound ok40a (qWit' f es x y n h1)).2
  · cases h
theorem oRWit (args : List PV) (d : DT PV) (r : PV) (h : cWit args = some d) (hr : d.run = some r) : PCall Try.prog 72 args r := by
  unfold cWit at h; split at h
  · rename_i f es x y n; cases h; obtain ⟨h1, rfl⟩ := run_br hr; exact (runP_sound ok40b (qRWit' f es x y n h1)).2
  · cases h
noncomputable def E41 : EnvK := (E39.addF 71 cWit).addF 72 cWit
theorem ok41 : EnvOK Try.prog E41.env := (ok39.addF eWit oWit).addF eRWit oRWit
end Go.Hg
/- Geometry: made lists of points. -/
namespace Go.Hg
open Go.Hx Go.Proofs
/-- The number at a place, the place being any number. -/
def dI (es : List PV) (a n : Int) : Int := if (es.length : Int) ≤ a then 0 else dv es a.toNat % n
def aI (es : List PV) (a : Int) : Int := if (es.length : Int) ≤ a then a else a + 1
abbrev drI (f : Bool) (es : List PV) (a : Int) : Row := r1 117 2 (.agg [.lst f 3 es, iv a])
def okA (a n : Int) : Bool := decide (0 ≤ a) && decide (a < 4611686018427387904) && decide (0 < n) && decide (n ≤ 4611686018427387904)
def cNxI : List PV → List Row → Option (DT (PV × List Row))
  | [.ptr 0 1 0 0, .val (.int .i64 n)], [⟨[.agg [.lst f 3 es, .val (.int .i64 a)]], 2, 117, true, true, false, none⟩] =>
    some (.br (okA a n) (.leaf (iv (dI es a n), [drI f es (aI es a)])) .no)
  | _, _ => none
theorem qNxI (es : List PV) (a : Int) (f : Bool) (n : Int) : runR Try.prog E38 60 0 101 [.ptr 0 1 0 0, iv n] [drI f es a] =
  bif decide (a ≥ ((es.length : Nat) : Int)) then some (iv 0, [drI f es a])
  else bif decide (0 ≤ W (W (a + 1) - 1)) && decide (W (W (a + 1) - 1) < ((es.length : Nat) : Int)) then
    bif decide (0 < n) && decide (n ≤ 4611686018427387904) then some (iv (dv es (W (W (a + 1) - 1)).toNat % n), [drI f es (W (a + 1))]) else none
  else none := by kernel_rfl
theorem oNxI (args : List PV) (H : List Row) (d : DT (PV × List Row)) (p : PV) (H' : List Row) (h : cNxI args H = some d) (hd : d.run = some (p, H')) : RCall Try.prog 0 101 args H p H' := by
  unfold cNxI at h; split at h
  · rename_i n f es a
    cases h
    obtain ⟨hc, he⟩ := run_br hd
    cases he
    unfold okA at hc
    simp only [Bool.and_eq_true, decide_eq_true_eq] at hc
    obtain ⟨⟨⟨h0, h3⟩, h1⟩, h2⟩ := hc
    refine (runR_sound ok38 (n := 60) ?_).2
    rw [qNxI]
    have hw1 : W (a + 1) = a + 1 := W_id (by omega) (by omega)
    have hw : W (W (a + 1) - 1) = a := by rw [hw1, W_id (by omega) (by omega)]; omega
    unfold dI aI
    by_cases hk : (es.length : Int) ≤ a
    · have g1 : decide (a ≥ ((es.length : Nat) : Int)) = true := by simp; omega
      rw [g1, if_pos hk, if_pos hk]; rfl
    · have g1 : decide (a ≥ ((es.length : Nat) : Int)) = false := by simp; omega
      have g2 : (decide (0 ≤ a) && decide (a < ((es.length : Nat) : Int))) = true := by simp; omega
      rw [g1, hw, g2, hw1, if_neg (by omega), if_neg (by omega)]
      simp only [h1, h2, decide_true, Bool.and_true, cond_true, cond_false]
  · cases h
noncomputable def E42 : EnvK := (E41.addR 101 cNxI).addN 69 6 [(5, 23, 2)]
theorem ok42 : EnvOK Try.prog E42.env := (ok41.addR eNxt oNxI).addN 69 6 [(5, 23, 2)]
def shG : S1 := ⟨64, [(3, .ptr 0 1 0 0), (4, I64), (5, .sl 2), (6, .ptr 1 1 0 0), (7, I64)], [.one 117 2 (.agg [.lst 3, I64]), .one 23 2 (.agg [I64, I64]), .many 23 2]⟩
abbrev lG (many : Int) (n l : Nat) (k : Int) (f : Bool) (L : List PV) (a x y : Int) (nl : Bool) (es : List PV) : LS := ([.i many, .n n, .n l, .i k], [.l f L, .i a, .i x, .i y, .l nl es])
noncomputable abbrev hG (f : Bool) (L : List PV) (a x y : Int) (nl : Bool) (es : List PV) : List Row := (shG.put (lG 0 0 0 0 f L a x y nl es)).2
def room (es : List PV) (n l : Nat) : Bool := decide (es.length = n) && decide (n = l) && decide ((n + 1) * 16 ≤ 140737488355328)
theorem qG (many : Int) (n l : Nat) (k : Int) (f : Bool) (L : List PV) (a x y : Int) (nl : Bool) (es : List PV) : runB Try.prog E42 60 69 (lpb Try.f69 6) [3, 4, 5, 6, 7] [3, 4, 5] (shG.put (lG many n l k f L a x y nl es)).1 (shG.put (lG many n l k f L a x y nl es)).2 =
  bif decide (k < many) then bif room es n l then bif okA a 2 then bif dI L a 2 == 0 then
    bif okA (aI L a) 12 then some (.normal, shG.put (lG many (n + 1) (n + 1) (W (k + 1)) f L (aI L (aI L a)) (Int.tmod (W (W (x + 1) + dI L (aI L a) 12)) 13) y (nl && false) (es ++ [ptv x y]))) else none
  else bif okA (aI L a) 13 then bif okA (aI L (aI L a)) 12 then some (.normal, shG.put (lG many (n + 1) (n + 1) (W (k + 1)) f L (aI L (aI L (aI L a))) (dI L (aI L a) 13) (Int.tmod (W (W (y + 1) + dI L (aI L (aI L a)) 12)) 13) (nl && false) (es ++ [ptv x y]))) else none else none
  else none else none else some (.exit 0, tm 64 [(3, .ptr 0 1 0 0), (4, iv many), (5, .sl 2 n 0 l)], hG f L a x y nl es) := by kernel_rfl
end Go.Hg
/- Geometry: RingMoves: its loop. -/
namespace Go.Hg
open Go.Hx Go.Proofs
def rX (es : List PV) (i : Int) : Int := ((es.getD (0 + i.toNat) .any).cellAt 0).getI
def rY (es : List PV) (i : Int) : Int := ((es.getD (0 + i.toNat) .any).cellAt 1).getI
theorem rX_eq (es : List PV) (i : Int) : rX es i = qX es i := by unfold rX qX; rw [Nat.zero_add]
theorem rY_eq (es : List PV) (i : Int) : rY es i = qY es i := by unfold rY qY; rw [Nat.zero_add]
noncomputable def E50 : EnvK := E39.addN 14 9 [(11, 23, 2)]
theorem ok50 : EnvOK Try.prog E50.env := ok39.addN 14 9 [(11, 23, 2)]
def shM6 : S1 := ⟨96, [(5, .ptr 0 1 0 0), (6, .ptr 1 1 0 0), (7, .ptr 2 1 0 0), (9, .bool), (10, .sl 3), (11, .sl 4), (53, .sl 3), (54, I64), (55, I64)],
  [.one 80 5 (.agg [.bool, .int .u8, I64, I64, .int .u8]), .one 23 2 (.agg [I64, I64]), .one 23 2 (.agg [I64, I64]), .many 23 2, .many 23 2]⟩
structure M6 where
  u : Bool
  n1 : Nat
  l1 : Nat
  n3 : Nat
  l3 : Nat
  len : Int
  mv : Bool
  wh : Int
  cx : Int
  cy : Int
  tn : Int
  bx : Int
  by_ : Int
  px : Int
  py : Int
  nl : Bool
  es : List PV
abbrev lM6 (s : M6) (n2 l2 : Nat) (j : Int) (nl2 : Bool) (out : List PV) : LS := ([.b s.u, .n s.n1, .n s.l1, .n n2, .n l2, .n s.n3, .n s.l3, .i s.len, .i j], [.b s.mv, .i s.wh, .i s.cx, .i s.cy, .i s.tn, .i s.bx, .i s.by_, .i s.px, .i s.py, .l s.nl s.es, .l nl2 out])
noncomputable abbrev xM6 (s : M6) (n2 l2 : Nat) (nl2 : Bool) (out : List PV) : PX × List PV × List Row := (.exit 0, tm 96 [(5, .ptr 0 1 0 0), (6, .ptr 1 1 0 0), (7, .ptr 2 1 0 0), (9, bv s.u), (10, .sl 3 s.n1 0 s.l1), (11, .sl 4 n2 0 l2)], (shM6.put (lM6 s n2 l2 0 nl2 out)).2)
def mvE (x y t u v : Int) : PV := ptv (W (trx x y t + u)) (W (tryy x y t + v))
theorem qM6 (u : Bool) (n1 l1 n2 l2 n3 l3 : Nat) (len j : Int) (mv : Bool) (wh cx cy tn bx by_ px py : Int) (nl nl2 : Bool) (es out : List PV) :
  runB Try.prog E50 60 14 (lpb Try.f14 9) [5, 6, 7, 9, 10, 11, 53, 54, 55] [5, 6, 7, 9, 10, 11] (shM6.put (lM6 ⟨u, n1, l1, n3, l3, len, mv, wh, cx, cy, tn, bx, by_, px, py, nl, es⟩ n2 l2 j nl2 out)).1 (shM6.put (lM6 ⟨u, n1, l1, n3, l3, len, mv, wh, cx, cy, tn, bx, by_, px, py, nl, es⟩ n2 l2 j nl2 out)).2 =
  bif decide (j < len) then bif (es.length == n3) && true then bif decide (0 ≤ j) && decide (j < (l3 : Int)) then bif es.length == n3 then
    bif room out n2 l2 then some (.normal, shM6.put (lM6 ⟨u, n1, l1, n3, l3, len, mv, wh, cx, cy, tn, bx, by_, px, py, nl, es⟩ (n2 + 1) (n2 + 1) (W (j + 1)) (nl2 && false) (out ++ [mvE (rX es j) (rY es j) (Int.tmod (W tn) 4) bx by_]))) else none
  else none else none else none
  else some (xM6 ⟨u, n1, l1, n3, l3, len, mv, wh, cx, cy, tn, bx, by_, px, py, nl, es⟩ n2 l2 nl2 out) := by kernel_rfl
end Go.Hg
/- Geometry: RingMoves: the moved ring. -/
namespace Go.Hg
open Go.Hx Go.Proofs
/-- The points from j on, turned and moved. -/
def mvL (es : List PV) (t u v : Int) (j : Int) : Nat → List PV
  | 0 => []
  | m + 1 => mvE (qX es j) (qY es j) t u v :: mvL es t u v (j + 1) m
theorem mvL_len (es : List PV) (t u v : Int) : ∀ (m : Nat) (j : Int), (mvL es t u v j m).length = m
  | 0, _ => rfl
  | m + 1, j => by simp [mvL, mvL_len es t u v m (j + 1)]
theorem mvL_get (es : List PV) (t u v : Int) : ∀ (m : Nat) (j : Int) (i : Nat), i < m → (mvL es t u v j m).getD i .any = mvE (qX es (j + i)) (qY es (j + i)) t u v
  | 0, _, _, h => by omega
  | m + 1, j, 0, _ => by simp [mvL]
  | m + 1, j, i + 1, h => by
    simp only [mvL, List.getD_cons_succ]
    rw [mvL_get es t u v m (j + 1) i (by omega), show j + 1 + (i : Int) = j + ((i + 1 : Nat) : Int) by omega]
def pM6 : LS → Bool
  | ([.b _, .n _, .n _, .n n2, .n l2, .n n3, .n l3, .i len, .i j], [.b _, .i _, .i _, .i _, .i _, .i _, .i _, .i _, .i _, .l _ es, .l _ out]) =>
    decide (0 ≤ j) && decide (j ≤ len) && decide (len = (es.length : Int)) && decide (n3 = es.length) && decide (l3 = es.length) && decide (n2 = out.length) && decide (l2 = out.length) && decide ((out.length : Int) ≤ j) && decide (es.length ≤ 1000)
  | _ => false
noncomputable def fM6 : LS → DT (PX × List PV × List Row)
  | ([.b u, .n n1, .n l1, .n n2, .n _, .n n3, .n l3, .i len, .i j], [.b mv, .i wh, .i cx, .i cy, .i tn, .i bx, .i by_, .i px, .i py, .l nl es, .l nl2 out]) =>
    .leaf (xM6 ⟨u, n1, l1, n3, l3, len, mv, wh, cx, cy, tn, bx, by_, px, py, nl, es⟩ (n2 + (len - j).toNat) (n2 + (len - j).toNat) (nl2 && decide ((len - j).toNat = 0)) (out ++ mvL es (Int.tmod (W tn) 4) bx by_ j (len - j).toNat))
  | _ => .no
def mM6 : LS → Nat
  | ([.b _, .n _, .n _, .n _, .n _, .n _, .n _, .i len, .i j], [.b _, .i _, .i _, .i _, .i _, .i _, .i _, .i _, .i _, .l _ _, .l _ _]) => (len - j).toNat
  | _ => 0
theorem sM6 : ∀ s r, pM6 s = true → (fM6 s).run = some r → r.1 ≠ .normal ∧ (runB Try.prog E50 60 14 (lpb Try.f14 9) [5, 6, 7, 9, 10, 11, 53, 54, 55] [5, 6, 7, 9, 10, 11] (shM6.put s).1 (shM6.put s).2 = some r ∨
      ∃ s', runB Try.prog E50 60 14 (lpb Try.f14 9) [5, 6, 7, 9, 10, 11, 53, 54, 55] [5, 6, 7, 9, 10, 11] (shM6.put s).1 (shM6.put s).2 = some (.normal, shM6.put s') ∧ pM6 s' = true ∧ mM6 s' < mM6 s ∧ (fM6 s').run = some r) := by
  intro s r hp hr
  unfold pM6 at hp; split at hp
  · rename_i u n1 l1 n2 l2 n3 l3 len j mv wh cx cy tn bx by_ px py nl es nl2 out
    simp only [Bool.and_eq_true, decide_eq_true_eq] at hp
    obtain ⟨⟨⟨⟨⟨⟨⟨⟨h1, h2⟩, h3⟩, h4⟩, h5⟩, h6⟩, h7⟩, h8⟩, h9⟩ := hp
    have hr' := (Option.some.inj hr).symm
    refine ⟨by rw [hr']; simp, ?_⟩
    subst h3 h4 h5 h6 h7
    rw [show shM6.put ([.b u, .n n1, .n l1, .n out.length, .n out.length, .n es.length, .n es.length, .i (es.length : Int), .i j], [.b mv, .i wh, .i cx, .i cy, .i tn, .i bx, .i by_, .i px, .i py, .l nl es, .l nl2 out]) =
      shM6.put (lM6 ⟨u, n1, l1, es.length, es.length, (es.length : Int), mv, wh, cx, cy, tn, bx, by_, px, py, nl, es⟩ out.length out.length j nl2 out) from rfl, qM6]
    by_cases hi : j < (es.length : Int)
    · have hw := W_id (n := j + 1) (by omega) (by omega)
      have hroom : room out out.length out.length = true := by unfold room; simp; omega
      rw [decide_eq_true hi, cond_true, hroom, hw, rX_eq, rY_eq, show ((es.length == es.length) && true) = true by simp, show (es.length == es.length) = true by simp, show (decide (0 ≤ j) && true) = true by simp; omega]
      simp only [cond_true, Bool.and_false]
      obtain ⟨m, hm⟩ : ∃ m, ((es.length : Int) - j).toNat = m + 1 := ⟨((es.length : Int) - j).toNat - 1, by omega⟩
      have hm2 : ((es.length : Int) - (j + 1)).toNat = m := by omega
      rw [hm] at hr'
      simp only [mvL] at hr'
      right
      refine ⟨lM6 ⟨u, n1, l1, es.length, es.length, (es.length : Int), mv, wh, cx, cy, tn, bx, by_, px, py, nl, es⟩ (out.length + 1) (out.length + 1) (j + 1) false (out ++ [mvE (qX es j) (qY es j) (Int.tmod (W tn) 4) bx by_]), rfl, by simp [pM6]; omega, by simp only [mM6]; omega, ?_⟩
      rw [hr']
      simp only [fM6, hm2, List.append_assoc, List.cons_append, List.nil_append, Bool.false_and]
      rw [show out.length + 1 + m = out.length + (m + 1) by omega]
      simp [DT.run]
    · rw [decide_eq_false hi]
      rw [show ((es.length : Int) - j).toNat = 0 by omega] at hr'
      exact .inl (by rw [hr']; simp [mvL])
  · cases hp
noncomputable def E51 : EnvK := E50.addW 14 9 [5, 6, 7, 9, 10, 11, 53, 54, 55] [] shM6 pM6 fM6
theorem ok51 : EnvOK Try.prog E51.env :=
  ok50.addW (n := 60) Try.func14 (show Try.f14.body = some (bod Try.f14) by kernel_rfl) (show (loops (bod Try.f14)).filter (fun b => rid b == 9) = [lpb Try.f14 9] by kernel_rfl) [5, 6, 7, 9, 10, 11, 53, 54, 55] [5, 6, 7, 9, 10, 11] [] shM6 mM6 sM6
end Go.Hg
/- Geometry: RingMoves: what it comes to. -/
namespace Go.Hg
open Go.Hx Go.Proofs
def fr (es : List PV) (n : Nat) (k : List PV → Option PV) : Option PV := bif es.length == n then k ((es.drop 0).take n) else none
def fin6 (M es : List PV) (n2 n : Nat) (x' y' x y : Int) : Option PV :=
  fr M n2 fun m => fr es n fun r => bif rchk m == rchk r then fr M n2 (fun m => bif big m then fr es n (fun r => bif big r then some (bv (ins m x' y' == ins r x y)) else none) else none) else some (bv false)
def mv6 (es : List PV) (n : Nat) (mv : Bool) (wh cx cy tn bx by_ px py : Int) : Option PV :=
  bif pM6 (lM6 ⟨true, n, n, n, n, (n : Int), mv, wh, cx, cy, tn, bx, by_, px, py, false, es⟩ 0 0 0 true []) then
    fin6 (mvL es (Int.tmod (W tn) 4) bx by_ 0 ((n : Int) - 0).toNat) es (0 + ((n : Int) - 0).toNat) n (W (trx px py (Int.tmod (W tn) 4) + bx)) (W (tryy px py (Int.tmod (W tn) 4) + by_)) px py
  else none
def all6 (es : List PV) (n : Nat) (mv : Bool) (wh cx cy tn bx by_ px py : Int) : Option PV :=
  bif decide (n * 16 ≤ 140737488355328) then
    bif mv then bif !decide ((n : Int) = 0) then bif (es.length == n) && true then bif decide (0 ≤ Int.tmod (W wh) (n : Int)) && decide (Int.tmod (W wh) (n : Int) < (n : Int)) then bif (es.length == n) && true && true && true then
      mv6 (es.set (0 + (Int.tmod (W wh) (n : Int)).toNat) (ptv (Int.tmod cx 20) (Int.tmod cy 20))) n true wh cx cy tn bx by_ px py else none else none else none else none
    else mv6 es n false wh cx cy tn bx by_ px py
  else none
theorem q14 (f : Bool) (L : List PV) (mv : Bool) (wh cx cy tn bx by_ px py : Int) : runP Try.prog E51 100 14 [.lst f 3 L, .agg [bv mv, .val (.int .u8 wh), iv cx, iv cy, .val (.int .u8 tn)], ptv bx by_, ptv px py] =
  all6 (madeL L) (0 + (madeL L).length) mv wh cx cy tn (Int.tmod bx 1000) (Int.tmod by_ 1000) (Int.tmod px 30) (Int.tmod py 30) := by kernel_rfl
end Go.Hg
/- Geometry: RingMoves answers true. -/
namespace Go.Hg
open Go.Hx Go.Proofs
def in60 (e : PV) : Prop := ∃ x y, e = ptv x y ∧ (-60 ≤ x ∧ x ≤ 60) ∧ (-60 ≤ y ∧ y ≤ 60)
theorem in60_q {es : List PV} (h : ∀ e ∈ es, in60 e) {i : Int} (h0 : 0 ≤ i) (h1 : i < (es.length : Int)) : (-60 ≤ qX es i ∧ qX es i ≤ 60) ∧ (-60 ≤ qY es i ∧ qY es i ≤ 60) := by
  have hlt : i.toNat < es.length := by omega
  obtain ⟨x, y, he, hx, hy⟩ := h es[i.toNat] (List.getElem_mem hlt)
  have hg : es.getD i.toNat .any = ptv x y := by rw [List.getD_eq_getElem?_getD, List.getElem?_eq_getElem hlt, he]; rfl
  unfold qX qY
  rw [hg]
  exact ⟨hx, hy⟩
theorem dr_range (L : List PV) (j : Nat) {n : Int} (h : 0 < n) : 0 ≤ dr L j n ∧ dr L j n < n := ⟨dn_ge L _ h, dn_lt L _ h⟩
theorem mxF_range (L : List PV) : ∀ k, k ≤ 10 → -4 ≤ mxF (dr L) k ∧ mxF (dr L) k ≤ 3 + 4 * (k : Int)
  | 0, _ => by
    have := dr_range L 2 (n := 8) (by omega)
    simp only [mxF]; rw [W_id (by omega) (by omega)]; omega
  | k + 1, h => by
    have h1 := mxF_range L k (by omega)
    have := dr_range L (5 + 3 * k) (n := 4) (by omega)
    simp only [mxF]
    rw [W_id (n := mxF (dr L) k + 1) (by omega) (by omega), W_id (by omega) (by omega)]; omega
theorem myF_eq (L : List PV) (k : Nat) : myF (dr L) k = dr L (3 + 3 * k) 9 - 4 := by
  have := dr_range L (3 + 3 * k) (n := 9) (by omega)
  unfold myF; exact W_id (by omega) (by omega)
theorem mhF_eq (L : List PV) (k : Nat) : mhF (dr L) k = myF (dr L) k + 1 + dr L (4 + 3 * k) 7 := by
  have := dr_range L (3 + 3 * k) (n := 9) (by omega)
  have := dr_range L (4 + 3 * k) (n := 7) (by omega)
  unfold mhF
  rw [myF_eq, W_id (n := dr L (3 + 3 * k) 9 - 4 + 1) (by omega) (by omega), W_id (by omega) (by omega)]
theorem trx_qt {x y t : Int} (hx : -10000 ≤ x ∧ x ≤ 10000) (hy : -10000 ≤ y ∧ y ≤ 10000) (ht : 0 ≤ t ∧ t < 4) : trx x y t = qtx t x y ∧ tryy x y t = qty t x y := by
  unfold trx tryy qtx qty
  rw [show t % 4 = t by omega, W_id (n := 0 - y) (by omega) (by omega), W_id (n := 0 - x) (by omega) (by omega), W_id (n := 0 - (0 - y)) (by omega) (by omega), show 0 - (0 - y) = y by omega]
  constructor <;> (repeat' split) <;> first | rfl | omega
theorem tp_in {x y t : Int} (hx : -60 ≤ x ∧ x ≤ 60) (hy : -60 ≤ y ∧ y ≤ 60) (ht : 0 ≤ t ∧ t < 4) : in60 (tp t x y) := by
  obtain ⟨e1, e2⟩ := trx_qt (x := x) (y := y) (t := t) (by omega) (by omega) ht
  refine ⟨_, _, rfl, ?_, ?_⟩
  · rw [e1]; unfold qtx; (repeat' split) <;> omega
  · rw [e2]; unfold qty; (repeat' split) <;> omega
theorem madeL_in (L : List PV) : ∀ e ∈ madeL L, in60 e := by
  have h4 := dr_range L 0 (n := 4) (by omega)
  have ht := dr_range L 1 (n := 4) (by omega)
  intro e he
  unfold madeL mdF at he
  simp only [List.mem_append, List.mem_map, List.mem_range, List.mem_reverse] at he
  have b : ∀ k, k < 2 + (dr L 0 4).toNat → (-60 ≤ mxF (dr L) k ∧ mxF (dr L) k ≤ 60) ∧ (-60 ≤ myF (dr L) k ∧ myF (dr L) k ≤ 60) ∧ (-60 ≤ mhF (dr L) k ∧ mhF (dr L) k ≤ 60) := fun k hk => by
    have h1 := mxF_range L k (by omega)
    have h2 := dr_range L (3 + 3 * k) (n := 9) (by omega)
    have h3 := dr_range L (4 + 3 * k) (n := 7) (by omega)
    rw [mhF_eq, myF_eq]
    omega
  rcases he with ⟨k, hk, rfl⟩ | ⟨k, hk, rfl⟩
  · obtain ⟨b1, b2, _⟩ := b k hk; exact tp_in b1 b2 ht
  · obtain ⟨b1, _, b3⟩ := b k hk; exact tp_in b1 b3 ht
theorem mvE_eq {x y t u v : Int} (hx : -60 ≤ x ∧ x ≤ 60) (hy : -60 ≤ y ∧ y ≤ 60) (ht : 0 ≤ t ∧ t < 4) (hu : -1000 ≤ u ∧ u ≤ 1000) (hv : -1000 ≤ v ∧ v ≤ 1000) :
    W (trx x y t + u) = qtx t x y + u ∧ W (tryy x y t + v) = qty t x y + v := by
  obtain ⟨e1, e2⟩ := trx_qt (x := x) (y := y) (t := t) (by omega) (by omega) ht
  have k := qt_sm (t := t) (x := x) (y := y) (by omega)
  rw [e1, e2]
  exact ⟨W_id (by omega) (by omega), W_id (by omega) (by omega)⟩
section
variable {es : List PV} (h : ∀ e ∈ es, in60 e) {t u v : Int} (ht : 0 ≤ t ∧ t < 4) (hu : -1000 ≤ u ∧ u ≤ 1000) (hv : -1000 ≤ v ∧ v ≤ 1000)
include h ht hu hv
theorem mv_img : Img es (mvL es t u v 0 es.length) (fun x y => qtx t x y + u) (fun x y => qty t x y + v) := by
  have key : ∀ i, 0 ≤ i → i < (es.length : Int) → (mvL es t u v 0 es.length).getD i.toNat .any = mvE (qX es i) (qY es i) t u v := fun i h0 h1 => by
    rw [mvL_get es t u v es.length 0 i.toNat (by omega), show (0 : Int) + (i.toNat : Int) = i by omega]
  refine ⟨mvL_len es t u v es.length 0, fun i h0 h1 => ?_, fun i h0 h1 => ?_⟩
  · have b := in60_q h h0 h1
    show (((mvL es t u v 0 es.length).getD i.toNat .any).cellAt 0).getI = _
    rw [key i h0 h1]
    exact (mvE_eq b.1 b.2 ht hu hv).1
  · have b := in60_q h h0 h1
    show (((mvL es t u v 0 es.length).getD i.toNat .any).cellAt 1).getI = _
    rw [key i h0 h1]
    exact (mvE_eq b.1 b.2 ht hu hv).2
end
theorem mv_keeps (t u v : Int) : Keeps (fun x y => qtx t x y + u) (fun x y => qty t x y + v) := (qt_keeps t).comp (keeps_shift u v)
theorem app_q {A : List PV} {X Y : Int → Int → Int} {B : List PV} (hI : Img A B X Y) (h1 : 0 < A.length) : Img (A ++ [qp A 0]) (B ++ [qp B 0]) X Y := by
  have ge : ∀ {es : List PV} {i : Int}, 0 ≤ i → i < (es.length : Int) + 1 → (qX (es ++ [qp es 0]) i = if i < (es.length : Int) then qX es i else qX es 0) ∧ (qY (es ++ [qp es 0]) i = if i < (es.length : Int) then qY es i else qY es 0) := fun {es i} g0 g1 => by
    unfold qX qY
    rw [List.getD_eq_getElem?_getD]
    by_cases g : i < (es.length : Int)
    · rw [if_pos g, if_pos g, List.getElem?_append_left (by omega)]
      exact ⟨by rw [List.getD_eq_getElem?_getD], by rw [List.getD_eq_getElem?_getD]⟩
    · rw [if_neg g, if_neg g, List.getElem?_append_right (by omega), show i.toNat - es.length = 0 by omega]
      exact ⟨rfl, rfl⟩
  have hl := hI.len
  refine ⟨by simp [hl], fun i g0 g1 => ?_, fun i g0 g1 => ?_⟩
  · simp only [List.length_append, List.length_cons, List.length_nil] at g1
    rw [(ge (es := B) g0 (by omega)).1, (ge (es := A) g0 (by omega)).1, (ge (es := A) g0 (by omega)).2, hl]
    split
    · exact hI.x i g0 (by omega)
    · exact hI.x 0 (by omega) (by omega)
  · simp only [List.length_append, List.length_cons, List.length_nil] at g1
    rw [(ge (es := B) g0 (by omega)).2, (ge (es := A) g0 (by omega)).1, (ge (es := A) g0 (by omega)).2, hl]
    split
    · exact hI.y i g0 (by omega)
    · exact hI.y 0 (by omega) (by omega)
theorem in60_app {es : List PV} (h : ∀ e ∈ es, in60 e) (h1 : 0 < es.length) : ∀ e ∈ es ++ [qp es 0], in60 e := by
  intro e he
  rcases List.mem_append.1 he with g | g
  · exact h e g
  · simp only [List.mem_singleton] at g; subst g
    have := in60_q h (i := 0) (by omega) (by omega)
    exact ⟨_, _, rfl, this⟩
theorem fin_bds {es : List PV} (h : ∀ i, 0 ≤ i → i < (es.length : Int) → (-16384 ≤ qX es i ∧ qX es i ≤ 16384) ∧ (-16384 ≤ qY es i ∧ qY es i ≤ 16384)) : fin es = true := by
  unfold fin
  rw [allR_false]
  intro j hj
  exact inB2_iff.2 (h (0 + (j : Int)) (by omega) (by omega))
theorem rchk_mv {es : List PV} (h : ∀ e ∈ es, in60 e) {t u v : Int} (ht : 0 ≤ t ∧ t < 4) (hu : -1000 ≤ u ∧ u ≤ 1000) (hv : -1000 ≤ v ∧ v ≤ 1000) : rchk (mvL es t u v 0 es.length) = rchk es := by
  unfold rchk
  have hI := mv_img h ht hu hv
  rw [hI.len]
  by_cases h1 : (es.length : Int) < 3
  · rw [decide_eq_true h1]; rfl
  rw [decide_eq_false h1]
  have hI2 := app_q hI (by omega)
  have h60 := in60_app h (by omega)
  have bA := fun i (g0 : 0 ≤ i) (g1 : i < ((es ++ [qp es 0]).length : Int)) => in60_q h60 g0 g1
  have bB : ∀ i, 0 ≤ i → i < ((mvL es t u v 0 es.length ++ [qp (mvL es t u v 0 es.length) 0]).length : Int) → (-16384 ≤ qX (mvL es t u v 0 es.length ++ [qp (mvL es t u v 0 es.length) 0]) i ∧ qX (mvL es t u v 0 es.length ++ [qp (mvL es t u v 0 es.length) 0]) i ≤ 16384) ∧ (-16384 ≤ qY (mvL es t u v 0 es.length ++ [qp (mvL es t u v 0 es.length) 0]) i ∧ qY (mvL es t u v 0 es.length ++ [qp (mvL es t u v 0 es.length) 0]) i ≤ 16384) := fun i g0 g1 => by
    rw [hI2.len] at g1
    rw [hI2.x i g0 g1, hI2.y i g0 g1]
    have := bA i g0 g1
    have k := qt_sm (t := t) (x := qX (es ++ [qp es 0]) i) (y := qY (es ++ [qp es 0]) i) (by omega)
    omega
  have e := img_chk (mv_keeps t u v) hI2 (fun i g0 g1 => by have := bA i g0 g1; unfold bd; omega) (fun i g0 g1 => by have := bB i g0 (by rw [hI2.len]; exact g1); unfold bd; omega)
    (fin_bds fun i g0 g1 => by have := bA i g0 g1; omega) (fin_bds bB)
  rw [e]
end Go.Hg
/- Geometry: made rings are right. -/
namespace Go.Hg
open Go.Hx Go.Proofs
/-- A ring of columns: lower points from the left to the right, upper ones back. -/
structure Cols (m : Nat) (x y h : Nat → Int) : Prop where
  two : 2 ≤ m
  inc : ∀ u v, u < v → v < m → x u < x v
  up : ∀ u, u < m → y u < h u
  bx : ∀ u, u < m → -60 ≤ x u ∧ x u ≤ 60
  by_ : ∀ u, u < m → -60 ≤ y u ∧ y u ≤ 60
  bh : ∀ u, u < m → -60 ≤ h u ∧ h u ≤ 60
/-- The points' coordinates, the first one once more at the end. -/
def cpx (m : Nat) (x : Nat → Int) (j : Nat) : Int := if j < m then x j else if j < 2 * m then x (2 * m - 1 - j) else x 0
def cpy (m : Nat) (y h : Nat → Int) (j : Nat) : Int := if j < m then y j else if j < 2 * m then h (2 * m - 1 - j) else y 0
/-- The four kinds of segments. -/
def Kd (m : Nat) (x y h : Nat → Int) (j : Nat) (a b c d : Int) : Prop :=
  (j + 1 < m ∧ a = x j ∧ b = y j ∧ c = x (j + 1) ∧ d = y (j + 1)) ∨ (j = m - 1 ∧ a = x (m - 1) ∧ b = y (m - 1) ∧ c = x (m - 1) ∧ d = h (m - 1)) ∨
  (∃ u, u + 1 < m ∧ j = 2 * m - 2 - u ∧ a = x (u + 1) ∧ b = h (u + 1) ∧ c = x u ∧ d = h u) ∨ (j = 2 * m - 1 ∧ a = x 0 ∧ b = h 0 ∧ c = x 0 ∧ d = y 0)
theorem kd_of {m : Nat} {x y h : Nat → Int} (hm : 2 ≤ m) {j : Nat} (hj : j < 2 * m) : Kd m x y h j (cpx m x j) (cpy m y h j) (cpx m x (j + 1)) (cpy m y h (j + 1)) := by
  unfold Kd cpx cpy
  by_cases h1 : j + 1 < m
  · left
    simp only [if_pos (show j < m by omega), if_pos h1]
    exact ⟨h1, trivial, trivial, trivial, trivial⟩
  · right
    by_cases h2 : j = m - 1
    · left
      simp only [if_pos (show j < m by omega), if_neg h1, if_pos (show j + 1 < 2 * m by omega), show 2 * m - 1 - (j + 1) = m - 1 by omega]
      exact ⟨h2, by rw [h2], by rw [h2], trivial, trivial⟩
    · right
      by_cases h3 : j + 1 < 2 * m
      · left
        simp only [if_neg (show ¬ j < m by omega), if_pos (show j < 2 * m by omega), if_neg h1, if_pos h3]
        refine ⟨2 * m - 2 - j, by omega, by omega, ?_, ?_, ?_, ?_⟩ <;> congr 1 <;> omega
      · right
        simp only [if_neg (show ¬ j < m by omega), if_pos (show j < 2 * m by omega), if_neg h1, if_neg h3, show 2 * m - 1 - j = 0 by omega]
        exact ⟨by omega, trivial, trivial, trivial, trivial⟩
section
variable {m : Nat} {x y h : Nat → Int} (hC : Cols m x y h)
include hC
theorem cols_mono {u v : Nat} (h1 : u ≤ v) (h2 : v < m) : x u ≤ x v := by
  rcases Nat.lt_or_ge u v with g | g
  · exact Int.le_of_lt (hC.inc u v g h2)
  · rw [show u = v by omega]; exact Int.le_refl _
theorem kd_bd {j : Nat} {a b c d : Int} (k : Kd m x y h j a b c d) : bd a b ∧ bd c d := by
  have hm := hC.two
  unfold bd
  rcases k with ⟨k, rfl, rfl, rfl, rfl⟩ | ⟨k, rfl, rfl, rfl, rfl⟩ | ⟨u, k, _, rfl, rfl, rfl, rfl⟩ | ⟨k, rfl, rfl, rfl, rfl⟩
  · have := hC.bx j (by omega); have := hC.by_ j (by omega); have := hC.bx (j + 1) k; have := hC.by_ (j + 1) k; omega
  · have := hC.bx (m - 1) (by omega); have := hC.by_ (m - 1) (by omega); have := hC.bh (m - 1) (by omega); omega
  · have := hC.bx u (by omega); have := hC.bh u (by omega); have := hC.bx (u + 1) k; have := hC.bh (u + 1) k; omega
  · have := hC.bx 0 (by omega); have := hC.by_ 0 (by omega); have := hC.bh 0 (by omega); omega
theorem kd_ne {j : Nat} {a b c d : Int} (k : Kd m x y h j a b c d) : ¬ (a = c ∧ b = d) := by
  have hm := hC.two
  rcases k with ⟨k, rfl, rfl, rfl, rfl⟩ | ⟨k, rfl, rfl, rfl, rfl⟩ | ⟨u, k, _, rfl, rfl, rfl, rfl⟩ | ⟨k, rfl, rfl, rfl, rfl⟩
  · have := hC.inc j (j + 1) (by omega) k; omega
  · have := hC.up (m - 1) (by omega); omega
  · have := hC.inc u (u + 1) (by omega) k; omega
  · have := hC.up 0 (by omega); omega
omit hC in
theorem crs_vert {a b c d h' : Int} (h1 : a ≠ c) (h2 : d ≠ h') : crs a b c d c h' ≠ 0 := by
  have e : crs a b c d c h' = (c - a) * (h' - d) := by unfold crs; grind
  rw [e]; intro t; rcases Int.mul_eq_zero.1 t with g | g <;> omega
theorem kd_pair {k i : Nat} (hk : k < i) (hi : i < 2 * m) {a b c d e f p q : Int} (k1 : Kd m x y h k a b c d) (k2 : Kd m x y h i e f p q) :
    mt a b c d e f p q = if k + 1 = i then 1 else if k = 0 ∧ i = 2 * m - 1 then 1 else 0 := by
  have hm := hC.two
  obtain ⟨b1, b2⟩ := kd_bd hC k1
  obtain ⟨b3, b4⟩ := kd_bd hC k2
  rcases k1 with ⟨n1, rfl, rfl, rfl, rfl⟩ | ⟨n1, rfl, rfl, rfl, rfl⟩ | ⟨u, n1, n3, rfl, rfl, rfl, rfl⟩ | ⟨n1, rfl, rfl, rfl, rfl⟩
  · have x1 := hC.inc k (k + 1) (by omega) n1
    rcases k2 with ⟨n2, rfl, rfl, rfl, rfl⟩ | ⟨n2, rfl, rfl, rfl, rfl⟩ | ⟨v, n2, n4, rfl, rfl, rfl, rfl⟩ | ⟨n2, rfl, rfl, rfl, rfl⟩
    · have x2 := hC.inc i (i + 1) (by omega) n2
      by_cases ad : k + 1 = i
      · subst ad; rw [if_pos rfl]; exact mt_chain b1 b2 b4 (.inl ⟨x1, x2⟩)
      · rw [if_neg ad, if_neg (by omega)]
        have x3 := hC.inc (k + 1) i (by omega) (by omega)
        exact mt_left b1 b2 b3 b4 (by omega) (by omega) (by omega) (by omega)
    · by_cases ad : k + 1 = i
      · rw [if_pos ad]
        have ek : m - 1 = k + 1 := by omega
        rw [ek] at b4 ⊢
        exact mt_chain b1 b2 b4 (.inr (.inr (crs_vert (by omega) (by have := hC.up (k + 1) n1; omega))))
      · rw [if_neg ad, if_neg (by omega)]
        have x3 := hC.inc (k + 1) (m - 1) (by omega) (by omega)
        exact mt_left b1 b2 b3 b4 (by omega) (by omega) (by omega) (by omega)
    · rw [if_neg (by omega), if_neg (by omega)]
      have x2 := hC.inc v (v + 1) (by omega) n2
      rcases Nat.lt_trichotomy k v with g | g | g
      · rcases Nat.lt_or_ge (k + 1) v with g' | g'
        · have x3 := hC.inc (k + 1) v g' (by omega)
          exact mt_left b1 b2 b3 b4 (by omega) (by omega) (by omega) (by omega)
        · obtain rfl : v = k + 1 := by omega
          exact mt_next b1 b2 b3 b4 x1 x2 (hC.up (k + 1) (by omega))
      · subst g; exact mt_over b1 b2 b3 b4 x1 (hC.up k (by omega)) (hC.up (k + 1) (by omega))
      · rcases Nat.lt_or_ge (v + 1) k with g' | g'
        · have x3 := hC.inc (v + 1) k g' (by omega)
          exact mt_right b1 b2 b3 b4 (by omega) (by omega) (by omega) (by omega)
        · obtain rfl : k = v + 1 := by omega
          exact mt_prev b1 b2 b3 b4 x2 x1 (hC.up (v + 1) (by omega))
    · rcases Nat.eq_zero_or_pos k with g | g
      · subst g
        rw [if_neg (by omega), if_pos ⟨rfl, n2⟩]
        refine mt_ring b1 b2 b3 ?_
        have e : crs (x 0) (y 0) (x (0 + 1)) (y (0 + 1)) (x 0) (h 0) = (x (0 + 1) - x 0) * (h 0 - y 0) := by unfold crs; grind
        rw [e]; intro t; have := hC.up 0 (by omega); rcases Int.mul_eq_zero.1 t with g | g <;> omega
      · rw [if_neg (by omega), if_neg (by omega)]
        have x3 := hC.inc 0 k g (by omega)
        exact mt_right b1 b2 b3 b4 (by omega) (by omega) (by omega) (by omega)
  · rcases k2 with ⟨n2, rfl, rfl, rfl, rfl⟩ | ⟨n2, rfl, rfl, rfl, rfl⟩ | ⟨v, n2, n4, rfl, rfl, rfl, rfl⟩ | ⟨n2, rfl, rfl, rfl, rfl⟩
    · omega
    · omega
    · have x2 := hC.inc v (v + 1) (by omega) n2
      by_cases ad : k + 1 = i
      · rw [if_pos ad]
        have ek : m - 1 = v + 1 := by omega
        rw [ek] at b1 b2 ⊢
        refine mt_chain b1 b2 b4 (.inr (.inr ?_))
        have e : crs (x (v + 1)) (y (v + 1)) (x (v + 1)) (h (v + 1)) (x v) (h v) = -((h (v + 1) - y (v + 1)) * (x v - x (v + 1))) := by unfold crs; grind
        rw [e]; intro t; have := hC.up (v + 1) (by omega); rcases Int.mul_eq_zero.1 (show (h (v + 1) - y (v + 1)) * (x v - x (v + 1)) = 0 by omega) with g | g <;> omega
      · rw [if_neg ad, if_neg (by omega)]
        have x3 := hC.inc (v + 1) (m - 1) (by omega) (by omega)
        exact mt_right b1 b2 b3 b4 (by omega) (by omega) (by omega) (by omega)
    · rw [if_neg (by omega), if_neg (by omega)]
      have x3 := hC.inc 0 (m - 1) (by omega) (by omega)
      exact mt_right b1 b2 b3 b4 (by omega) (by omega) (by omega) (by omega)
  · have x1 := hC.inc u (u + 1) (by omega) n1
    rcases k2 with ⟨n2, rfl, rfl, rfl, rfl⟩ | ⟨n2, rfl, rfl, rfl, rfl⟩ | ⟨v, n2, n4, rfl, rfl, rfl, rfl⟩ | ⟨n2, rfl, rfl, rfl, rfl⟩
    · omega
    · omega
    · have x2 := hC.inc v (v + 1) (by omega) n2
      by_cases ad : k + 1 = i
      · rw [if_pos ad]
        obtain rfl : u = v + 1 := by omega
        exact mt_chain b1 b2 b4 (.inr (.inl ⟨x2, x1⟩))
      · rw [if_neg ad, if_neg (by omega)]
        have x3 := hC.inc (v + 1) u (by omega) (by omega)
        exact mt_right b1 b2 b3 b4 (by omega) (by omega) (by omega) (by omega)
    · by_cases ad : k + 1 = i
      · rw [if_pos ad]
        obtain rfl : u = 0 := by omega
        exact mt_chain b1 b2 b4 (.inr (.inr (crs_vert (by omega) (by have := hC.up 0 (by omega); omega))))
      · rw [if_neg ad, if_neg (by omega)]
        have x3 := hC.inc 0 u (by omega) (by omega)
        exact mt_right b1 b2 b3 b4 (by omega) (by omega) (by omega) (by omega)
  · omega
end
end Go.Hg
/- Geometry: RingChecks: its loop, and what it comes to. -/
namespace Go.Hg
open Go.Hx Go.Proofs
noncomputable def E60 : EnvK := E39.addN 9 7 [(12, 23, 2)]
theorem ok60 : EnvOK Try.prog E60.env := ok39.addN 9 7 [(12, 23, 2)]
def shC9 : S1 := ⟨84, [(3, .lst 23), (9, .bool), (10, .lst 23), (11, .sl 1), (12, .sl 2), (32, .lst 23), (33, I64), (34, I64)],
  [.one 23 2 (.agg [I64, I64]), .many 23 2, .many 23 2]⟩
abbrev lC9 (f1 : Bool) (R : List PV) (u : Bool) (f2 : Bool) (r : List PV) (n1 l1 n2 l2 : Nat) (f3 : Bool) (es : List PV) (len j tx ty : Int) (nl1 : Bool) (odd : List PV) (nl2 : Bool) (out : List PV) : LS :=
  ([.l f1 R, .b u, .l f2 r, .n n1, .n l1, .n n2, .n l2, .l f3 es, .i len, .i j], [.i tx, .i ty, .l nl1 odd, .l nl2 out])
noncomputable abbrev xC9 (f1 : Bool) (R : List PV) (u : Bool) (f2 : Bool) (r : List PV) (n1 l1 n2 l2 : Nat) (tx ty : Int) (nl1 : Bool) (odd : List PV) (nl2 : Bool) (out : List PV) : PX × List PV × List Row :=
  (.exit 0, tm 84 [(3, .lst f1 23 R), (9, bv u), (10, .lst f2 23 r), (11, .sl 1 n1 0 l1), (12, .sl 2 n2 0 l2)], (shC9.put (lC9 f1 R u f2 r n1 l1 n2 l2 f1 R 0 0 tx ty nl1 odd nl2 out)).2)
def sm9 (es : List PV) (j : Int) : PV := ptv (Int.tmod (qX es j) 9) (Int.tmod (qY es j) 9)
theorem qC9 (f1 : Bool) (R : List PV) (u : Bool) (f2 : Bool) (r : List PV) (n1 l1 n2 l2 : Nat) (f3 : Bool) (es : List PV) (len j tx ty : Int) (nl1 : Bool) (odd : List PV) (nl2 : Bool) (out : List PV) :
  runB Try.prog E60 60 9 (lpb Try.f9 7) [3, 9, 10, 11, 12, 32, 33, 34] [3, 9, 10, 11, 12] (shC9.put (lC9 f1 R u f2 r n1 l1 n2 l2 f3 es len j tx ty nl1 odd nl2 out)).1 (shC9.put (lC9 f1 R u f2 r n1 l1 n2 l2 f3 es len j tx ty nl1 odd nl2 out)).2 =
  bif decide (j < len) then bif inr es j then bif room out n2 l2 then some (.normal, shC9.put (lC9 f1 R u f2 r n1 l1 (n2 + 1) (n2 + 1) f3 es len (W (j + 1)) tx ty nl1 odd (nl2 && false) (out ++ [sm9 es j]))) else none else none
  else some (xC9 f1 R u f2 r n1 l1 n2 l2 tx ty nl1 odd nl2 out) := by kernel_rfl
def smL (es : List PV) (j : Int) : Nat → List PV
  | 0 => []
  | m + 1 => sm9 es j :: smL es (j + 1) m
theorem smL_len (es : List PV) : ∀ (m : Nat) (j : Int), (smL es j m).length = m
  | 0, _ => rfl
  | m + 1, j => by simp [smL, smL_len es m (j + 1)]
def pC9 : LS → Bool
  | ([.l _ _, .b _, .l _ _, .n _, .n _, .n n2, .n l2, .l _ es, .i len, .i j], [.i _, .i _, .l _ _, .l _ out]) =>
    decide (0 ≤ j) && decide (j ≤ len) && decide (len = (es.length : Int)) && decide (n2 = out.length) && decide (l2 = out.length) && decide ((out.length : Int) ≤ j) && decide (es.length ≤ 1000)
  | _ => false
noncomputable def fC9 : LS → DT (PX × List PV × List Row)
  | ([.l f1 R, .b u, .l f2 r, .n n1, .n l1, .n n2, .n _, .l _ es, .i len, .i j], [.i tx, .i ty, .l nl1 odd, .l nl2 out]) =>
    .leaf (xC9 f1 R u f2 r n1 l1 (n2 + (len - j).toNat) (n2 + (len - j).toNat) tx ty nl1 odd (nl2 && decide ((len - j).toNat = 0)) (out ++ smL es j (len - j).toNat))
  | _ => .no
def mC9 : LS → Nat
  | ([.l _ _, .b _, .l _ _, .n _, .n _, .n _, .n _, .l _ _, .i len, .i j], [.i _, .i _, .l _ _, .l _ _]) => (len - j).toNat
  | _ => 0
theorem sC9 : ∀ s r, pC9 s = true → (fC9 s).run = some r → r.1 ≠ .normal ∧ (runB Try.prog E60 60 9 (lpb Try.f9 7) [3, 9, 10, 11, 12, 32, 33, 34] [3, 9, 10, 11, 12] (shC9.put s).1 (shC9.put s).2 = some r ∨
      ∃ s', runB Try.prog E60 60 9 (lpb Try.f9 7) [3, 9, 10, 11, 12, 32, 33, 34] [3, 9, 10, 11, 12] (shC9.put s).1 (shC9.put s).2 = some (.normal, shC9.put s') ∧ pC9 s' = true ∧ mC9 s' < mC9 s ∧ (fC9 s').run = some r) := by
  intro s r hp hr
  unfold pC9 at hp; split at hp
  · rename_i f1 R u f2 rr n1 l1 n2 l2 f3 es len j tx ty nl1 odd nl2 out
    simp only [Bool.and_eq_true, decide_eq_true_eq] at hp
    obtain ⟨⟨⟨⟨⟨⟨h1, h2⟩, h3⟩, h6⟩, h7⟩, h8⟩, h9⟩ := hp
    have hr' := (Option.some.inj hr).symm
    refine ⟨by rw [hr']; simp, ?_⟩
    subst h3 h6 h7
    rw [qC9]
    by_cases hi : j < (es.length : Int)
    · have hw := W_id (n := j + 1) (by omega) (by omega)
      have hroom : room out out.length out.length = true := by unfold room; simp; omega
      rw [decide_eq_true hi, cond_true, hroom, hw, inr_of h1 hi]
      simp only [cond_true, Bool.and_false]
      obtain ⟨m, hm⟩ : ∃ m, ((es.length : Int) - j).toNat = m + 1 := ⟨((es.length : Int) - j).toNat - 1, by omega⟩
      have hm2 : ((es.length : Int) - (j + 1)).toNat = m := by omega
      rw [hm] at hr'
      simp only [smL] at hr'
      right
      refine ⟨lC9 f1 R u f2 rr n1 l1 (out.length + 1) (out.length + 1) f3 es (es.length : Int) (j + 1) tx ty nl1 odd false (out ++ [sm9 es j]), rfl, by simp [pC9]; omega, by simp only [mC9]; omega, ?_⟩
      rw [hr']
      simp only [fC9, hm2, List.append_assoc, List.cons_append, List.nil_append, Bool.false_and]
      rw [show out.length + 1 + m = out.length + (m + 1) by omega]
      simp [DT.run]
    · rw [decide_eq_false hi]
      rw [show ((es.length : Int) - j).toNat = 0 by omega] at hr'
      exact .inl (by rw [hr']; simp [smL])
  · cases hp
noncomputable def E61 : EnvK := E60.addW 9 7 [3, 9, 10, 11, 12, 32, 33, 34] [] shC9 pC9 fC9
theorem ok61 : EnvOK Try.prog E61.env :=
  ok60.addW (n := 60) Try.func9 (show Try.f9.body = some (bod Try.f9) by kernel_rfl) (show (loops (bod Try.f9)).filter (fun b => rid b == 7) = [lpb Try.f9 7] by kernel_rfl) [3, 9, 10, 11, 12, 32, 33, 34] [3, 9, 10, 11, 12] [] shC9 mC9 sC9
def frz9 (es : List PV) (n : Nat) (k : List PV → Option PV) : Option PV := bif es.length == n then k ((es.drop 0).take n) else none
def tL (es : List PV) (k : Option PV) : Option PV := bif rchk es != rchk es then some (bv false) else bif big es then bif big es then bif ar2 es != ar2 es then some (bv false) else k else none else none
def tS (es : List PV) (n : Nat) (k : Option PV) : Option PV := frz9 es n fun a => frz9 es n fun b => bif rchk a != rchk b then some (bv false) else frz9 es n fun a => bif big a then frz9 es n fun b => bif big b then bif ar2 a != ar2 b then some (bv false) else k else none else none
def end9 (r odd R sm : List PV) (n n2 : Nat) : Option PV :=
  bif decide (0 ≤ mn12 R) && decide (mn12 R ≤ ((R.length : Nat) : Int)) then bif decide ((0 + r.length) * 16 ≤ 140737488355328) then bif decide (r.length = 0 + r.length) && decide (0 + r.length = 0 + r.length) && decide ((0 + r.length + r.length) * 16 ≤ 140737488355328) then
    tL r (tS odd n (tL (cut12 R) (tS sm n2 (tS (r ++ r) (0 + r.length + r.length) (some (bv (rchk r == 0))))))) else none else none else none
def all9 (r R : List PV) (n : Nat) (g : Bool) (wh tx ty : Int) : Option PV :=
  bif decide (n * 16 ≤ 140737488355328) then bif !decide ((n : Int) = 0) then bif (r.length == n) && true then bif decide (0 ≤ Int.tmod (W wh) (n : Int)) && decide (Int.tmod (W wh) (n : Int) < (n : Int)) then bif (r.length == n) && true && true && true then
    bif decide (0 ≤ mn12 R) && decide (mn12 R ≤ ((R.length : Nat) : Int)) then
      bif pC9 (lC9 g R true false r n n 0 0 (g && false) (cut12 R) ((cut12 R).length : Int) 0 tx ty false (r.set (0 + (Int.tmod (W wh) (n : Int)).toNat) (ptv tx ty)) true []) then
        end9 r (r.set (0 + (Int.tmod (W wh) (n : Int)).toNat) (ptv tx ty)) R (smL (cut12 R) 0 (((cut12 R).length : Int) - 0).toNat) n (0 + (((cut12 R).length : Int) - 0).toNat)
      else none else none else none else none else none else none else none
theorem q9 (f g : Bool) (L R : List PV) (wh tx ty : Int) : runP Try.prog E61 100 9 [.lst f 3 L, .val (.int .u8 wh), ptv tx ty, .lst g 23 R] =
  all9 (madeL L) R (0 + (madeL L).length) g wh tx ty := by kernel_rfl
end Go.Hg
/- Geometry: RingChecks answers true. -/
namespace Go.Hg
open Go.Hx Go.Proofs
def colL (m : Nat) (x y h : Nat → Int) : List PV := ((List.range m).map fun k => ptv (x k) (y k)) ++ ((List.range m).reverse.map fun k => ptv (x k) (h k))
theorem colL_len (m : Nat) (x y h : Nat → Int) : (colL m x y h).length = 2 * m := by simp [colL]; omega
theorem colL_get (m : Nat) (x y h : Nat → Int) (j : Nat) (hj : j < 2 * m) : (colL m x y h).getD j .any = ptv (cpx m x j) (cpy m y h j) := by
  unfold colL cpx cpy
  rw [List.getD_eq_getElem?_getD]
  by_cases g : j < m
  · rw [List.getElem?_append_left (by simp; omega), List.getElem?_map, List.getElem?_range g, if_pos g, if_pos g]; rfl
  · rw [List.getElem?_append_right (by simp; omega), List.getElem?_map, List.getElem?_reverse (by simp; omega), if_neg g, if_neg g, if_pos hj, if_pos hj]
    simp only [List.length_map, List.length_range]
    rw [List.getElem?_range (by omega), show m - 1 - (j - m) = 2 * m - 1 - j by omega]; rfl
theorem colA_q {m : Nat} {x y h : Nat → Int} (hm : 2 ≤ m) {j : Nat} (hj : j < 2 * m + 1) : qX (colL m x y h ++ [qp (colL m x y h) 0]) (j : Int) = cpx m x j ∧ qY (colL m x y h ++ [qp (colL m x y h) 0]) (j : Int) = cpy m y h j := by
  have hl := colL_len m x y h
  unfold qX qY
  rw [Int.toNat_natCast, List.getD_eq_getElem?_getD]
  by_cases g : j < 2 * m
  · rw [List.getElem?_append_left (by omega), ← List.getD_eq_getElem?_getD, colL_get m x y h j g]; exact ⟨rfl, rfl⟩
  · rw [List.getElem?_append_right (by omega), show j - (colL m x y h).length = 0 by omega]
    have e : (colL m x y h).getD 0 .any = ptv (cpx m x 0) (cpy m y h 0) := colL_get m x y h 0 (by omega)
    show qX (colL m x y h) 0 = _ ∧ qY (colL m x y h) 0 = _
    unfold qX qY
    rw [show Int.toNat 0 = 0 from rfl, e]
    unfold cpx cpy
    rw [if_pos (show 0 < m by omega), if_pos (show 0 < m by omega), if_neg (show ¬ j < m by omega), if_neg (show ¬ j < m by omega), if_neg g, if_neg g]
    exact ⟨rfl, rfl⟩
theorem allP_of {es : List PV} {la i : Int} : ∀ (n : Nat) (k : Int), (∀ j : Nat, j < n → mq es (k + j) i = want es la i (k + j)) → allP es la i k n = true
  | 0, k, _ => rfl
  | n + 1, k, hh => by
    simp only [allP, Bool.and_eq_true, beq_iff_eq]
    refine ⟨by simpa using hh 0 (by omega), allP_of n (k + 1) fun j hj => ?_⟩
    have := hh (j + 1) (by omega)
    rwa [show k + ((j + 1 : Nat) : Int) = k + 1 + (j : Int) by omega] at this
theorem allI_of {es : List PV} {la : Int} : ∀ (n : Nat) (i : Nat), (∀ j : Nat, j < n → eqq es ((i + j : Nat) : Int) (((i + j : Nat) : Int) + 1) = false ∧ ∀ k : Nat, k < i + j → mq es (k : Int) ((i + j : Nat) : Int) = want es la ((i + j : Nat) : Int) (k : Int)) → allI es la (i : Int) n = true
  | 0, i, _ => rfl
  | n + 1, i, hh => by
    have h0 := hh 0 (by omega)
    simp only [Nat.add_zero] at h0
    simp only [allI, Bool.and_eq_true]
    refine ⟨by rw [h0.1]; rfl, allP_of _ 0 fun j hj => ?_, ?_⟩
    · rw [Int.zero_add]; exact h0.2 j (by omega)
    · have := allI_of n (i + 1) fun j hj => by
        have := hh (j + 1) (by omega)
        rwa [show i + (j + 1) = i + 1 + j by omega] at this
      rwa [show ((i + 1 : Nat) : Int) = (i : Int) + 1 by omega] at this
theorem col_chk {m : Nat} {x y h : Nat → Int} (hC : Cols m x y h) (hm5 : m ≤ 5) : chk (colL m x y h ++ [qp (colL m x y h) 0]) = 0 := by
  have hm := hC.two
  have hl := colL_len m x y h
  have hlen : (colL m x y h ++ [qp (colL m x y h) 0]).length = 2 * m + 1 := by simp [hl]
  have hq := fun j hj => colA_q (x := x) (y := y) (h := h) hm (j := j) hj
  have kd := fun j (hj : j < 2 * m) => kd_of (x := x) (y := y) (h := h) hm hj
  have sg : ∀ j : Nat, j < 2 * m → Kd m x y h j (qX (colL m x y h ++ [qp (colL m x y h) 0]) (j : Int)) (qY (colL m x y h ++ [qp (colL m x y h) 0]) (j : Int)) (qX (colL m x y h ++ [qp (colL m x y h) 0]) ((j : Int) + 1)) (qY (colL m x y h ++ [qp (colL m x y h) 0]) ((j : Int) + 1)) := fun j hj => by
    have := kd j hj
    rw [show (j : Int) + 1 = ((j + 1 : Nat) : Int) by omega, (hq j (by omega)).1, (hq j (by omega)).2, (hq (j + 1) (by omega)).1, (hq (j + 1) (by omega)).2]
    exact this
  have hcls : cls (colL m x y h ++ [qp (colL m x y h) 0]) = true := by
    unfold cls
    rw [hlen, decide_eq_true (by omega), show ((2 * m + 1 : Nat) : Int) - 1 = ((2 * m : Nat) : Int) by omega, (hq (2 * m) (by omega)).1, (hq (2 * m) (by omega)).2]
    have e := hq 0 (by omega)
    rw [show ((0 : Nat) : Int) = 0 from rfl] at e
    rw [e.1, e.2]
    unfold cpx cpy
    simp [show 0 < m by omega, show ¬ 2 * m < m by omega]
  unfold chk
  have hfin : fin (colL m x y h ++ [qp (colL m x y h) 0]) = true := by
    refine fin_bds fun i h0 h1 => ?_
    rw [hlen] at h1
    have e := hq i.toNat (by omega)
    rw [show (i.toNat : Int) = i by omega] at e
    rw [e.1, e.2]
    unfold cpx cpy
    have b0 := hC.bx 0 (by omega); have b1 := hC.by_ 0 (by omega)
    by_cases g : i.toNat < m
    · rw [if_pos g, if_pos g]; have := hC.bx i.toNat g; have := hC.by_ i.toNat g; omega
    · rw [if_neg g, if_neg g]
      by_cases g2 : i.toNat < 2 * m
      · rw [if_pos g2, if_pos g2]; have := hC.bx (2 * m - 1 - i.toNat) (by omega); have := hC.bh (2 * m - 1 - i.toNat) (by omega); omega
      · rw [if_neg g2, if_neg g2]; omega
  have hall : allI (colL m x y h ++ [qp (colL m x y h) 0]) (((2 * m + 1 : Nat) : Int) - 2) 0 (2 * m) = true := by
    refine allI_of (2 * m) 0 fun j hj => ⟨?_, fun k hk => ?_⟩
    · have := kd_ne hC (sg (0 + j) (by omega))
      rw [Bool.eq_false_iff]; intro t; rw [eqq_iff] at t; exact this t
    · have := kd_pair hC (k := k) (i := 0 + j) hk (by omega) (sg k (by omega)) (sg (0 + j) (by omega))
      unfold mq want
      rw [this, hcls]
      by_cases g1 : k + 1 = 0 + j
      · rw [if_pos g1, show ((k : Int) + 1 == ((0 + j : Nat) : Int)) = true by rw [beq_iff_eq]; omega]; rfl
      · rw [if_neg g1, show ((k : Int) + 1 == ((0 + j : Nat) : Int)) = false by rw [Bool.eq_false_iff]; intro t; rw [beq_iff_eq] at t; omega]
        by_cases g2 : k = 0 ∧ 0 + j = 2 * m - 1
        · rw [if_pos g2, show ((k : Int) == 0) = true by rw [beq_iff_eq]; omega, show (((0 + j : Nat) : Int) == ((2 * m + 1 : Nat) : Int) - 2) = true by rw [beq_iff_eq]; omega]; rfl
        · rw [if_neg g2]
          have : (true && ((k : Int) == 0) && (((0 + j : Nat) : Int) == ((2 * m + 1 : Nat) : Int) - 2)) = false := by
            rw [Bool.eq_false_iff]; intro t
            simp only [Bool.true_and, Bool.and_eq_true, beq_iff_eq] at t
            apply g2; omega
          rw [this]; rfl
  rw [hlen, hfin, show 2 * m + 1 - 1 = 2 * m by omega, hall, decide_eq_false (by omega), decide_eq_false (by omega)]; rfl
theorem made_cols (L : List PV) : Cols (2 + (dr L 0 4).toNat) (mxF (dr L)) (myF (dr L)) (mhF (dr L)) := by
  have h4 := dr_range L 0 (n := 4) (by omega)
  have step : ∀ k, k ≤ 9 → mxF (dr L) k < mxF (dr L) (k + 1) := fun k hk => by
    have h1 := mxF_range L k (by omega)
    have h2 := dr_range L (5 + 3 * k) (n := 4) (by omega)
    simp only [mxF]
    rw [W_id (n := mxF (dr L) k + 1) (by omega) (by omega), W_id (by omega) (by omega)]; omega
  have inc : ∀ v u, u < v → v ≤ 9 → mxF (dr L) u < mxF (dr L) v := fun v => by
    induction v with
    | zero => intro u h; omega
    | succ v ih =>
      intro u hu hv
      rcases Nat.lt_or_ge u v with g | g
      · have := ih u g (by omega); have := step v (by omega); omega
      · obtain rfl : u = v := by omega
        exact step u (by omega)
  refine ⟨by omega, fun u v hu hv => inc v u hu (by omega), fun u hu => ?_, fun u hu => ?_, fun u hu => ?_, fun u hu => ?_⟩
  · have := dr_range L (4 + 3 * u) (n := 7) (by omega); rw [mhF_eq]; omega
  · have := mxF_range L u (by omega); omega
  · have := dr_range L (3 + 3 * u) (n := 9) (by omega); rw [myF_eq]; omega
  · have := dr_range L (3 + 3 * u) (n := 9) (by omega); have := dr_range L (4 + 3 * u) (n := 7) (by omega); rw [mhF_eq, myF_eq]; omega
end Go.Hg
/- Geometry: RingChecks answers true: the end. -/
namespace Go.Hg
open Go.Hx Go.Proofs
def mm (L : List PV) : Nat := 2 + (dr L 0 4).toNat
theorem mcols (L : List PV) : Cols (mm L) (mxF (dr L)) (myF (dr L)) (mhF (dr L)) := made_cols L
abbrev colM (L : List PV) : List PV := colL (mm L) (mxF (dr L)) (myF (dr L)) (mhF (dr L))
theorem madeL_get (L : List PV) (j : Nat) (hj : j < 2 * mm L) : (madeL L).getD j .any = tp (dr L 1 4) (cpx (mm L) (mxF (dr L)) j) (cpy (mm L) (myF (dr L)) (mhF (dr L)) j) := by
  show (mdF (dr L) (mm L)).getD j .any = _
  unfold mdF cpx cpy
  rw [List.getD_eq_getElem?_getD]
  by_cases g : j < mm L
  · rw [List.getElem?_append_left (by simp; exact g), List.getElem?_map, List.getElem?_range g, if_pos g, if_pos g]; rfl
  · rw [List.getElem?_append_right (by simp; omega), List.getElem?_map, List.getElem?_reverse (by simp; omega), if_neg g, if_neg g, if_pos hj, if_pos hj]
    simp only [List.length_map, List.length_range]
    rw [List.getElem?_range (by omega), show mm L - 1 - (j - mm L) = 2 * mm L - 1 - j by omega]; rfl
theorem madeL_len2 (L : List PV) : (madeL L).length = 2 * mm L := by show (mdF (dr L) (mm L)).length = _; unfold mdF; simp; omega
theorem mm_le (L : List PV) : 2 ≤ mm L ∧ mm L ≤ 5 := by unfold mm; have := dr_range L 0 (n := 4) (by omega); omega
theorem cp_bd {m : Nat} {x y h : Nat → Int} (hC : Cols m x y h) {j : Nat} (hj : j < 2 * m) : (-60 ≤ cpx m x j ∧ cpx m x j ≤ 60) ∧ (-60 ≤ cpy m y h j ∧ cpy m y h j ≤ 60) := by
  unfold cpx cpy
  by_cases g : j < m
  · rw [if_pos g, if_pos g]; exact ⟨hC.bx j g, hC.by_ j g⟩
  · rw [if_neg g, if_neg g, if_pos hj, if_pos hj]; exact ⟨hC.bx _ (by omega), hC.bh _ (by omega)⟩
theorem made_img (L : List PV) : Img (colM L) (madeL L) (fun x y => qtx (dr L 1 4) x y) (fun x y => qty (dr L 1 4) x y) := by
  have hC := mcols L
  have ht := dr_range L 1 (n := 4) (by omega)
  have hl : (colM L).length = 2 * mm L := colL_len (mm L) (mxF (dr L)) (myF (dr L)) (mhF (dr L))
  have key : ∀ i, 0 ≤ i → i < ((colM L).length : Int) → (qX (madeL L) i = qtx (dr L 1 4) (qX (colM L) i) (qY (colM L) i)) ∧ (qY (madeL L) i = qty (dr L 1 4) (qX (colM L) i) (qY (colM L) i)) := fun i h0 h1 => by
    have hi : i.toNat < 2 * mm L := by omega
    have b := cp_bd hC hi
    have e := trx_qt (x := cpx (mm L) (mxF (dr L)) i.toNat) (y := cpy (mm L) (myF (dr L)) (mhF (dr L)) i.toNat) (t := dr L 1 4) (by omega) (by omega) ht
    unfold qX qY
    rw [madeL_get L i.toNat hi, colL_get _ _ _ _ i.toNat hi]
    exact e
  exact ⟨by rw [madeL_len2, hl], fun i h0 h1 => (key i h0 h1).1, fun i h0 h1 => (key i h0 h1).2⟩
/-- A made ring is right. -/
theorem made_ok (L : List PV) : rchk (madeL L) = 0 := by
  have hC := mcols L
  have hm := mm_le L
  have hl : (colM L).length = 2 * mm L := colL_len (mm L) (mxF (dr L)) (myF (dr L)) (mhF (dr L))
  have hl2 := madeL_len2 L
  have hI := app_q (made_img L) (by omega)
  have hlA : (colM L ++ [qp (colM L) 0]).length = 2 * mm L + 1 := by simp [hl]
  have bA : ∀ i, 0 ≤ i → i < ((colM L ++ [qp (colM L) 0]).length : Int) → (-60 ≤ qX (colM L ++ [qp (colM L) 0]) i ∧ qX (colM L ++ [qp (colM L) 0]) i ≤ 60) ∧ (-60 ≤ qY (colM L ++ [qp (colM L) 0]) i ∧ qY (colM L ++ [qp (colM L) 0]) i ≤ 60) := fun i h0 h1 => by
    rw [hlA] at h1
    have e := colA_q (x := mxF (dr L)) (y := myF (dr L)) (h := mhF (dr L)) hm.1 (j := i.toNat) (by omega)
    rw [show (i.toNat : Int) = i by omega] at e
    rw [e.1, e.2]
    by_cases g : i.toNat < 2 * mm L
    · exact cp_bd hC g
    · have b := cp_bd hC (j := 0) (by omega)
      unfold cpx cpy at b ⊢
      rw [if_pos (show 0 < mm L by omega), if_pos (show 0 < mm L by omega)] at b
      rw [if_neg (show ¬ i.toNat < mm L by omega), if_neg (show ¬ i.toNat < mm L by omega), if_neg g, if_neg g]
      exact b
  have q1 : ∀ {a b : Int}, -60 ≤ a ∧ a ≤ 60 → -60 ≤ b ∧ b ≤ 60 → (-60 ≤ qtx (dr L 1 4) a b ∧ qtx (dr L 1 4) a b ≤ 60) ∧ (-60 ≤ qty (dr L 1 4) a b ∧ qty (dr L 1 4) a b ≤ 60) := fun {a b} ga gb => by unfold qtx qty; constructor <;> (repeat' split) <;> omega
  have bB : ∀ i, 0 ≤ i → i < ((colM L ++ [qp (colM L) 0]).length : Int) → (-60 ≤ qX (madeL L ++ [qp (madeL L) 0]) i ∧ qX (madeL L ++ [qp (madeL L) 0]) i ≤ 60) ∧ (-60 ≤ qY (madeL L ++ [qp (madeL L) 0]) i ∧ qY (madeL L ++ [qp (madeL L) 0]) i ≤ 60) := fun i h0 h1 => by
    have b := bA i h0 h1
    rw [hI.x i h0 h1, hI.y i h0 h1]
    exact q1 b.1 b.2
  have e := img_chk (qt_keeps (dr L 1 4)) hI (fun i g0 g1 => by have := bA i g0 g1; unfold bd; omega) (fun i g0 g1 => by have := bB i g0 g1; unfold bd; omega)
    (fin_bds fun i g0 g1 => by have := bA i g0 g1; omega) (fin_bds fun i g0 g1 => by have := bB i g0 (by rw [← hI.len]; exact g1); omega)
  unfold rchk
  rw [e, col_chk hC hm.2, decide_eq_false (by omega), decide_eq_false (by omega)]; rfl
theorem frz9_eq {es : List PV} {n : Nat} (h : es.length = n) (k : List PV → Option PV) : frz9 es n k = k es := by
  unfold frz9; rw [h, List.drop_zero, ← h, List.take_length]; simp
theorem tL_eq {es : List PV} (h : es.length ≤ 1000000) (k : Option PV) : tL es k = k := by
  unfold tL; rw [show big es = true by simpa using h]; simp
theorem tS_eq {es : List PV} {n : Nat} (hn : es.length = n) (h : es.length ≤ 1000000) (k : Option PV) : tS es n k = k := by
  unfold tS; rw [frz9_eq hn, frz9_eq hn, frz9_eq hn, frz9_eq hn, show big es = true by simpa using h]; simp
theorem law9 (f g : Bool) (L R : List PV) {wh : Int} (tx ty : Int) (hw : 0 ≤ wh ∧ wh < 256) : Enters Try.prog 9 ∧ PCall Try.prog 9 [.lst f 3 L, .val (.int .u8 wh), ptv tx ty, .lst g 23 R] (bv true) := by
  refine runP_sound ok61 (n := 100) ?_
  have hl := madeL_len L
  have h2 := cut12_len R
  rw [q9]
  unfold all9 end9
  rw [Nat.zero_add, Nat.zero_add, Nat.zero_add]
  have hz : 0 ≤ Int.tmod (W wh) ((madeL L).length : Int) ∧ Int.tmod (W wh) ((madeL L).length : Int) < ((madeL L).length : Int) := by
    rw [W_id (by omega) (by omega)]; exact ⟨Int.tmod_nonneg _ hw.1, Int.tmod_lt_of_pos _ (by omega)⟩
  have hp : ∀ odd : List PV, pC9 (lC9 g R true false (madeL L) (madeL L).length (madeL L).length 0 0 (g && false) (cut12 R) ((cut12 R).length : Int) 0 tx ty false odd true []) = true := fun odd => by simp [pC9]; omega
  rw [decide_eq_true (show (madeL L).length * 16 ≤ 140737488355328 by omega), show (!decide (((madeL L).length : Int) = 0)) = true by rw [decide_eq_false (by omega)]; rfl,
    show (decide (0 ≤ Int.tmod (W wh) ((madeL L).length : Int)) && decide (Int.tmod (W wh) ((madeL L).length : Int) < ((madeL L).length : Int))) = true by rw [Bool.and_eq_true, decide_eq_true_eq, decide_eq_true_eq]; exact hz,
    show ((madeL L).length == (madeL L).length) = true by simp, mn12_ok, hp, show (((cut12 R).length : Int) - 0).toNat = (cut12 R).length by omega,
    decide_eq_true (show (madeL L).length = (madeL L).length from rfl), decide_eq_true (show ((madeL L).length + (madeL L).length) * 16 ≤ 140737488355328 by omega)]
  simp only [cond_true, Bool.and_true]
  rw [tL_eq (by omega), tS_eq (by rw [List.length_set]) (by rw [List.length_set]; omega), tL_eq (by omega), tS_eq (smL_len _ _ _) (by rw [smL_len]; omega), tS_eq (by rw [List.length_append]) (by rw [List.length_append]; omega), made_ok]
  rfl
end Go.Hg
/- Geometry: RingMoves answers true: the end. -/
namespace Go.Hg
open Go.Hx Go.Proofs
section
variable {es : List PV} (h : ∀ e ∈ es, in60 e) {t u v : Int} (ht : 0 ≤ t ∧ t < 4) (hu : -1000 ≤ u ∧ u ≤ 1000) (hv : -1000 ≤ v ∧ v ≤ 1000) {x y : Int} (hx : -60 ≤ x ∧ x ≤ 60) (hy : -60 ≤ y ∧ y ≤ 60)
include h ht hu hv hx hy
theorem onq_mv {i j : Int} (h0 : 0 ≤ i) (h1 : i < (es.length : Int)) (h2 : 0 ≤ j) (h3 : j < (es.length : Int)) : onq (mvL es t u v 0 es.length) i j (qtx t x y + u) (qty t x y + v) = onq es i j x y := by
  have hI := mv_img h ht hu hv
  have b1 := in60_q h h0 h1
  have b2 := in60_q h h2 h3
  have k1 := qt_sm (t := t) (x := qX es i) (y := qY es i) (by omega)
  have k2 := qt_sm (t := t) (x := qX es j) (y := qY es j) (by omega)
  have k3 := qt_sm (t := t) (x := x) (y := y) (by omega)
  unfold onq
  rw [hI.x i h0 h1, hI.y i h0 h1, hI.x j h2 h3, hI.y j h2 h3]
  exact (mv_keeps t u v).on (by unfold bd; omega) (by unfold bd; omega) (by unfold bd; omega) (by unfold bd; omega) (by unfold bd; omega) (by unfold bd; omega)
theorem onS_mv : ∀ (n : Nat) (i : Int), 0 ≤ i → i + n ≤ (es.length : Int) → onS (mvL es t u v 0 es.length) (qtx t x y + u) (qty t x y + v) i n = onS es x y i n
  | 0, i, _, _ => rfl
  | n + 1, i, h0, h1 => by
    have hl := (mv_img h ht hu hv).len
    have hn : nx (mvL es t u v 0 es.length) i = nx es i := by unfold nx; rw [hl]
    have hr := nx_range (es := es) h0 (by omega)
    simp only [onS]
    rw [onS_mv n (i + 1) (by omega) (by omega), hn, onq_mv h ht hu hv hx hy h0 (by omega) hr.1 hr.2]
theorem rs_mv (h1 : 0 < es.length) (hon : onS es x y 0 es.length = false) : rs (mvL es t u v 0 es.length) (qtx t x y + u) (qty t x y + v) 0 es.length = rs es x y 0 es.length := by
  have hI := mv_img h ht hu hv
  obtain ⟨g, hg⟩ := rot_t t (e := x) (f := y) (by omega)
  obtain ⟨n, hn⟩ : ∃ n, es.length = n + 1 := ⟨es.length - 1, by omega⟩
  have hs : ∀ i, 0 ≤ i → i < (es.length : Int) → onq es i (nx es i) x y = false → ryq (mvL es t u v 0 es.length) i (nx (mvL es t u v 0 es.length) i) (qtx t x y + u) (qty t x y + v) = ryq es i (nx es i) x y + g (qX es i) (qY es i) - g (qX es (nx es i)) (qY es (nx es i)) := fun i h0 h2 k => by
    have hnx : nx (mvL es t u v 0 es.length) i = nx es i := by unfold nx; rw [hI.len]
    have hr := nx_range (es := es) h0 h2
    have b1 := in60_q h h0 h2
    have b2 := in60_q h hr.1 hr.2
    have k1 := qt_sm (t := t) (x := qX es i) (y := qY es i) (by omega)
    have k2 := qt_sm (t := t) (x := qX es (nx es i)) (y := qY es (nx es i)) (by omega)
    have k3 := qt_sm (t := t) (x := x) (y := y) (by omega)
    rw [hnx]
    unfold ryq
    rw [hI.x i h0 h2, hI.y i h0 h2, hI.x _ hr.1 hr.2, hI.y _ hr.1 hr.2]
    have q1 : ∀ {a b : Int}, -60 ≤ a ∧ a ≤ 60 → -60 ≤ b ∧ b ≤ 60 → (-60 ≤ qtx t a b ∧ qtx t a b ≤ 60) ∧ (-60 ≤ qty t a b ∧ qty t a b ≤ 60) := fun {a b} ga gb => by unfold qtx qty; constructor <;> (repeat' split) <;> omega
    have m1 := q1 b1.1 b1.2
    have m2 := q1 b2.1 b2.2
    have m3 := q1 hx hy
    rw [ray_shift _ _ _ _ _ _ u v (by omega) (by omega) (by omega) (by omega) (by omega) (by omega)]
    exact hg _ _ _ _ (by omega) (by omega) k
  have := rs_rot (A := es) (B := mvL es t u v 0 es.length) (fun j => g (qX es j) (qY es j)) hs n 0 (by omega) (by omega) (by rw [← hn]; exact hon)
  rw [← hn] at this
  omega
theorem ins_mv (h1 : 0 < es.length) (h2 : es.length ≤ 1000) : ins (mvL es t u v 0 es.length) (qtx t x y + u) (qty t x y + v) = ins es x y := by
  have hl := (mv_img h ht hu hv).len
  unfold ins
  rw [rchk_mv h ht hu hv, hl, onS_mv h ht hu hv hx hy es.length 0 (by omega) (by omega), smS_rs _ _ _ _ _ _ (by omega), smS_rs _ _ _ _ _ _ (by omega)]
  cases ho : onS es x y 0 es.length with
  | true => rfl
  | false => rw [rs_mv h ht hu hv hx hy h1 ho]
end
theorem fr_eq {es : List PV} {n : Nat} (h : es.length = n) (k : List PV → Option PV) : fr es n k = k es := by
  unfold fr; rw [h, List.drop_zero, ← h, List.take_length]; simp
theorem mv6_true {es : List PV} (h : ∀ e ∈ es, in60 e) (h1 : 4 ≤ es.length) (h2 : es.length ≤ 10) (mv : Bool) (wh cx cy : Int) {tn bx by_ px py : Int} (ht : 0 ≤ tn ∧ tn < 256)
    (hu : -1000 ≤ bx ∧ bx ≤ 1000) (hv : -1000 ≤ by_ ∧ by_ ≤ 1000) (hx : -60 ≤ px ∧ px ≤ 60) (hy : -60 ≤ py ∧ py ≤ 60) : mv6 es es.length mv wh cx cy tn bx by_ px py = some (bv true) := by
  have ht4 : 0 ≤ Int.tmod (W tn) 4 ∧ Int.tmod (W tn) 4 < 4 := by
    rw [W_id (by omega) (by omega)]; exact ⟨Int.tmod_nonneg _ ht.1, Int.tmod_lt_of_pos _ (by omega)⟩
  unfold mv6 fin6
  generalize Int.tmod (W tn) 4 = t at *
  have hp : pM6 (lM6 ⟨true, es.length, es.length, es.length, es.length, (es.length : Int), mv, wh, cx, cy, tn, bx, by_, px, py, false, es⟩ 0 0 0 true []) = true := by
    simp [pM6]; omega
  obtain ⟨e1, e2⟩ := mvE_eq (x := px) (y := py) (t := t) hx hy ht4 hu hv
  rw [hp, show ((es.length : Int) - 0).toNat = es.length by omega, e1, e2]
  have hl := (mv_img h ht4 hu hv).len
  simp only [cond_true]
  rw [fr_eq (by omega), fr_eq rfl, rchk_mv h ht4 hu hv, fr_eq (by omega), fr_eq rfl, ins_mv h ht4 hu hv hx hy (by omega) (by omega)]
  rw [show big (mvL es t bx by_ 0 es.length) = true by simp [big]; omega, show big es = true by simp [big]; omega]
  simp
theorem law14 (f : Bool) (L : List PV) (mv : Bool) {wh tn : Int} (cx cy bx by_ px py : Int) (hw : 0 ≤ wh ∧ wh < 256) (ht : 0 ≤ tn ∧ tn < 256) : Enters Try.prog 14 ∧
    PCall Try.prog 14 [.lst f 3 L, .agg [bv mv, .val (.int .u8 wh), iv cx, iv cy, .val (.int .u8 tn)], ptv bx by_, ptv px py] (bv true) := by
  refine runP_sound ok51 (n := 100) ?_
  have hl := madeL_len L
  have tm : ∀ (k : Int) (n : Int), 0 < n → -n ≤ Int.tmod k n ∧ Int.tmod k n ≤ n := fun k n hn => ⟨by have := Int.lt_tmod_of_pos k hn; omega, by have := Int.tmod_lt_of_pos k hn; omega⟩
  have t1 := tm bx 1000 (by omega); have t2 := tm by_ 1000 (by omega); have t3 := tm px 30 (by omega); have t4 := tm py 30 (by omega); have t5 := tm cx 20 (by omega); have t6 := tm cy 20 (by omega)
  rw [q14]
  unfold all6
  rw [Nat.zero_add, decide_eq_true (show (madeL L).length * 16 ≤ 140737488355328 by omega)]
  cases mv with
  | false => exact mv6_true (madeL_in L) hl.1 hl.2 false wh cx cy ht t1 t2 (by omega) (by omega)
  | true =>
    have hz : 0 ≤ Int.tmod (W wh) ((madeL L).length : Int) ∧ Int.tmod (W wh) ((madeL L).length : Int) < ((madeL L).length : Int) := by
      rw [W_id (by omega) (by omega)]; exact ⟨Int.tmod_nonneg _ hw.1, Int.tmod_lt_of_pos _ (by omega)⟩
    rw [show (!decide (((madeL L).length : Int) = 0)) = true by rw [decide_eq_false (by omega)]; rfl, show (decide (0 ≤ Int.tmod (W wh) ((madeL L).length : Int)) && decide (Int.tmod (W wh) ((madeL L).length : Int) < ((madeL L).length : Int))) = true by rw [Bool.and_eq_true, decide_eq_true_eq, decide_eq_true_eq]; exact hz,
      show ((madeL L).length == (madeL L).length) = true by simp]
    simp only [cond_true, Bool.and_true]
    have hs : ∀ e ∈ (madeL L).set (0 + (Int.tmod (W wh) ((madeL L).length : Int)).toNat) (ptv (Int.tmod cx 20) (Int.tmod cy 20)), in60 e := by
      intro e he
      rcases List.mem_or_eq_of_mem_set he with g | rfl
      · exact madeL_in L e g
      · exact ⟨_, _, rfl, by omega, by omega⟩
    have := mv6_true hs (by rw [List.length_set]; exact hl.1) (by rw [List.length_set]; exact hl.2) true wh cx cy (tn := tn) ht t1 t2 (px := Int.tmod px 30) (py := Int.tmod py 30) (by omega) (by omega)
    rw [List.length_set] at this
    exact this
end Go.Hg
/- Geometry: plain laws: the sum of the rays of a ring of columns. -/
namespace Go.Hg
open Go.Hx Go.Proofs
def sumN (f : Nat → Int) : Nat → Int
  | 0 => 0
  | n + 1 => f 0 + sumN (fun j => f (j + 1)) n
theorem sumN_congr {f g : Nat → Int} : ∀ {n : Nat}, (∀ j, j < n → f j = g j) → sumN f n = sumN g n
  | 0, _ => rfl
  | n + 1, h => by
    simp only [sumN]
    rw [h 0 (by omega), sumN_congr (f := fun j => f (j + 1)) (g := fun j => g (j + 1)) fun j hj => h (j + 1) (by omega)]
theorem rs_sum (es : List PV) (x y : Int) : ∀ (n i : Nat), rs es x y (i : Int) n = sumN (fun j => ryq es ((i + j : Nat) : Int) (nx es ((i + j : Nat) : Int)) x y) n
  | 0, i => rfl
  | n + 1, i => by
    simp only [rs, sumN, Nat.add_zero]
    have := rs_sum es x y n (i + 1)
    rw [show ((i + 1 : Nat) : Int) = (i : Int) + 1 by omega] at this
    rw [this]
    congr 1
    refine sumN_congr fun j _ => ?_
    rw [show i + 1 + j = i + (j + 1) by omega]
/-- A segment seen from a point, upwards. -/
def vr (a b c d e f : Int) : Int := if a ≤ e ∧ e < c ∧ (a - e) * (d - f) - (b - f) * (c - e) < 0 then 1 else if c ≤ e ∧ e < a ∧ 0 < (a - e) * (d - f) - (b - f) * (c - e) then -1 else 0
theorem vr_col {x0 y0 h0 x1 y1 h1 e f : Int} (g1 : x0 < x1) (g2 : y0 < h0) (g3 : y1 < h1) :
    (vr x0 y0 x1 y1 e f + vr x1 h1 x0 h0 e f = 0 ∨ vr x0 y0 x1 y1 e f + vr x1 h1 x0 h0 e f = -1) ∧ (vr x0 y0 x1 y1 e f + vr x1 h1 x0 h0 e f ≠ 0 → x0 ≤ e ∧ e < x1) := by
  unfold vr
  by_cases hc : x0 ≤ e ∧ e < x1
  · obtain ⟨c1, c2⟩ := hc
    have m1 := Int.mul_pos (show 0 < x1 - e by omega) (show 0 < h0 - y0 by omega)
    have m2 := Int.mul_nonneg (show 0 ≤ e - x0 by omega) (show 0 ≤ h1 - y1 by omega)
    have id1 : ((x0 - e) * (y1 - f) - (y0 - f) * (x1 - e)) + ((x1 - e) * (h0 - f) - (h1 - f) * (x0 - e)) = (x1 - e) * (h0 - y0) + (e - x0) * (h1 - y1) := by grind
    generalize (x0 - e) * (y1 - f) - (y0 - f) * (x1 - e) = A at *
    generalize (x1 - e) * (h0 - f) - (h1 - f) * (x0 - e) = B at *
    refine ⟨?_, fun _ => ⟨c1, c2⟩⟩
    simp only [c1, c2, true_and, show ¬ x1 ≤ e by omega, show ¬ e < x0 by omega, false_and, if_false]
    (repeat' split) <;> omega
  · have k1 : ¬ (x0 ≤ e ∧ e < x1 ∧ (x0 - e) * (y1 - f) - (y0 - f) * (x1 - e) < 0) := fun t => hc ⟨t.1, t.2.1⟩
    have k2 : ¬ (x1 ≤ e ∧ e < x0 ∧ 0 < (x0 - e) * (y1 - f) - (y0 - f) * (x1 - e)) := fun t => by omega
    have k3 : ¬ (x1 ≤ e ∧ e < x0 ∧ (x1 - e) * (h0 - f) - (h1 - f) * (x0 - e) < 0) := fun t => by omega
    have k4 : ¬ (x0 ≤ e ∧ e < x1 ∧ 0 < (x1 - e) * (h0 - f) - (h1 - f) * (x0 - e)) := fun t => hc ⟨t.1, t.2.1⟩
    rw [if_neg k1, if_neg k2, if_neg k3, if_neg k4]
    exact ⟨.inl rfl, fun t => absurd rfl t⟩
theorem vr_vert {a b d e f : Int} : vr a b a d e f = 0 := by
  unfold vr
  rw [if_neg (fun t => by omega), if_neg (fun t => by omega)]
theorem kd_at {m : Nat} {x y h : Nat → Int} (_ : 2 ≤ m) : (∀ u, u + 1 < m → Kd m x y h u (x u) (y u) (x (u + 1)) (y (u + 1))) ∧ Kd m x y h (m - 1) (x (m - 1)) (y (m - 1)) (x (m - 1)) (h (m - 1)) ∧
    (∀ u, u + 1 < m → Kd m x y h (2 * m - 2 - u) (x (u + 1)) (h (u + 1)) (x u) (h u)) ∧ Kd m x y h (2 * m - 1) (x 0) (h 0) (x 0) (y 0) :=
  ⟨fun _ hu => .inl ⟨hu, rfl, rfl, rfl, rfl⟩, .inr (.inl ⟨rfl, rfl, rfl, rfl, rfl⟩), fun u hu => .inr (.inr (.inl ⟨u, hu, rfl, rfl, rfl, rfl, rfl⟩)), .inr (.inr (.inr ⟨rfl, rfl, rfl, rfl, rfl⟩))⟩
/-- Terms told by the kind of the segment. -/
theorem sum_cols {m : Nat} {x y h : Nat → Int} (hC : Cols m x y h) (hm5 : m ≤ 5) {e f : Int} {F : Nat → Int} (hF : ∀ j, j < 2 * m → ∀ a b c d, Kd m x y h j a b c d → F j = vr a b c d e f) : sumN F (2 * m) = 0 ∨ sumN F (2 * m) = -1 := by
  have hm := hC.two
  obtain ⟨k1, k2, k3, k4⟩ := kd_at (x := x) (y := y) (h := h) hm
  have t : ∀ u, u + 1 < m → (F u + F (2 * m - 2 - u) = 0 ∨ F u + F (2 * m - 2 - u) = -1) ∧ (F u + F (2 * m - 2 - u) ≠ 0 → x u ≤ e ∧ e < x (u + 1)) := fun u hu => by
    rw [hF u (by omega) _ _ _ _ (k1 u hu), hF (2 * m - 2 - u) (by omega) _ _ _ _ (k3 u hu)]
    exact vr_col (hC.inc u (u + 1) (by omega) hu) (hC.up u (by omega)) (hC.up (u + 1) hu)
  have z1 : F (m - 1) = 0 := by rw [hF _ (by omega) _ _ _ _ k2]; exact vr_vert
  have z2 : F (2 * m - 1) = 0 := by rw [hF _ (by omega) _ _ _ _ k4]; exact vr_vert
  have h4 : m = 2 ∨ m = 3 ∨ m = 4 ∨ m = 5 := by omega
  rcases h4 with rfl | rfl | rfl | rfl
  · have t0 := t 0 (by omega)
    simp only [sumN, Nat.reduceMul, Nat.reduceSub, Nat.reduceAdd, Nat.zero_add] at *
    omega
  · have t0 := t 0 (by omega); have t1 := t 1 (by omega)
    have i1 := hC.inc 0 1 (by omega) (by omega); have i2 := hC.inc 1 2 (by omega) (by omega)
    simp only [sumN, Nat.reduceMul, Nat.reduceSub, Nat.reduceAdd, Nat.zero_add] at *
    omega
  · have t0 := t 0 (by omega); have t1 := t 1 (by omega); have t2 := t 2 (by omega)
    have i1 := hC.inc 0 1 (by omega) (by omega); have i2 := hC.inc 1 2 (by omega) (by omega); have i3 := hC.inc 2 3 (by omega) (by omega)
    simp only [sumN, Nat.reduceMul, Nat.reduceSub, Nat.reduceAdd, Nat.zero_add] at *
    omega
  · have t0 := t 0 (by omega); have t1 := t 1 (by omega); have t2 := t 2 (by omega); have t3 := t 3 (by omega)
    have i1 := hC.inc 0 1 (by omega) (by omega); have i2 := hC.inc 1 2 (by omega) (by omega); have i3 := hC.inc 2 3 (by omega) (by omega); have i4 := hC.inc 3 4 (by omega) (by omega)
    simp only [sumN, Nat.reduceMul, Nat.reduceSub, Nat.reduceAdd, Nat.zero_add] at *
    omega
end Go.Hg
/- Geometry: plain laws: made rings: the rays' sum is 0 or -1 where the point is not on the ring; the area is positive. -/
namespace Go.Hg
open Go.Hx Go.Proofs
theorem Cols.kd_ring {m : Nat} {x y h : Nat → Int} (hC : Cols m x y h) {j : Nat} (hj : j < 2 * m) : Kd m x y h j (qX (colL m x y h) (j : Int)) (qY (colL m x y h) (j : Int)) (qX (colL m x y h) (nx (colL m x y h) (j : Int))) (qY (colL m x y h) (nx (colL m x y h) (j : Int))) := by
  have hm := hC.two
  have hl := colL_len m x y h
  have g : ∀ k, k < 2 * m → qX (colL m x y h) (k : Int) = cpx m x k ∧ qY (colL m x y h) (k : Int) = cpy m y h k := fun k hk => by
    unfold qX qY; rw [Int.toNat_natCast, colL_get m x y h k hk]; exact ⟨rfl, rfl⟩
  have k := kd_of (x := x) (y := y) (h := h) hm hj
  rw [(g j hj).1, (g j hj).2]
  by_cases hn : j + 1 < 2 * m
  · rw [nx_next (by omega) (by omega), show (j : Int) + 1 = ((j + 1 : Nat) : Int) by omega, (g (j + 1) hn).1, (g (j + 1) hn).2]; exact k
  · rw [nx_last (by omega) (by omega)]
    have g0 := g 0 (by omega)
    rw [show ((0 : Nat) : Int) = 0 from rfl] at g0
    rw [g0.1, g0.2]
    have e1 : cpx m x 0 = cpx m x (j + 1) := by unfold cpx; rw [if_pos (by omega), if_neg (by omega), if_neg (by omega)]
    have e2 : cpy m y h 0 = cpy m y h (j + 1) := by unfold cpy; rw [if_pos (by omega), if_neg (by omega), if_neg (by omega)]
    rw [e1, e2]; exact k
theorem colL_in {m : Nat} {x y h : Nat → Int} (hC : Cols m x y h) : ∀ e ∈ colL m x y h, in60 e := by
  intro e he
  unfold colL at he
  simp only [List.mem_append, List.mem_map, List.mem_range, List.mem_reverse] at he
  rcases he with ⟨k, hk, rfl⟩ | ⟨k, hk, rfl⟩
  · exact ⟨_, _, rfl, hC.bx k hk, hC.by_ k hk⟩
  · exact ⟨_, _, rfl, hC.bx k hk, hC.bh k hk⟩
/-- The sum of the rays, by the kinds of segments. -/
theorem col_F {m : Nat} {x y h : Nat → Int} (hC : Cols m x y h) {e f : Int} (he : -60 ≤ e ∧ e ≤ 60) (hf : -60 ≤ f ∧ f ≤ 60) (hon : onS (colL m x y h) e f 0 (2 * m) = false) :
    ∃ F : Nat → Int, rs (colL m x y h) e f 0 (2 * m) = sumN F (2 * m) ∧ ∀ j, j < 2 * m → ∀ a b c d, Kd m x y h j a b c d → F j = vr a b c d e f := by
  have hm := hC.two
  have hl := colL_len m x y h
  have hin := colL_in hC
  have hr := rs_mv hin (t := 1) (u := 0) (v := 0) (by omega) (by omega) (by omega) he hf (by omega) (by rw [hl]; exact hon)
  rw [hl] at hr
  rw [← hr]
  have hI := mv_img hin (t := 1) (u := 0) (v := 0) (by omega) (by omega) (by omega)
  have hs := rs_sum (mvL (colL m x y h) 1 0 0 0 (2 * m)) (qtx 1 e f + 0) (qty 1 e f + 0) (2 * m) 0
  rw [show ((0 : Nat) : Int) = 0 from rfl] at hs
  rw [hs]
  refine ⟨_, rfl, fun j hj a b c d k => ?_⟩
  have hnx : nx (mvL (colL m x y h) 1 0 0 0 (2 * m)) (j : Int) = nx (colL m x y h) (j : Int) := by unfold nx; rw [mvL_len, hl]
  have hrg := nx_range (es := colL m x y h) (i := (j : Int)) (by omega) (by omega)
  rw [hl] at hI
  have kk := hC.kd_ring hj
  have b1 := in60_q hin (i := (j : Int)) (by omega) (by omega)
  have b2 := in60_q hin hrg.1 hrg.2
  rw [Nat.zero_add, hnx]
  unfold ryq
  rw [hI.x j (by omega) (by omega), hI.y j (by omega) (by omega), hI.x _ hrg.1 hrg.2, hI.y _ hrg.1 hrg.2]
  have e1 : qtx 1 e f = 0 - f := by simp [qtx]
  have e2 : qty 1 e f = e := by simp [qty]
  have e3 : ∀ p q : Int, qtx 1 p q = 0 - q := fun p q => by simp [qtx]
  have e4 : ∀ p q : Int, qty 1 p q = p := fun p q => by simp [qty]
  simp only [e3, e4]
  rw [ray_eqN (by omega) (by omega) (by omega)]
  have main : ∀ a' b' c' d' : Int, rayN (0 - b' + 0 - (0 - f + 0)) (a' + 0 - (e + 0)) (0 - d' + 0 - (0 - f + 0)) (c' + 0 - (e + 0)) = vr a' b' c' d' e f := fun a' b' c' d' => by
    unfold rayN vr
    have i1 : (0 - b' + 0 - (0 - f + 0)) * (c' + 0 - (e + 0)) - (a' + 0 - (e + 0)) * (0 - d' + 0 - (0 - f + 0)) = (a' - e) * (d' - f) - (b' - f) * (c' - e) := by grind
    rw [i1]
    generalize (a' - e) * (d' - f) - (b' - f) * (c' - e) = X
    by_cases p1 : a' ≤ e <;> by_cases p2 : c' ≤ e <;> by_cases p3 : X < 0 <;> by_cases p4 : 0 < X <;> simp [p1, p2, p3, p4] <;> omega
  rw [main]
  -- the segment is the one of its kind
  rcases kk with ⟨q1, q2, q3, q4, q5⟩ | ⟨q1, q2, q3, q4, q5⟩ | ⟨u, q0, q1, q2, q3, q4, q5⟩ | ⟨q1, q2, q3, q4, q5⟩ <;>
    rcases k with ⟨r1, r2, r3, r4, r5⟩ | ⟨r1, r2, r3, r4, r5⟩ | ⟨v, r0, r1, r2, r3, r4, r5⟩ | ⟨r1, r2, r3, r4, r5⟩
  all_goals first
    | (exfalso; omega)
    | (rw [q2, q3, q4, q5, r2, r3, r4, r5]; done)
    | (have huv : u = v := by omega
       subst huv
       rw [q2, q3, q4, q5, r2, r3, r4, r5])
theorem col_rs {m : Nat} {x y h : Nat → Int} (hC : Cols m x y h) (hm5 : m ≤ 5) {e f : Int} (he : -60 ≤ e ∧ e ≤ 60) (hf : -60 ≤ f ∧ f ≤ 60) (hon : onS (colL m x y h) e f 0 (2 * m) = false) :
    rs (colL m x y h) e f 0 (2 * m) = 0 ∨ rs (colL m x y h) e f 0 (2 * m) = -1 := by
  obtain ⟨F, h1, h2⟩ := col_F hC he hf hon
  rw [h1]; exact sum_cols hC hm5 h2
end Go.Hg
/- Geometry: plain laws: made rings: the rays' sum; the area. -/
namespace Go.Hg
open Go.Hx Go.Proofs
structure Alike (A B : List PV) : Prop where
  len : A.length = B.length
  x : ∀ i, 0 ≤ i → i < (A.length : Int) → qX A i = qX B i
  y : ∀ i, 0 ≤ i → i < (A.length : Int) → qY A i = qY B i
section
variable {A B : List PV} (h : Alike A B)
include h
theorem alike_nx (i : Int) : nx A i = nx B i := by unfold nx; rw [h.len]
theorem alike_rs (x y : Int) : ∀ (n : Nat) (i : Int), 0 ≤ i → i + n ≤ (A.length : Int) → rs A x y i n = rs B x y i n
  | 0, i, _, _ => rfl
  | n + 1, i, h0, h1 => by
    have hr := nx_range (es := A) h0 (by omega)
    simp only [rs]
    rw [alike_rs x y n (i + 1) (by omega) (by omega)]
    congr 1
    unfold ryq
    rw [h.x i h0 (by omega), h.y i h0 (by omega), h.x _ hr.1 hr.2, h.y _ hr.1 hr.2, alike_nx h]
theorem alike_onS (x y : Int) : ∀ (n : Nat) (i : Int), 0 ≤ i → i + n ≤ (A.length : Int) → onS A x y i n = onS B x y i n
  | 0, i, _, _ => rfl
  | n + 1, i, h0, h1 => by
    have hr := nx_range (es := A) h0 (by omega)
    simp only [onS]
    rw [alike_onS x y n (i + 1) (by omega) (by omega)]
    congr 1
    unfold onq
    rw [h.x i h0 (by omega), h.y i h0 (by omega), h.x _ hr.1 hr.2, h.y _ hr.1 hr.2, alike_nx h]
end
theorem made_alike (L : List PV) : Alike (madeL L) (mvL (colM L) (dr L 1 4) 0 0 0 (colM L).length) := by
  have ht := dr_range L 1 (n := 4) (by omega)
  have h1 := made_img L
  have h2 := mv_img (colL_in (mcols L)) (t := dr L 1 4) (u := 0) (v := 0) ht (by omega) (by omega)
  refine ⟨by rw [h1.len, h2.len], fun i h0 hi => ?_, fun i h0 hi => ?_⟩
  · rw [h1.len] at hi; rw [h1.x i h0 hi, h2.x i h0 hi]; exact (Int.add_zero _).symm
  · rw [h1.len] at hi; rw [h1.y i h0 hi, h2.y i h0 hi]; exact (Int.add_zero _).symm
/-- Turned back. -/
theorem qt_inv {t : Int} (ht : 0 ≤ t ∧ t < 4) {x y : Int} (hx : -60 ≤ x ∧ x ≤ 60) (hy : -60 ≤ y ∧ y ≤ 60) : ∃ a b : Int, (-60 ≤ a ∧ a ≤ 60) ∧ (-60 ≤ b ∧ b ≤ 60) ∧ qtx t a b = x ∧ qty t a b = y := by
  have h4 : t = 0 ∨ t = 1 ∨ t = 2 ∨ t = 3 := by omega
  rcases h4 with rfl | rfl | rfl | rfl
  · exact ⟨x, y, hx, hy, by simp [qtx], by simp [qty]⟩
  · exact ⟨y, 0 - x, hy, by omega, by first | (simp [qtx]; done) | (simp [qtx]; omega), by simp [qty]⟩
  · exact ⟨0 - x, 0 - y, by omega, by omega, by first | (simp [qtx]; done) | (simp [qtx]; omega), by first | (simp [qty]; done) | (simp [qty]; omega)⟩
  · exact ⟨0 - y, x, by omega, hx, by simp [qtx], by first | (simp [qty]; done) | (simp [qty]; omega)⟩
/-- A made ring's rays sum up to 0 or -1 where the point is not on it. -/
theorem made_rs (L : List PV) {x y : Int} (hx : -60 ≤ x ∧ x ≤ 60) (hy : -60 ≤ y ∧ y ≤ 60) (hon : onS (madeL L) x y 0 (madeL L).length = false) : rs (madeL L) x y 0 (madeL L).length = 0 ∨ rs (madeL L) x y 0 (madeL L).length = -1 := by
  have ht := dr_range L 1 (n := 4) (by omega)
  have hC := mcols L
  have hm := mm_le L
  have hl : (colM L).length = 2 * mm L := colL_len _ _ _ _
  have hl2 := madeL_len2 L
  obtain ⟨a, b, ha, hb, rfl, rfl⟩ := qt_inv ht hx hy
  have hA := made_alike L
  have hin := colL_in hC
  rw [alike_onS hA _ _ _ 0 (by omega) (by omega)] at hon
  rw [alike_rs hA _ _ _ 0 (by omega) (by omega)]
  have e1 := onS_mv hin (t := dr L 1 4) (u := 0) (v := 0) ht (by omega) (by omega) ha hb (2 * mm L) 0 (by omega) (by rw [hl]; omega)
  rw [Int.add_zero, Int.add_zero] at e1
  rw [hl2, e1] at hon
  have e2 := rs_mv hin (t := dr L 1 4) (u := 0) (v := 0) ht (by omega) (by omega) ha hb (by rw [hl]; omega) (by rw [hl]; exact hon)
  rw [Int.add_zero, Int.add_zero] at e2
  rw [hl2]
  rw [hl] at e2 ⊢
  rw [e2]
  exact col_rs hC hm.2 ha hb hon
/-! The area. -/
def crP (es : List PV) (i j : Int) : Int := qX es i * qY es j - qY es i * qX es j
theorem crW_eq {es : List PV} (h : ∀ e ∈ es, in60 e) {i j : Int} (h0 : 0 ≤ i) (h1 : i < (es.length : Int)) (h2 : 0 ≤ j) (h3 : j < (es.length : Int)) : crW es i j = crP es i j ∧ -7200 ≤ crP es i j ∧ crP es i j ≤ 7200 := by
  have b1 := in60_q h h0 h1
  have b2 := in60_q h h2 h3
  have m1 := mul_bd (A := 60) (B := 60) b1.1 b2.2
  have m2 := mul_bd (A := 60) (B := 60) b1.2 b2.1
  unfold crW crP
  rw [W_id (n := qX es i * qY es j) (by omega) (by omega), W_id (n := qY es i * qX es j) (by omega) (by omega), W_id (by omega) (by omega)]
  omega
theorem arS_sum {es : List PV} (h : ∀ e ∈ es, in60 e) : ∀ (n i : Nat) (acc : Int), i + n ≤ es.length → es.length ≤ 1000 → -10000000 ≤ acc - 7200 * n ∧ acc + 7200 * n ≤ 10000000 →
    arS es (i : Int) n acc = acc + sumN (fun j => crP es ((i + j : Nat) : Int) (nx es ((i + j : Nat) : Int))) n
  | 0, i, acc, _, _, _ => by simp [arS, sumN]
  | n + 1, i, acc, h0, h1, h2 => by
    have hr := nx_range (es := es) (i := (i : Int)) (by omega) (by omega)
    have c := crW_eq h (i := (i : Int)) (j := nx es (i : Int)) (by omega) (by omega) hr.1 hr.2
    simp only [arS, sumN, Nat.add_zero]
    rw [c.1, W_id (by omega) (by omega), show (i : Int) + 1 = ((i + 1 : Nat) : Int) by omega, arS_sum h n (i + 1) _ (by omega) h1 (by omega)]
    have e : sumN (fun j => crP es ((i + 1 + j : Nat) : Int) (nx es ((i + 1 + j : Nat) : Int))) n = sumN (fun j => crP es ((i + (j + 1) : Nat) : Int) (nx es ((i + (j + 1) : Nat) : Int))) n := sumN_congr fun j _ => by rw [show i + 1 + j = i + (j + 1) by omega]
    rw [e]; omega
theorem sum_area {m : Nat} {x y h : Nat → Int} (hC : Cols m x y h) (hm5 : m ≤ 5) {F : Nat → Int} (hF : ∀ j, j < 2 * m → ∀ a b c d, Kd m x y h j a b c d → F j = a * d - b * c) : 0 < sumN F (2 * m) := by
  have hm := hC.two
  obtain ⟨k1, k2, k3, k4⟩ := kd_at (x := x) (y := y) (h := h) hm
  have t : ∀ u, u + 1 < m → F u + F (2 * m - 2 - u) + (x (u + 1) * (h (u + 1) - y (u + 1))) - (x u * (h u - y u)) > 0 := fun u hu => by
    rw [hF u (by omega) _ _ _ _ (k1 u hu), hF (2 * m - 2 - u) (by omega) _ _ _ _ (k3 u hu)]
    have p := Int.mul_pos (show 0 < x (u + 1) - x u by have := hC.inc u (u + 1) (by omega) hu; omega) (show 0 < (h u - y u) + (h (u + 1) - y (u + 1)) by have := hC.up u (by omega); have := hC.up (u + 1) hu; omega)
    have e : (x (u + 1) - x u) * ((h u - y u) + (h (u + 1) - y (u + 1))) = x u * y (u + 1) - y u * x (u + 1) + (x (u + 1) * h u - h (u + 1) * x u) + x (u + 1) * (h (u + 1) - y (u + 1)) - x u * (h u - y u) := by grind
    omega
  have z1 : F (m - 1) = x (m - 1) * (h (m - 1) - y (m - 1)) := by rw [hF _ (by omega) _ _ _ _ k2]; grind
  have z2 : F (2 * m - 1) = -(x 0 * (h 0 - y 0)) := by rw [hF _ (by omega) _ _ _ _ k4]; grind
  generalize hG : (fun u => x u * (h u - y u)) = G at *
  have g : ∀ u, x u * (h u - y u) = G u := fun u => by rw [← hG]
  simp only [g] at t z1 z2
  have h4 : m = 2 ∨ m = 3 ∨ m = 4 ∨ m = 5 := by omega
  rcases h4 with rfl | rfl | rfl | rfl
  · have t0 := t 0 (by omega)
    simp only [sumN, Nat.reduceMul, Nat.reduceSub, Nat.reduceAdd, Nat.zero_add] at *
    omega
  · have t0 := t 0 (by omega); have t1 := t 1 (by omega)
    simp only [sumN, Nat.reduceMul, Nat.reduceSub, Nat.reduceAdd, Nat.zero_add] at *
    omega
  · have t0 := t 0 (by omega); have t1 := t 1 (by omega); have t2 := t 2 (by omega)
    simp only [sumN, Nat.reduceMul, Nat.reduceSub, Nat.reduceAdd, Nat.zero_add] at *
    omega
  · have t0 := t 0 (by omega); have t1 := t 1 (by omega); have t2 := t 2 (by omega); have t3 := t 3 (by omega)
    simp only [sumN, Nat.reduceMul, Nat.reduceSub, Nat.reduceAdd, Nat.zero_add] at *
    omega
end Go.Hg
/- Geometry: plain laws: the area of made rings; of moved, turned round and reversed lists. -/
namespace Go.Hg
open Go.Hx Go.Proofs
theorem ar2_sum {es : List PV} (h : ∀ e ∈ es, in60 e) (hl : es.length ≤ 1000) : ar2 es = sumN (fun j => crP es ((j : Nat) : Int) (nx es ((j : Nat) : Int))) es.length := by
  unfold ar2
  have := arS_sum h es.length 0 0 (by omega) hl (by omega)
  rw [show ((0 : Nat) : Int) = 0 from rfl] at this
  rw [this, Int.zero_add]
  refine sumN_congr fun j _ => ?_
  rw [Nat.zero_add]
theorem qt_cross (t a b c d : Int) (ht : 0 ≤ t ∧ t < 4) : qtx t a b * qty t c d - qty t a b * qtx t c d = a * d - b * c := by
  have h4 : t = 0 ∨ t = 1 ∨ t = 2 ∨ t = 3 := by omega
  rcases h4 with rfl | rfl | rfl | rfl <;> simp [qtx, qty] <;> grind
/-- The kind's numbers are one. -/
theorem kd_fun {m : Nat} {x y h : Nat → Int} (hm : 2 ≤ m) {j : Nat} {a b c d a' b' c' d' : Int} (k1 : Kd m x y h j a b c d) (k2 : Kd m x y h j a' b' c' d') : a = a' ∧ b = b' ∧ c = c' ∧ d = d' := by
  rcases k1 with ⟨q1, q2, q3, q4, q5⟩ | ⟨q1, q2, q3, q4, q5⟩ | ⟨u, q0, q1, q2, q3, q4, q5⟩ | ⟨q1, q2, q3, q4, q5⟩ <;>
    rcases k2 with ⟨r1, r2, r3, r4, r5⟩ | ⟨r1, r2, r3, r4, r5⟩ | ⟨v, r0, r1, r2, r3, r4, r5⟩ | ⟨r1, r2, r3, r4, r5⟩
  all_goals first
    | (exfalso; omega)
    | exact ⟨q2.trans r2.symm, q3.trans r3.symm, q4.trans r4.symm, q5.trans r5.symm⟩
    | (have huv : u = v := by omega
       subst huv
       exact ⟨q2.trans r2.symm, q3.trans r3.symm, q4.trans r4.symm, q5.trans r5.symm⟩)
theorem img_nx {A B : List PV} {X Y : Int → Int → Int} (hI : Img A B X Y) (i : Int) : nx B i = nx A i := by unfold nx; rw [hI.len]
/-- The area of a made ring is above 0. -/
theorem made_ar2 (L : List PV) : 0 < ar2 (madeL L) := by
  have ht := dr_range L 1 (n := 4) (by omega)
  have hC := mcols L
  have hm := mm_le L
  have hl2 := madeL_len2 L
  have hl : (colM L).length = 2 * mm L := colL_len _ _ _ _
  have hI := made_img L
  rw [ar2_sum (madeL_in L) (by omega), hl2]
  refine sum_area hC hm.2 fun j hj a b c d k => ?_
  have hr := nx_range (es := colM L) (i := (j : Int)) (by omega) (by omega)
  have e := kd_fun hm.1 (hC.kd_ring hj) k
  unfold crP
  rw [img_nx hI, hI.x j (by omega) (by omega), hI.y j (by omega) (by omega), hI.x _ hr.1 hr.2, hI.y _ hr.1 hr.2, qt_cross _ _ _ _ _ ht, e.1, e.2.1, e.2.2.1, e.2.2.2]
theorem sumN_add (f g : Nat → Int) : ∀ n, sumN (fun j => f j + g j) n = sumN f n + sumN g n
  | 0 => rfl
  | n + 1 => by simp only [sumN]; rw [sumN_add (fun j => f (j + 1)) (fun j => g (j + 1)) n]; omega
theorem sumN_last (f : Nat → Int) : ∀ n, sumN f (n + 1) = sumN f n + f n
  | 0 => by simp [sumN]
  | n + 1 => by
    rw [sumN, sumN_last (fun j => f (j + 1)) n]
    simp only [sumN]; omega
/-- A sum whose terms are differences of neighbours. -/
theorem sumN_tel (g : Nat → Int) : ∀ n, sumN (fun j => g (j + 1) - g j) n = g n - g 0
  | 0 => by simp [sumN]
  | n + 1 => by rw [sumN_last, sumN_tel g n]; omega
theorem sumN_neg (f : Nat → Int) : ∀ n, sumN (fun j => - f j) n = - sumN f n
  | 0 => rfl
  | n + 1 => by simp only [sumN]; rw [sumN_neg (fun j => f (j + 1)) n]; omega
theorem sumN_rev (f : Nat → Int) : ∀ n, sumN (fun j => f (n - 1 - j)) n = sumN f n
  | 0 => rfl
  | n + 1 => by
    rw [sumN_last f n, sumN, ← sumN_rev f n]
    have : sumN (fun j => f (n + 1 - 1 - (j + 1))) n = sumN (fun j => f (n - 1 - j)) n := sumN_congr fun j _ => by congr 1; omega
    rw [this]
    simp only [Nat.add_sub_cancel, Nat.sub_zero]; omega
/-- The cyclic sum over the pairs of neighbours. -/
theorem cyc_nx {es : List PV} {n j : Nat} (hl : es.length = n) (_ : j < n) : nx es (j : Int) = (((j + 1) % n : Nat) : Int) := by
  unfold nx; rw [hl, Int.tmod_eq_emod_of_nonneg (by omega)]; rfl
theorem sumN_rot (f : Nat → Int) (n : Nat) (hn : 0 < n) : ∀ k, sumN (fun j => f ((k + j) % n)) n = sumN f n
  | 0 => sumN_congr fun j hj => by rw [Nat.zero_add, Nat.mod_eq_of_lt hj]
  | k + 1 => by
    rw [← sumN_rot f n hn k]
    obtain ⟨m, rfl⟩ : ∃ m, n = m + 1 := ⟨n - 1, by omega⟩
    rw [sumN_last]
    simp only [sumN, Nat.add_zero]
    have e1 : f ((k + 1 + m) % (m + 1)) = f (k % (m + 1)) := by rw [show k + 1 + m = k + (m + 1) by omega, Nat.add_mod_right]
    have e2 : sumN (fun j => f ((k + 1 + j) % (m + 1))) m = sumN (fun j => f ((k + (j + 1)) % (m + 1))) m := sumN_congr fun j _ => by rw [show k + 1 + j = k + (j + 1) by omega]
    rw [e1, e2]; omega
end Go.Hg
/- Geometry: plain laws: right rings, whichever way round. -/
namespace Go.Hg
open Go.Hx Go.Proofs
theorem allP_to {es : List PV} {la i : Int} : ∀ (n : Nat) (k : Int), allP es la i k n = true → ∀ j : Nat, j < n → mq es (k + j) i = want es la i (k + j)
  | 0, _, _, _, hj => by omega
  | n + 1, k, hh, j, hj => by
    simp only [allP, Bool.and_eq_true, beq_iff_eq] at hh
    cases j with
    | zero => simpa using hh.1
    | succ j =>
      have := allP_to n (k + 1) hh.2 j (by omega)
      rwa [show k + 1 + (j : Int) = k + ((j + 1 : Nat) : Int) by omega] at this
theorem allI_to {es : List PV} {la : Int} : ∀ (n i : Nat), allI es la (i : Int) n = true → ∀ j : Nat, j < n → eqq es ((i + j : Nat) : Int) (((i + j : Nat) : Int) + 1) = false ∧ ∀ k : Nat, k < i + j → mq es (k : Int) ((i + j : Nat) : Int) = want es la ((i + j : Nat) : Int) (k : Int)
  | 0, _, _, _, hj => by omega
  | n + 1, i, hh, j, hj => by
    simp only [allI, Bool.and_eq_true] at hh
    cases j with
    | zero =>
      refine ⟨by simpa using hh.1, fun k hk => ?_⟩
      have := allP_to _ 0 hh.2.1 k (by omega)
      simpa using this
    | succ j =>
      have h2 := hh.2.2
      rw [show (i : Int) + 1 = ((i + 1 : Nat) : Int) by omega] at h2
      have := allI_to n (i + 1) h2 j (by omega)
      rwa [show i + 1 + j = i + (j + 1) by omega] at this
/-- How the segments i and j of a ring meet. -/
def sgm (es : List PV) (i j : Nat) : Int := mt (qX es i) (qY es i) (qX es (nx es i)) (qY es (nx es i)) (qX es j) (qY es j) (qX es (nx es j)) (qY es (nx es j))
/-- The segments i and j of a ring of n points follow each other. -/
def adj (n i j : Nat) : Prop := (i + 1) % n = j ∨ (j + 1) % n = i
instance (n i j : Nat) : Decidable (adj n i j) := by unfold adj; infer_instance
structure Good (es : List PV) : Prop where
  lo : 3 ≤ es.length
  hi : es.length < 40
  b : ∀ j : Nat, j < es.length → right (qX es j) (qY es j) = true
  ne : ∀ j : Nat, j < es.length → ¬ (qX es j = qX es (nx es j) ∧ qY es j = qY es (nx es j))
  pr : ∀ i j : Nat, i < es.length → j < es.length → i ≠ j → sgm es i j = if adj es.length i j then 1 else 0
theorem app_c {es : List PV} {j : Nat} (hj : j < es.length) : (qX (es ++ [qp es 0]) (j : Int) = qX es j ∧ qY (es ++ [qp es 0]) (j : Int) = qY es j) ∧ (qX (es ++ [qp es 0]) ((j : Int) + 1) = qX es (nx es j) ∧ qY (es ++ [qp es 0]) ((j : Int) + 1) = qY es (nx es j)) := by
  have low : ∀ k : Nat, k < es.length → qX (es ++ [qp es 0]) (k : Int) = qX es k ∧ qY (es ++ [qp es 0]) (k : Int) = qY es k := fun k hk => by
    unfold qX qY
    rw [Int.toNat_natCast, List.getD_eq_getElem?_getD, List.getElem?_append_left hk, ← List.getD_eq_getElem?_getD]
    exact ⟨rfl, rfl⟩
  refine ⟨low j hj, ?_⟩
  rw [cyc_nx rfl hj, show (j : Int) + 1 = ((j + 1 : Nat) : Int) by omega]
  by_cases g : j + 1 < es.length
  · rw [Nat.mod_eq_of_lt g]; exact low (j + 1) g
  · have e : j + 1 = es.length := by omega
    rw [e, Nat.mod_self]
    have e2 : (es ++ [qp es 0]).getD es.length .any = qp es 0 := by
      rw [List.getD_eq_getElem?_getD, List.getElem?_append_right (by omega), Nat.sub_self]; rfl
    show ((((es ++ [qp es 0]).getD ((es.length : Nat) : Int).toNat .any).cellAt 0).getI = _) ∧ ((((es ++ [qp es 0]).getD ((es.length : Nat) : Int).toNat .any).cellAt 1).getI = _)
    rw [Int.toNat_natCast, e2]; exact ⟨rfl, rfl⟩
theorem app_mq {es : List PV} {i j : Nat} (hi : i < es.length) (hj : j < es.length) : mq (es ++ [qp es 0]) (i : Int) (j : Int) = sgm es i j := by
  have a := app_c hi
  have b := app_c hj
  unfold mq sgm
  rw [a.1.1, a.1.2, a.2.1, a.2.2, b.1.1, b.1.2, b.2.1, b.2.2]
theorem app_cls {es : List PV} (h : 3 ≤ es.length) : cls (es ++ [qp es 0]) = true := by
  have a := app_c (es := es) (j := 0) (by omega)
  have b := app_c (es := es) (j := es.length - 1) (by omega)
  rw [cyc_nx rfl (by omega), show es.length - 1 + 1 = es.length by omega, Nat.mod_self] at b
  unfold cls
  rw [show ((es ++ [qp es 0]).length : Int) - 1 = ((es.length - 1 : Nat) : Int) + 1 by simp; omega, b.2.1, b.2.2]
  rw [show ((0 : Nat) : Int) = 0 from rfl] at a ⊢
  rw [a.1.1, a.1.2]
  simp; omega
theorem app_want {es : List PV} (h : 3 ≤ es.length) {k i : Nat} (hk : k < i) (hi : i < es.length) : want (es ++ [qp es 0]) (((es.length + 1 : Nat) : Int) - 2) (i : Int) (k : Int) = if adj es.length k i then 1 else 0 := by
  unfold want
  rw [app_cls h]
  have hiff : adj es.length k i ↔ (k + 1 = i ∨ (k = 0 ∧ i + 1 = es.length)) := by
    unfold adj
    rw [Nat.mod_eq_of_lt (show k + 1 < es.length by omega)]
    by_cases g : i + 1 < es.length
    · rw [Nat.mod_eq_of_lt g]; omega
    · rw [show i + 1 = es.length by omega, Nat.mod_self]; omega
  by_cases g1 : k + 1 = i
  · rw [if_pos (hiff.2 (.inl g1)), show ((k : Int) + 1 == (i : Int)) = true by rw [beq_iff_eq]; omega]; rfl
  · rw [show ((k : Int) + 1 == (i : Int)) = false by rw [Bool.eq_false_iff]; intro t; rw [beq_iff_eq] at t; omega]
    by_cases g2 : k = 0 ∧ i + 1 = es.length
    · rw [if_pos (hiff.2 (.inr g2)), show ((k : Int) == 0) = true by rw [beq_iff_eq]; omega, show ((i : Int) == ((es.length + 1 : Nat) : Int) - 2) = true by rw [beq_iff_eq]; omega]; rfl
    · rw [if_neg (fun t => by have := hiff.1 t; omega)]
      have : (true && ((k : Int) == 0) && ((i : Int) == ((es.length + 1 : Nat) : Int) - 2)) = false := by
        rw [Bool.eq_false_iff]; intro t
        simp only [Bool.true_and, Bool.and_eq_true, beq_iff_eq] at t
        apply g2; omega
      rw [this]; rfl
theorem right_bd {a b : Int} (h : right a b = true) : bd a b := by have := inB2_iff.1 h; unfold bd; omega
theorem sgm_comm {es : List PV} (hb : ∀ j : Nat, j < es.length → right (qX es j) (qY es j) = true) {i j : Nat} (hi : i < es.length) (hj : j < es.length) : sgm es i j = sgm es j i := by
  have n : ∀ k : Nat, k < es.length → bd (qX es (nx es k)) (qY es (nx es k)) := fun k hk => by
    rw [cyc_nx rfl hk]; exact right_bd (hb _ (Nat.mod_lt _ (by omega)))
  exact mt_swap3 (right_bd (hb j hj)) (n j hj) (right_bd (hb i hi)) (n i hi)
theorem adj_comm {n i j : Nat} : adj n i j ↔ adj n j i := by unfold adj; exact Or.comm
theorem good_of {es : List PV} (h : rchk es = 0) : Good es := by
  unfold rchk at h
  by_cases h1 : (es.length : Int) < 3
  · rw [decide_eq_true h1] at h; cases h
  rw [decide_eq_false h1, cond_false] at h
  by_cases h2 : (es.length : Int) ≥ 40
  · rw [decide_eq_true h2] at h; cases h
  rw [decide_eq_false h2, cond_false] at h
  have hlen : (es ++ [qp es 0]).length = es.length + 1 := by simp
  unfold chk at h
  rw [hlen] at h
  rw [decide_eq_false (show ¬ ((es.length + 1 : Nat) : Int) < 2 by omega), decide_eq_false (show ¬ ((es.length + 1 : Nat) : Int) > 40 by omega)] at h
  simp only [Bool.or_false, cond_false] at h
  cases hf : fin (es ++ [qp es 0]) with
  | false => rw [hf] at h; cases h
  | true =>
    rw [hf, cond_true, show es.length + 1 - 1 = es.length by omega] at h
    cases ha : allI (es ++ [qp es 0]) (((es.length + 1 : Nat) : Int) - 2) 0 es.length with
    | false => rw [ha] at h; cases h
    | true =>
      have hb : ∀ j : Nat, j < es.length → right (qX es j) (qY es j) = true := fun j hj => by
        have := allR_false.1 hf j (by omega)
        rw [Int.zero_add, (app_c hj).1.1, (app_c hj).1.2] at this
        exact this
      have hp : ∀ k i : Nat, k < i → i < es.length → sgm es k i = if adj es.length k i then 1 else 0 := fun k i hk hi => by
        have := (allI_to es.length 0 ha i hi).2 k (by omega)
        rw [Nat.zero_add, app_mq (by omega) hi, app_want (by omega) hk hi] at this
        exact this
      refine ⟨by omega, by omega, hb, fun j hj t => ?_, fun i j hi hj hij => ?_⟩
      · have := (allI_to es.length 0 ha j hj).1
        rw [Nat.zero_add, Bool.eq_false_iff] at this
        apply this
        rw [eqq_iff, (app_c hj).1.1, (app_c hj).1.2, (app_c hj).2.1, (app_c hj).2.2]; exact t
      · rcases Nat.lt_or_ge i j with g | g
        · exact hp i j g hj
        · rw [sgm_comm hb hi hj, hp j i (by omega) hi]
          by_cases a : adj es.length i j
          · rw [if_pos a, if_pos (adj_comm.1 a)]
          · rw [if_neg a, if_neg (fun t => a (adj_comm.1 t))]
theorem rchk_of {es : List PV} (g : Good es) : rchk es = 0 := by
  have h1 := g.lo
  have h2 := g.hi
  have hlen : (es ++ [qp es 0]).length = es.length + 1 := by simp
  have hf : fin (es ++ [qp es 0]) = true := by
    unfold fin
    rw [allR_false]
    intro j hj
    rw [hlen] at hj
    rw [Int.zero_add]
    by_cases a : j < es.length
    · rw [(app_c a).1.1, (app_c a).1.2]; exact g.b j a
    · have e := (app_c (es := es) (j := es.length - 1) (by omega)).2
      rw [show ((es.length - 1 : Nat) : Int) + 1 = (j : Int) by omega] at e
      rw [e.1, e.2, cyc_nx rfl (by omega)]
      exact g.b _ (Nat.mod_lt _ (by omega))
  have ha : allI (es ++ [qp es 0]) (((es.length + 1 : Nat) : Int) - 2) ((0 : Nat) : Int) es.length = true := by
    refine allI_of es.length 0 fun j hj => ?_
    rw [Nat.zero_add]
    refine ⟨?_, fun k hk => ?_⟩
    · rw [Bool.eq_false_iff]; intro t
      rw [eqq_iff, (app_c hj).1.1, (app_c hj).1.2, (app_c hj).2.1, (app_c hj).2.2] at t
      exact g.ne j hj t
    · rw [app_mq (by omega) hj, app_want h1 hk hj]
      exact g.pr k j (by omega) hj (by omega)
  unfold rchk
  rw [decide_eq_false (by omega), decide_eq_false (by omega)]
  unfold chk
  rw [hlen, hf, show es.length + 1 - 1 = es.length by omega]
  rw [show ((0 : Nat) : Int) = 0 from rfl] at ha
  rw [ha, decide_eq_false (by omega), decide_eq_false (by omega)]; rfl
end Go.Hg
/- Geometry: plain laws: right rings stay right when they begin elsewhere, or go the other way round. -/
namespace Go.Hg
open Go.Hx Go.Proofs
/-- The segments of B are those of A, some of them the other way round. -/
structure Segs (A B : List PV) (t : Nat → Nat) (rv : Bool) : Prop where
  len : B.length = A.length
  lt : ∀ i, i < A.length → t i < A.length
  inj : ∀ i j, i < A.length → j < A.length → t i = t j → i = j
  aj : ∀ i j, i < A.length → j < A.length → (adj A.length (t i) (t j) ↔ adj A.length i j)
  p : ∀ i : Nat, i < A.length → if rv then (qX B i = qX A (nx A (t i : Nat)) ∧ qY B i = qY A (nx A (t i : Nat))) ∧ (qX B (nx B i) = qX A (t i : Nat) ∧ qY B (nx B i) = qY A (t i : Nat))
    else (qX B i = qX A (t i : Nat) ∧ qY B i = qY A (t i : Nat)) ∧ (qX B (nx B i) = qX A (nx A (t i : Nat)) ∧ qY B (nx B i) = qY A (nx A (t i : Nat)))
theorem nx_bd {A : List PV} (hb : ∀ j : Nat, j < A.length → right (qX A j) (qY A j) = true) {k : Nat} (hk : k < A.length) : right (qX A (nx A k)) (qY A (nx A k)) = true := by
  rw [cyc_nx rfl hk]; exact hb _ (Nat.mod_lt _ (by omega))
theorem Segs.good {A B : List PV} {t : Nat → Nat} {rv : Bool} (s : Segs A B t rv) (g : Good A) : Good B := by
  have hl := s.len
  have bd1 : ∀ k, k < A.length → bd (qX A (k : Nat)) (qY A (k : Nat)) := fun k hk => right_bd (g.b k hk)
  have bd2 : ∀ k, k < A.length → bd (qX A (nx A (k : Nat))) (qY A (nx A (k : Nat))) := fun k hk => right_bd (nx_bd g.b hk)
  have hs : ∀ i j : Nat, i < A.length → j < A.length → sgm B i j = sgm A (t i) (t j) := fun i j hi hj => by
    have p1 := s.p i hi
    have p2 := s.p j hj
    have c1 := bd1 (t i) (s.lt i hi); have c2 := bd2 (t i) (s.lt i hi)
    have c3 := bd1 (t j) (s.lt j hj); have c4 := bd2 (t j) (s.lt j hj)
    unfold sgm
    cases rv with
    | false =>
      simp only [Bool.false_eq_true, if_false] at p1 p2
      rw [p1.1.1, p1.1.2, p1.2.1, p1.2.2, p2.1.1, p2.1.2, p2.2.1, p2.2.2]
    | true =>
      simp only [if_true] at p1 p2
      rw [p1.1.1, p1.1.2, p1.2.1, p1.2.2, p2.1.1, p2.1.2, p2.2.1, p2.2.2, mt_swap1 c1 c2 c4 c3, mt_swap2 c1 c2 c3 c4]
  refine ⟨by rw [hl]; exact g.lo, by rw [hl]; exact g.hi, fun j hj => ?_, fun j hj => ?_, fun i j hi hj hij => ?_⟩
  · rw [hl] at hj
    have p1 := s.p j hj
    cases rv with
    | false => simp only [Bool.false_eq_true, if_false] at p1; rw [p1.1.1, p1.1.2]; exact g.b _ (s.lt j hj)
    | true => simp only [if_true] at p1; rw [p1.1.1, p1.1.2]; exact nx_bd g.b (s.lt j hj)
  · rw [hl] at hj
    have p1 := s.p j hj
    have n := g.ne _ (s.lt j hj)
    cases rv with
    | false => simp only [Bool.false_eq_true, if_false] at p1; rw [p1.1.1, p1.1.2, p1.2.1, p1.2.2]; exact n
    | true => simp only [if_true] at p1; rw [p1.1.1, p1.1.2, p1.2.1, p1.2.2]; exact fun q => n ⟨q.1.symm, q.2.symm⟩
  · rw [hl] at hi hj ⊢
    rw [hs i j hi hj, g.pr _ _ (s.lt i hi) (s.lt j hj) (fun q => hij (s.inj i j hi hj q))]
    by_cases a : adj A.length i j
    · rw [if_pos a, if_pos ((s.aj i j hi hj).2 a)]
    · rw [if_neg a, if_neg (fun q => a ((s.aj i j hi hj).1 q))]
/-! The list that begins with the point k. -/
theorem rot_q {R : List PV} {k : Nat} (hk : k ≤ R.length) {i : Nat} (hi : i < R.length) : qX (R.drop k ++ R.take k) (i : Int) = qX R ((((k + i) % R.length : Nat)) : Int) ∧ qY (R.drop k ++ R.take k) (i : Int) = qY R ((((k + i) % R.length : Nat)) : Int) := by
  have e : (R.drop k ++ R.take k).getD i .any = R.getD ((k + i) % R.length) .any := by
    rw [List.getD_eq_getElem?_getD, List.getD_eq_getElem?_getD]
    by_cases g : k + i < R.length
    · rw [List.getElem?_append_left (by simp; omega), List.getElem?_drop, Nat.mod_eq_of_lt g]
    · rw [List.getElem?_append_right (by simp; omega), List.length_drop, List.getElem?_take, if_pos (by omega)]
      congr 2
      rw [Nat.mod_eq_sub_mod (by omega), Nat.mod_eq_of_lt (by omega)]; omega
  unfold qX qY
  rw [Int.toNat_natCast, Int.toNat_natCast, e]
  exact ⟨rfl, rfl⟩
theorem mod_step {n a : Nat} : (a % n + 1) % n = (a + 1) % n := by rw [Nat.mod_add_mod]
theorem rot_segs {R : List PV} (h0 : 0 < R.length) {k : Nat} (hk : k < R.length) : Segs R (R.drop k ++ R.take k) (fun i => (k + i) % R.length) false := by
  have hl : (R.drop k ++ R.take k).length = R.length := by simp; omega
  have md : ∀ i, i < R.length → (k + i) % R.length = if k + i < R.length then k + i else k + i - R.length := fun i hi => by
    split
    · rename_i g; exact Nat.mod_eq_of_lt g
    · rename_i g; rw [Nat.mod_eq_sub_mod (by omega), Nat.mod_eq_of_lt (by omega)]
  have inj : ∀ i j, i < R.length → j < R.length → (k + i) % R.length = (k + j) % R.length → i = j := fun i j hi hj => by
    rw [md i hi, md j hj]; split <;> split <;> omega
  have st : ∀ i, i < R.length → ((k + i) % R.length + 1) % R.length = (k + (i + 1) % R.length) % R.length := fun i _ => by
    rw [mod_step, Nat.add_mod_mod, Nat.add_assoc]
  refine ⟨hl, fun i _ => Nat.mod_lt _ h0, inj, fun i j hi hj => ?_, fun i hi => ?_⟩
  · have m1 := Nat.mod_lt (i + 1) h0
    have m2 := Nat.mod_lt (j + 1) h0
    unfold adj
    rw [st i hi, st j hj]
    constructor
    · rintro (g | g)
      · exact .inl (inj _ _ m1 hj g)
      · exact .inr (inj _ _ m2 hi g)
    · rintro (g | g)
      · exact .inl (by rw [g])
      · exact .inr (by rw [g])
  · simp only [Bool.false_eq_true, if_false]
    have e := rot_q (R := R) (by omega : k ≤ R.length) hi
    have e2 := rot_q (R := R) (by omega : k ≤ R.length) (Nat.mod_lt (i + 1) h0)
    refine ⟨e, ?_⟩
    rw [cyc_nx hl hi, cyc_nx rfl (Nat.mod_lt (k + i) h0), st i hi]
    exact e2
/-! The list backwards. -/
structure Back (A B : List PV) : Prop where
  len : B.length = A.length
  q : ∀ i : Nat, i < A.length → qX B i = qX A ((A.length - 1 - i : Nat) : Int) ∧ qY B i = qY A ((A.length - 1 - i : Nat) : Int)
def bt (n i : Nat) : Nat := if i + 1 < n then n - 2 - i else n - 1
theorem back_segs {A B : List PV} (h : Back A B) (h0 : 3 ≤ A.length) : Segs A B (bt A.length) true := by
  refine ⟨h.len, fun i hi => by unfold bt; split <;> omega, fun i j hi hj => by unfold bt; split <;> split <;> omega, fun i j hi hj => ?_, fun i hi => ?_⟩
  · have sm : ∀ a, a < A.length → (a + 1) % A.length = if a + 1 < A.length then a + 1 else 0 := fun a ha => by
      split
      · rename_i g; exact Nat.mod_eq_of_lt g
      · rename_i g; rw [show a + 1 = A.length by omega, Nat.mod_self]
    unfold adj
    rw [sm i hi, sm j hj, sm (bt A.length i) (by unfold bt; split <;> omega), sm (bt A.length j) (by unfold bt; split <;> omega)]
    unfold bt
    (repeat' split) <;> omega
  · simp only [if_true]
    rw [cyc_nx h.len hi, cyc_nx rfl (by unfold bt; split <;> omega)]
    by_cases g : i + 1 < A.length
    · have e1 := h.q i hi
      have e2 := h.q (i + 1) g
      have eb : bt A.length i = A.length - 2 - i := by unfold bt; rw [if_pos g]
      rw [eb, Nat.mod_eq_of_lt g, Nat.mod_eq_of_lt (by omega), show A.length - 2 - i + 1 = A.length - 1 - i by omega]
      rw [show A.length - 1 - (i + 1) = A.length - 2 - i by omega] at e2
      exact ⟨e1, e2⟩
    · have e1 := h.q i hi
      have e2 := h.q 0 (by omega)
      have eb : bt A.length i = A.length - 1 := by unfold bt; rw [if_neg g]
      rw [eb, show i + 1 = A.length by omega, Nat.mod_self, show A.length - 1 + 1 = A.length by omega, Nat.mod_self]
      rw [show A.length - 1 - i = 0 by omega] at e1
      rw [Nat.sub_zero] at e2
      exact ⟨e1, e2⟩
end Go.Hg
/- Geometry: RingSpots answers true. -/
namespace Go.Hg
open Go.Hx Go.Proofs
namespace O4
/-- (As in HgT, HgT2 and HgL7b, whose texts are not needed else.) -/
theorem sgn_mulp {k n : Int} (h : 0 < k) : sgn (k * n) = sgn n := by
  rcases Int.lt_trichotomy n 0 with g | g | g
  · have := Int.mul_neg_of_pos_of_neg h g
    unfold sgn; rw [if_pos this, if_pos g]
  · subst g; rw [Int.mul_zero]
  · have := Int.mul_pos h g
    unfold sgn; rw [if_neg (by omega), if_pos this, if_neg (by omega), if_pos g]
theorem sgn_neg (n : Int) : sgn (-n) = -sgn n := by unfold sgn; (repeat' split) <;> omega
theorem sd_swap (a b c d e f : Int) : sd c d a b e f = -sd a b c d e f := by
  unfold sd
  rw [show crs c d a b e f = -crs a b c d e f by unfold crs; grind, sgn_neg, Bool.and_comm (bdd c d)]
  cases bdd a b && bdd c d && bdd e f <;> simp
abbrev bd (a b : Int) : Prop := (-1152921504606846976 ≤ a ∧ a ≤ 1152921504606846976) ∧ (-1152921504606846976 ≤ b ∧ b ≤ 1152921504606846976)
theorem sd_of {a b c d e f : Int} (h1 : bd a b) (h2 : bd c d) (h3 : bd e f) : sd a b c d e f = sgn (crs a b c d e f) := by
  unfold sd; rw [show bdd a b = true from inB2_iff.2 h1, show bdd c d = true from inB2_iff.2 h2, show bdd e f = true from inB2_iff.2 h3]; rfl
end O4
open O4
def mm29 (k : Int) : Int := W (1 + Int.tmod (W k) 50)
def all29 (a b c d e f m n : Int) : Option PV :=
  bif rsp a b 1 c d 1 e f == ray a b c d e f then bif rsp (W (m * a)) (W (m * b)) m (W (n * c)) (W (n * d)) n e f == ray a b c d e f then
    bif rsp (W (n * c)) (W (n * d)) n (W (m * a)) (W (m * b)) m e f == W (0 - ray a b c d e f) then some (bv (ray c d a b e f == W (0 - ray a b c d e f))) else some (bv false) else some (bv false) else some (bv false)
theorem q29 (a b c d e f m n : Int) : runP Try.prog E32 60 12 [.agg [iv a, iv b, iv c, iv d, iv e, iv f], .agg [.val (.int .u8 m), .val (.int .u8 n)]] =
  all29 (Int.tmod a 100) (Int.tmod b 100) (Int.tmod c 100) (Int.tmod d 100) (Int.tmod e 100) (Int.tmod f 100) (mm29 m) (mm29 n) := by kernel_rfl
theorem rayV_swap (u v : Bool) (s t : Int) (h : t = -s) : rayV v u t s = -rayV u v s t := by
  subst h
  unfold rayV
  generalize decide (s < 0) = p
  generalize decide (-s < 0) = q
  cases u <;> cases v <;> cases p <;> cases q <;> rfl
theorem ray_swap (a b c d e f : Int) : ray c d a b e f = -ray a b c d e f := by
  unfold ray
  exact rayV_swap _ _ _ _ (sd_swap a b c d e f)
def p29 (x : Int) : Prop := -100 < x ∧ x < 100
theorem upS_mul {y m h : Int} (hy : p29 y) (hh : p29 h) (hm : 1 ≤ m ∧ m ≤ 50) : upS (m * y) m h = decide (y > h) := by
  have k := mul_bd (A := 50) (B := 100) (a := m) (b := y) (by omega) ⟨by have := hy.1; omega, by have := hy.2; omega⟩
  unfold upS
  rw [show (decide (m < 1) || false) = false by simp; omega, cond_false, sg2_eq (by omega) (by omega) (by have := hh.1; have := hh.2; omega) (by omega)]
  rw [show m * y * 1 - h * m = m * (y - h) by grind, sgn_mulp (by omega), Bool.eq_iff_iff, decide_eq_true_iff, decide_eq_true_iff]
  unfold sgn
  (repeat' split) <;> omega
theorem ssd_mul {a b c d e f m n : Int} (ha : p29 a) (hb : p29 b) (hc : p29 c) (hd : p29 d) (he : p29 e) (hf : p29 f) (hm : 1 ≤ m ∧ m ≤ 50) (hn : 1 ≤ n ∧ n ≤ 50) :
    ssd (m * a) (m * b) m (n * c) (n * d) n e f 1 = sd a b c d e f := by
  have k : ∀ {m y : Int}, 1 ≤ m ∧ m ≤ 50 → p29 y → -5000 ≤ m * y ∧ m * y ≤ 5000 := fun hm hy => mul_bd (A := 50) (B := 100) (by omega) ⟨by have := hy.1; omega, by have := hy.2; omega⟩
  have k1 := k hm ha; have k2 := k hm hb; have k3 := k hn hc; have k4 := k hn hd
  obtain ⟨e1, e2⟩ := he; obtain ⟨f1, f2⟩ := hf
  unfold ssd
  rw [spOK_iff.2 ⟨by omega, by omega, by omega⟩, spOK_iff.2 ⟨by omega, by omega, by omega⟩, spOK_iff.2 ⟨by omega, by omega, by omega⟩]
  have hb' : ∀ {x y : Int}, p29 x → p29 y → bd x y := fun hx hy => by obtain ⟨_, _⟩ := hx; obtain ⟨_, _⟩ := hy; constructor <;> omega
  rw [sd_of (hb' ha hb) (hb' hc hd) (hb' ⟨e1, e2⟩ ⟨f1, f2⟩)]
  simp only [Bool.and_self, cond_true]
  rw [show crsS (m * a) (m * b) m (n * c) (n * d) n e f 1 = (m * m * n) * crs a b c d e f by unfold crsS crs; grind]
  exact sgn_mulp (Int.mul_pos (Int.mul_pos (by omega) (by omega)) (by omega))
theorem rsp_mul {a b c d e f m n : Int} (ha : p29 a) (hb : p29 b) (hc : p29 c) (hd : p29 d) (he : p29 e) (hf : p29 f) (hm : 1 ≤ m ∧ m ≤ 50) (hn : 1 ≤ n ∧ n ≤ 50) :
    rsp (m * a) (m * b) m (n * c) (n * d) n e f = ray a b c d e f := by
  unfold rsp ray
  rw [ssd_mul ha hb hc hd he hf hm hn, ssd_mul hc hd ha hb he hf hn hm, upS_mul hb hf hm, upS_mul hd hf hn]
  rw [show (decide (m < 1) || decide (n < 1)) = false by simp; omega]
  rfl
theorem ray_range (a b c d e f : Int) : -1 ≤ ray a b c d e f ∧ ray a b c d e f ≤ 1 := by
  unfold ray rayV
  cases decide (b > f) <;> cases decide (d > f) <;> cases decide (sd a b c d e f < 0) <;> cases decide (sd c d a b e f < 0) <;> decide
theorem all29_true {a b c d e f m n : Int} (ha : p29 a) (hb : p29 b) (hc : p29 c) (hd : p29 d) (he : p29 e) (hf : p29 f) (hm : 1 ≤ m ∧ m ≤ 50) (hn : 1 ≤ n ∧ n ≤ 50) : all29 a b c d e f m n = some (bv true) := by
  have k : ∀ {m y : Int}, 1 ≤ m ∧ m ≤ 50 → p29 y → W (m * y) = m * y := fun {m y} hm hy => by
    have := mul_bd (A := 50) (B := 100) (a := m) (b := y) (by omega) ⟨by have := hy.1; omega, by have := hy.2; omega⟩
    exact W_id (by omega) (by omega)
  unfold all29
  have r := ray_range a b c d e f
  have e1 := rsp_mul ha hb hc hd he hf (m := 1) (n := 1) (by omega) (by omega)
  simp only [Int.one_mul] at e1
  rw [k hm ha, k hm hb, k hn hc, k hn hd, rsp_mul ha hb hc hd he hf hm hn, rsp_mul hc hd ha hb he hf hn hm, e1, W_id (n := 0 - ray a b c d e f) (by omega) (by omega), ray_swap a b c d e f]
  simp
theorem law29 (a b c d e f : Int) {m n : Int} (hm : 0 ≤ m ∧ m < 256) (hn : 0 ≤ n ∧ n < 256) : Enters Try.prog 12 ∧ PCall Try.prog 12 [.agg [iv a, iv b, iv c, iv d, iv e, iv f], .agg [.val (.int .u8 m), .val (.int .u8 n)]] (bv true) := by
  have t : ∀ x : Int, p29 (Int.tmod x 100) := fun x => ⟨by have := Int.lt_tmod_of_pos x (show (0 : Int) < 100 by omega); omega, Int.tmod_lt_of_pos x (by omega)⟩
  have s : ∀ {k : Int}, 0 ≤ k ∧ k < 256 → 1 ≤ mm29 k ∧ mm29 k ≤ 50 := fun {k} hk => by
    unfold mm29
    rw [W_id (n := k) (by omega) (by omega)]
    have h1 := Int.tmod_nonneg 50 hk.1
    have h2 := Int.tmod_lt_of_pos k (show (0 : Int) < 50 by omega)
    rw [W_id (by omega) (by omega)]
    omega
  exact runP_sound ok32 (n := 60) ((q29 a b c d e f m n).trans (all29_true (t a) (t b) (t c) (t d) (t e) (t f) (s hm) (s hn)))
end Go.Hg
/- Geometry: plain laws: Area2 and Inside of right rings begun elsewhere, and backwards. -/
namespace Go.Hg
open Go.Hx Go.Proofs
theorem onS_iff {es : List PV} {x y : Int} : ∀ (n i : Nat), onS es x y (i : Int) n = true ↔ ∃ j : Nat, j < n ∧ onq es ((i + j : Nat) : Int) (nx es ((i + j : Nat) : Int)) x y = true
  | 0, i => by simp [onS]
  | n + 1, i => by
    have ih := onS_iff (es := es) (x := x) (y := y) n (i + 1)
    simp only [onS, Bool.or_eq_true]
    rw [show (i : Int) + 1 = ((i + 1 : Nat) : Int) by omega, ih]
    constructor
    · rintro (g | ⟨j, hj, g⟩)
      · exact ⟨0, by omega, by simpa using g⟩
      · exact ⟨j + 1, by omega, by rw [show i + (j + 1) = i + 1 + j by omega]; exact g⟩
    · rintro ⟨j, hj, g⟩
      cases j with
      | zero => exact .inl (by simpa using g)
      | succ j => exact .inr ⟨j, by omega, by rw [show i + 1 + j = i + (j + 1) by omega]; exact g⟩
theorem onX_swap {a b c d e f : Int} (h1 : bd a b) (h2 : bd c d) (h3 : bd e f) : onX c d a b e f = onX a b c d e f := by
  rw [← mt_on, ← mt_on, mt_swap1 h1 h2 h3 h3]
section
variable {A B : List PV} {t : Nat → Nat} {rv : Bool} (s : Segs A B t rv) (g : Good A)
include s g
theorem segs_on {x y : Int} (hxy : bd x y) {i : Nat} (hi : i < A.length) : onq B i (nx B i) x y = onq A (t i : Nat) (nx A (t i : Nat)) x y := by
  have p1 := s.p i hi
  have c1 := right_bd (g.b _ (s.lt i hi)); have c2 := right_bd (nx_bd g.b (s.lt i hi))
  unfold onq
  cases rv with
  | false => simp only [Bool.false_eq_true, if_false] at p1; rw [p1.1.1, p1.1.2, p1.2.1, p1.2.2]
  | true => simp only [if_true] at p1; rw [p1.1.1, p1.1.2, p1.2.1, p1.2.2, onX_swap c1 c2 hxy]
theorem segs_onS {x y : Int} (hxy : bd x y) (sur : ∀ j, j < A.length → ∃ i, i < A.length ∧ t i = j) : onS B x y 0 B.length = onS A x y 0 A.length := by
  rw [Bool.eq_iff_iff]
  have e1 := onS_iff (es := B) (x := x) (y := y) B.length 0
  have e2 := onS_iff (es := A) (x := x) (y := y) A.length 0
  rw [show ((0 : Nat) : Int) = 0 from rfl] at e1 e2
  rw [e1, e2, s.len]
  constructor
  · rintro ⟨j, hj, h⟩
    rw [Nat.zero_add, segs_on s g hxy hj] at h
    exact ⟨t j, s.lt j hj, by rw [Nat.zero_add]; exact h⟩
  · rintro ⟨j, hj, h⟩
    obtain ⟨i, hi, rfl⟩ := sur j hj
    rw [Nat.zero_add] at h
    exact ⟨i, hi, by rw [Nat.zero_add, segs_on s g hxy hi]; exact h⟩
end
theorem segs_ray {A B : List PV} {t : Nat → Nat} {rv : Bool} (s : Segs A B t rv) (x y : Int) {i : Nat} (hi : i < A.length) : ryq B i (nx B i) x y = if rv then - ryq A (t i : Nat) (nx A (t i : Nat)) x y else ryq A (t i : Nat) (nx A (t i : Nat)) x y := by
  have p1 := s.p i hi
  unfold ryq
  cases rv with
  | false => simp only [Bool.false_eq_true, if_false] at p1 ⊢; rw [p1.1.1, p1.1.2, p1.2.1, p1.2.2]
  | true => simp only [if_true] at p1 ⊢; rw [p1.1.1, p1.1.2, p1.2.1, p1.2.2, ray_swap]
theorem segs_cr {A B : List PV} {t : Nat → Nat} {rv : Bool} (s : Segs A B t rv) {i : Nat} (hi : i < A.length) : crP B i (nx B i) = if rv then - crP A (t i : Nat) (nx A (t i : Nat)) else crP A (t i : Nat) (nx A (t i : Nat)) := by
  have p1 := s.p i hi
  unfold crP
  cases rv with
  | false => simp only [Bool.false_eq_true, if_false] at p1 ⊢; rw [p1.1.1, p1.1.2, p1.2.1, p1.2.2]
  | true => simp only [if_true] at p1 ⊢; rw [p1.1.1, p1.1.2, p1.2.1, p1.2.2]; grind
theorem rs_all (es : List PV) (x y : Int) : rs es x y 0 es.length = sumN (fun j => ryq es ((j : Nat) : Int) (nx es ((j : Nat) : Int)) x y) es.length := by
  have e := rs_sum es x y es.length 0
  rw [show ((0 : Nat) : Int) = 0 from rfl] at e
  rw [e]
  exact sumN_congr fun j _ => by rw [Nat.zero_add]
/-- A sum over the segments the other way round. -/
theorem sum_bt (f : Nat → Int) {n : Nat} (hn : 0 < n) : sumN (fun j => f (bt n j)) n = sumN f n := by
  obtain ⟨m, rfl⟩ : ∃ m, n = m + 1 := ⟨n - 1, by omega⟩
  rw [sumN_last, sumN_last]
  have e1 : f (bt (m + 1) m) = f m := by unfold bt; rw [if_neg (by omega), Nat.add_sub_cancel]
  have e2 : sumN (fun j => f (bt (m + 1) j)) m = sumN (fun j => f (m - 1 - j)) m := sumN_congr fun j hj => by unfold bt; rw [if_pos (by omega)]; exact congrArg f (by omega)
  rw [e1, e2, sumN_rev]
section
variable {R : List PV} (h : ∀ e ∈ R, in60 e) (g : Good R)
include h g
omit g in
theorem rot_in (k : Nat) : ∀ e ∈ R.drop k ++ R.take k, in60 e := fun e he => by
  rcases List.mem_append.1 he with q | q
  · exact h e (List.mem_of_mem_drop q)
  · exact h e (List.mem_of_mem_take q)
theorem ar2_rot {k : Nat} (hk : k < R.length) : ar2 (R.drop k ++ R.take k) = ar2 R := by
  have s := rot_segs (R := R) (by omega) hk
  have hh := g.hi
  rw [ar2_sum (rot_in h k) (by rw [s.len]; omega), ar2_sum h (by omega), s.len]
  rw [← sumN_rot (fun j => crP R ((j : Nat) : Int) (nx R ((j : Nat) : Int))) R.length (by omega) k]
  exact sumN_congr fun j hj => by rw [segs_cr s hj]; rfl
omit h in
theorem ins_rot {k : Nat} (hk : k < R.length) {x y : Int} (hxy : bd x y) : ins (R.drop k ++ R.take k) x y = ins R x y := by
  have s := rot_segs (R := R) (by omega) hk
  have hh := g.hi
  have e1 : rchk (R.drop k ++ R.take k) = rchk R := by rw [rchk_of (s.good g), rchk_of g]
  have e2 := segs_onS s g hxy fun j hj => by
    refine ⟨(R.length - k + j) % R.length, Nat.mod_lt _ (by omega), ?_⟩
    rw [Nat.add_mod_mod, show k + (R.length - k + j) = j + R.length by omega, Nat.add_mod_right, Nat.mod_eq_of_lt hj]
  have e3 : rs (R.drop k ++ R.take k) x y 0 (R.drop k ++ R.take k).length = rs R x y 0 R.length := by
    rw [rs_all, rs_all, s.len]
    rw [← sumN_rot (fun j => ryq R ((j : Nat) : Int) (nx R ((j : Nat) : Int)) x y) R.length (by omega) k]
    exact sumN_congr fun j hj => by rw [segs_ray s x y hj]; rfl
  unfold ins
  rw [e1, e2, smS_rs _ _ _ _ _ _ (by rw [s.len]; omega), smS_rs _ _ _ _ _ _ (by omega), e3]
theorem ar2_back {B : List PV} (hb : Back R B) (hB : ∀ e ∈ B, in60 e) : ar2 B = - ar2 R := by
  have s := back_segs hb g.lo
  have hh := g.hi
  have hl := g.lo
  rw [ar2_sum hB (by rw [s.len]; omega), ar2_sum h (by omega), s.len, ← sumN_neg]
  rw [← sum_bt (fun j => - crP R ((j : Nat) : Int) (nx R ((j : Nat) : Int))) (by omega)]
  exact sumN_congr fun j hj => by rw [segs_cr s hj]; rfl
omit h in
theorem ins_back {B : List PV} (hb : Back R B) {x y : Int} (hxy : bd x y) : ins B x y = ins R x y := by
  have s := back_segs hb g.lo
  have hh := g.hi
  have hl := g.lo
  have e1 : rchk B = rchk R := by rw [rchk_of (s.good g), rchk_of g]
  have e2 := segs_onS s g hxy fun j hj => ⟨bt R.length j, by unfold bt; split <;> omega, by unfold bt; (repeat' split) <;> omega⟩
  have e3 : rs B x y 0 B.length = - rs R x y 0 R.length := by
    rw [rs_all, rs_all, s.len, ← sumN_neg]
    rw [← sum_bt (fun j => - ryq R ((j : Nat) : Int) (nx R ((j : Nat) : Int)) x y) (by omega)]
    exact sumN_congr fun j hj => by rw [segs_ray s x y hj]; rfl
  unfold ins
  rw [e1, e2, smS_rs _ _ _ _ _ _ (by rw [s.len]; omega), smS_rs _ _ _ _ _ _ (by omega), e3]
  have e4 : ((0 + -rs R x y 0 R.length : Int) == 0) = ((0 + rs R x y 0 R.length : Int) == 0) := by rw [Bool.eq_iff_iff, beq_iff_eq, beq_iff_eq]; omega
  rw [e4]
end
end Go.Hg
/- Geometry: RingArea: its first loop. -/
namespace Go.Hg
open Go.Hx Go.Proofs
noncomputable def E80 : EnvK := E39.addN 13 7 [(13, 23, 2), (14, 23, 2)]
theorem ok80 : EnvOK Try.prog E80.env := ok39.addN 13 7 [(13, 23, 2), (14, 23, 2)]
def shA6 : S1 := ⟨167, [(6, .ptr 0 1 0 0), (7, .ptr 1 1 0 0), (9, .bool), (10, .lst 23), (12, .sl 2), (13, .sl 3), (14, .sl 4), (39, I64), (40, I64)],
  [.one 23 2 (.agg [I64, I64]), .one 23 2 (.agg [I64, I64]), .many 23 2, .many 23 2, .many 23 2]⟩
structure A6 where
  u : Bool
  f : Bool
  R : List PV
  n1 : Nat
  l1 : Nat
  len : Int
  bx : Int
  by_ : Int
  px : Int
  py : Int
  nl : Bool
  T : List PV
abbrev lA6 (s : A6) (n2 l2 n3 l3 : Nat) (j : Int) (nl2 : Bool) (B : List PV) (nl3 : Bool) (M : List PV) : LS := ([.b s.u, .l s.f s.R, .n s.n1, .n s.l1, .n n2, .n l2, .n n3, .n l3, .i s.len, .i j], [.i s.bx, .i s.by_, .i s.px, .i s.py, .l s.nl s.T, .l nl2 B, .l nl3 M])
noncomputable abbrev xA6 (s : A6) (n2 l2 n3 l3 : Nat) (nl2 : Bool) (B : List PV) (nl3 : Bool) (M : List PV) : PX × List PV × List Row :=
  (.exit 0, tm 167 [(7, .ptr 1 1 0 0), (9, bv s.u), (10, .lst s.f 23 s.R), (12, .sl 2 s.n1 0 s.l1), (13, .sl 3 n2 0 l2), (14, .sl 4 n3 0 l3)], (shA6.put (lA6 s n2 l2 n3 l3 0 nl2 B nl3 M)).2)
def bkI (R : List PV) (j : Int) : Int := W (W ((R.length : Int) - 1) - j)
def mvA (R : List PV) (j bx by_ : Int) : PV := ptv (W (qX R j + Int.tmod bx 1000)) (W (qY R j + Int.tmod by_ 1000))
theorem qA1 (u f : Bool) (R : List PV) (n1 l1 : Nat) (len bx by_ px py : Int) (nl : Bool) (T : List PV) (n2 l2 n3 l3 : Nat) (j : Int) (nl2 : Bool) (B : List PV) (nl3 : Bool) (M : List PV) :
  runB Try.prog E80 60 13 (lpb Try.f13 7) [6, 7, 9, 10, 12, 13, 14, 39, 40] [7, 9, 10, 12, 13, 14] (shA6.put (lA6 ⟨u, f, R, n1, l1, len, bx, by_, px, py, nl, T⟩ n2 l2 n3 l3 j nl2 B nl3 M)).1 (shA6.put (lA6 ⟨u, f, R, n1, l1, len, bx, by_, px, py, nl, T⟩ n2 l2 n3 l3 j nl2 B nl3 M)).2 =
  bif decide (j < len) then bif inr R (bkI R j) then bif room B n2 l2 then bif inr R j then bif inr R j then bif room M n3 l3 then
    some (.normal, shA6.put (lA6 ⟨u, f, R, n1, l1, len, bx, by_, px, py, nl, T⟩ (n2 + 1) (n2 + 1) (n3 + 1) (n3 + 1) (W (j + 1)) (nl2 && false) (B ++ [ptv (qX R (bkI R j)) (qY R (bkI R j))]) (nl3 && false) (M ++ [mvA R j bx by_])))
    else none else none else none else none else none
  else some (xA6 ⟨u, f, R, n1, l1, len, bx, by_, px, py, nl, T⟩ n2 l2 n3 l3 nl2 B nl3 M) := by kernel_rfl
end Go.Hg
/- Geometry: RingArea: its first loop: the contract. -/
namespace Go.Hg
open Go.Hx Go.Proofs
/-- The points backwards, from j on. -/
def bkL (R : List PV) (j : Int) : Nat → List PV
  | 0 => []
  | m + 1 => ptv (qX R ((R.length : Int) - 1 - j)) (qY R ((R.length : Int) - 1 - j)) :: bkL R (j + 1) m
def mvAL (R : List PV) (bx by_ : Int) (j : Int) : Nat → List PV
  | 0 => []
  | m + 1 => mvA R j bx by_ :: mvAL R bx by_ (j + 1) m
theorem bkL_len (R : List PV) : ∀ (m : Nat) (j : Int), (bkL R j m).length = m
  | 0, _ => rfl
  | m + 1, j => by simp [bkL, bkL_len R m (j + 1)]
theorem mvAL_len (R : List PV) (bx by_ : Int) : ∀ (m : Nat) (j : Int), (mvAL R bx by_ j m).length = m
  | 0, _ => rfl
  | m + 1, j => by simp [mvAL, mvAL_len R bx by_ m (j + 1)]
def pA6 : LS → Bool
  | ([.b _, .l _ R, .n _, .n _, .n n2, .n l2, .n n3, .n l3, .i len, .i j], [.i _, .i _, .i _, .i _, .l _ _, .l _ B, .l _ M]) =>
    decide (0 ≤ j) && decide (j ≤ len) && decide (len = (R.length : Int)) && decide (n2 = B.length) && decide (l2 = B.length) && decide (n3 = M.length) && decide (l3 = M.length) && decide ((B.length : Int) ≤ j) && decide ((M.length : Int) ≤ j) && decide (R.length ≤ 1000)
  | _ => false
noncomputable def fA6 : LS → DT (PX × List PV × List Row)
  | ([.b u, .l f R, .n n1, .n l1, .n n2, .n _, .n n3, .n _, .i len, .i j], [.i bx, .i by_, .i px, .i py, .l nl T, .l nl2 B, .l nl3 M]) =>
    .leaf (xA6 ⟨u, f, R, n1, l1, len, bx, by_, px, py, nl, T⟩ (n2 + (len - j).toNat) (n2 + (len - j).toNat) (n3 + (len - j).toNat) (n3 + (len - j).toNat) (nl2 && decide ((len - j).toNat = 0)) (B ++ bkL R j (len - j).toNat) (nl3 && decide ((len - j).toNat = 0)) (M ++ mvAL R bx by_ j (len - j).toNat))
  | _ => .no
def mA6 : LS → Nat
  | ([.b _, .l _ _, .n _, .n _, .n _, .n _, .n _, .n _, .i len, .i j], [.i _, .i _, .i _, .i _, .l _ _, .l _ _, .l _ _]) => (len - j).toNat
  | _ => 0
theorem sA6 : ∀ s r, pA6 s = true → (fA6 s).run = some r → r.1 ≠ .normal ∧ (runB Try.prog E80 60 13 (lpb Try.f13 7) [6, 7, 9, 10, 12, 13, 14, 39, 40] [7, 9, 10, 12, 13, 14] (shA6.put s).1 (shA6.put s).2 = some r ∨
      ∃ s', runB Try.prog E80 60 13 (lpb Try.f13 7) [6, 7, 9, 10, 12, 13, 14, 39, 40] [7, 9, 10, 12, 13, 14] (shA6.put s).1 (shA6.put s).2 = some (.normal, shA6.put s') ∧ pA6 s' = true ∧ mA6 s' < mA6 s ∧ (fA6 s').run = some r) := by
  intro s r hp hr
  unfold pA6 at hp; split at hp
  · rename_i u f R n1 l1 n2 l2 n3 l3 len j bx by_ px py nl T nl2 B nl3 M
    simp only [Bool.and_eq_true, decide_eq_true_eq] at hp
    obtain ⟨⟨⟨⟨⟨⟨⟨⟨⟨h1, h2⟩, h3⟩, h4⟩, h5⟩, h6⟩, h7⟩, h8⟩, h8b⟩, h9⟩ := hp
    have hr' := (Option.some.inj hr).symm
    refine ⟨by rw [hr']; simp, ?_⟩
    subst h3 h4 h5 h6 h7
    rw [show shA6.put ([.b u, .l f R, .n n1, .n l1, .n B.length, .n B.length, .n M.length, .n M.length, .i (R.length : Int), .i j], [.i bx, .i by_, .i px, .i py, .l nl T, .l nl2 B, .l nl3 M]) =
      shA6.put (lA6 ⟨u, f, R, n1, l1, (R.length : Int), bx, by_, px, py, nl, T⟩ B.length B.length M.length M.length j nl2 B nl3 M) from rfl, qA1]
    by_cases hi : j < (R.length : Int)
    · have hw := W_id (n := j + 1) (by omega) (by omega)
      have hb : bkI R j = (R.length : Int) - 1 - j := by unfold bkI; rw [W_id (n := (R.length : Int) - 1) (by omega) (by omega), W_id (by omega) (by omega)]
      have hroom : room B B.length B.length = true := by unfold room; simp; omega
      have hroom2 : room M M.length M.length = true := by unfold room; simp; omega
      rw [decide_eq_true hi, cond_true, hroom, hroom2, hw, hb, inr_of h1 hi, inr_of (i := (R.length : Int) - 1 - j) (by omega) (by omega)]
      simp only [cond_true, Bool.and_false]
      obtain ⟨m, hm⟩ : ∃ m, ((R.length : Int) - j).toNat = m + 1 := ⟨((R.length : Int) - j).toNat - 1, by omega⟩
      have hm2 : ((R.length : Int) - (j + 1)).toNat = m := by omega
      rw [hm] at hr'
      simp only [bkL, mvAL] at hr'
      right
      refine ⟨lA6 ⟨u, f, R, n1, l1, (R.length : Int), bx, by_, px, py, nl, T⟩ (B.length + 1) (B.length + 1) (M.length + 1) (M.length + 1) (j + 1) false (B ++ [ptv (qX R ((R.length : Int) - 1 - j)) (qY R ((R.length : Int) - 1 - j))]) false (M ++ [mvA R j bx by_]), rfl, by simp [pA6]; omega, by simp only [mA6]; omega, ?_⟩
      rw [hr']
      simp only [fA6, hm2, List.append_assoc, List.cons_append, List.nil_append, Bool.false_and]
      rw [show B.length + 1 + m = B.length + (m + 1) by omega, show M.length + 1 + m = M.length + (m + 1) by omega]
      simp [DT.run]
    · rw [decide_eq_false hi]
      rw [show ((R.length : Int) - j).toNat = 0 by omega] at hr'
      exact .inl (by rw [hr']; simp [bkL, mvAL])
  · cases hp
noncomputable def E81 : EnvK := E80.addW 13 7 [6, 7, 9, 10, 12, 13, 14, 39, 40] [] shA6 pA6 fA6
theorem ok81 : EnvOK Try.prog E81.env :=
  ok80.addW (n := 60) Try.func13 (show Try.f13.body = some (bod Try.f13) by kernel_rfl) (show (loops (bod Try.f13)).filter (fun b => rid b == 7) = [lpb Try.f13 7] by kernel_rfl) [6, 7, 9, 10, 12, 13, 14, 39, 40] [7, 9, 10, 12, 13, 14] [] shA6 mA6 sA6
def shA7 : S1 := ⟨167, [(7, .ptr 1 1 0 0), (9, .bool), (10, .lst 23), (12, .sl 2), (13, .sl 3), (14, .sl 4), (16, I64), (17, I64), (87, I64), (88, I64)],
  [.one 23 2 (.agg [I64, I64]), .one 23 2 (.agg [I64, I64]), .many 23 2, .many 23 2, .many 23 2]⟩
structure A7 where
  u : Bool
  f : Bool
  R : List PV
  n1 : Nat
  l1 : Nat
  n2 : Nat
  l2 : Nat
  n3 : Nat
  l3 : Nat
  ar : Int
  len : Int
  bx : Int
  by_ : Int
  px : Int
  py : Int
  nl : Bool
  T : List PV
  nl2 : Bool
  B : List PV
  nl3 : Bool
  M : List PV
abbrev lA7 (s : A7) (sum j : Int) : LS := ([.b s.u, .l s.f s.R, .n s.n1, .n s.l1, .n s.n2, .n s.l2, .n s.n3, .n s.l3, .i s.ar, .i sum, .i s.len, .i j], [.i s.bx, .i s.by_, .i s.px, .i s.py, .l s.nl s.T, .l s.nl2 s.B, .l s.nl3 s.M])
noncomputable abbrev xA7 (s : A7) (sum : Int) : PX × List PV × List Row :=
  (.exit 2, tm 167 [(7, .ptr 1 1 0 0), (9, bv s.u), (10, .lst s.f 23 s.R), (12, .sl 2 s.n1 0 s.l1), (13, .sl 3 s.n2 0 s.l2), (14, .sl 4 s.n3 0 s.l3), (16, iv s.ar), (17, iv sum)], (shA7.put (lA7 s sum 0)).2)
theorem qA2 (u f : Bool) (R : List PV) (n1 l1 n2 l2 n3 l3 : Nat) (ar len bx by_ px py : Int) (nl : Bool) (T : List PV) (nl2 : Bool) (B : List PV) (nl3 : Bool) (M : List PV) (sum j : Int) :
  runB Try.prog E81 60 13 (lpb Try.f13 16) [7, 9, 10, 12, 13, 14, 16, 17, 87, 88] [7, 9, 10, 12, 13, 14, 16, 17] (shA7.put (lA7 ⟨u, f, R, n1, l1, n2, l2, n3, l3, ar, len, bx, by_, px, py, nl, T, nl2, B, nl3, M⟩ sum j)).1 (shA7.put (lA7 ⟨u, f, R, n1, l1, n2, l2, n3, l3, ar, len, bx, by_, px, py, nl, T, nl2, B, nl3, M⟩ sum j)).2 =
  bif decide (j < len) then bif inr R j then bif nz R then bif inr R (nxW R j) then
    some (.normal, shA7.put (lA7 ⟨u, f, R, n1, l1, n2, l2, n3, l3, ar, len, bx, by_, px, py, nl, T, nl2, B, nl3, M⟩ (W (sum + ryq R j (nxW R j) px py)) (W (j + 1))))
    else none else none else none
  else some (xA7 ⟨u, f, R, n1, l1, n2, l2, n3, l3, ar, len, bx, by_, px, py, nl, T, nl2, B, nl3, M⟩ sum) := by kernel_rfl
end Go.Hg
/- Geometry: plain laws: the area of a moved list; the ring backwards of the law. -/
namespace Go.Hg
open Go.Hx Go.Proofs
def in2k (es : List PV) : Prop := ∀ i : Int, 0 ≤ i → i < (es.length : Int) → (-2000 ≤ qX es i ∧ qX es i ≤ 2000) ∧ (-2000 ≤ qY es i ∧ qY es i ≤ 2000)
theorem crW_eq2 {es : List PV} (h : in2k es) {i j : Int} (h0 : 0 ≤ i) (h1 : i < (es.length : Int)) (h2 : 0 ≤ j) (h3 : j < (es.length : Int)) : crW es i j = crP es i j ∧ -8000000 ≤ crP es i j ∧ crP es i j ≤ 8000000 := by
  have b1 := h i h0 h1
  have b2 := h j h2 h3
  have m1 := mul_bd (A := 2000) (B := 2000) b1.1 b2.2
  have m2 := mul_bd (A := 2000) (B := 2000) b1.2 b2.1
  unfold crW crP
  rw [W_id (n := qX es i * qY es j) (by omega) (by omega), W_id (n := qY es i * qX es j) (by omega) (by omega), W_id (by omega) (by omega)]
  omega
theorem arS_sum2 {es : List PV} (h : in2k es) : ∀ (n i : Nat) (acc : Int), i + n ≤ es.length → es.length ≤ 1000 → -100000000000 ≤ acc - 8000000 * n ∧ acc + 8000000 * n ≤ 100000000000 →
    arS es (i : Int) n acc = acc + sumN (fun j => crP es ((i + j : Nat) : Int) (nx es ((i + j : Nat) : Int))) n
  | 0, i, acc, _, _, _ => by simp [arS, sumN]
  | n + 1, i, acc, h0, h1, h2 => by
    have hr := nx_range (es := es) (i := (i : Int)) (by omega) (by omega)
    have c := crW_eq2 h (i := (i : Int)) (j := nx es (i : Int)) (by omega) (by omega) hr.1 hr.2
    simp only [arS, sumN, Nat.add_zero]
    rw [c.1, W_id (by omega) (by omega), show (i : Int) + 1 = ((i + 1 : Nat) : Int) by omega, arS_sum2 h n (i + 1) _ (by omega) h1 (by omega)]
    have e : sumN (fun j => crP es ((i + 1 + j : Nat) : Int) (nx es ((i + 1 + j : Nat) : Int))) n = sumN (fun j => crP es ((i + (j + 1) : Nat) : Int) (nx es ((i + (j + 1) : Nat) : Int))) n := sumN_congr fun j _ => by rw [show i + 1 + j = i + (j + 1) by omega]
    rw [e]; omega
theorem ar2_sum2 {es : List PV} (h : in2k es) (hl : es.length ≤ 1000) : ar2 es = sumN (fun j => crP es ((j : Nat) : Int) (nx es ((j : Nat) : Int))) es.length := by
  unfold ar2
  have := arS_sum2 h es.length 0 0 (by omega) hl (by omega)
  rw [show ((0 : Nat) : Int) = 0 from rfl] at this
  rw [this, Int.zero_add]
  exact sumN_congr fun j _ => by rw [Nat.zero_add]
theorem bkL_get (R : List PV) : ∀ (m : Nat) (j : Int) (i : Nat), i < m → (bkL R j m).getD i .any = ptv (qX R ((R.length : Int) - 1 - (j + i))) (qY R ((R.length : Int) - 1 - (j + i)))
  | 0, _, _, h => by omega
  | m + 1, j, 0, _ => by simp [bkL]
  | m + 1, j, i + 1, h => by
    simp only [bkL, List.getD_cons_succ]
    rw [bkL_get R m (j + 1) i (by omega), show j + 1 + (i : Int) = j + ((i + 1 : Nat) : Int) by omega]
theorem mvAL_get (R : List PV) (bx by_ : Int) : ∀ (m : Nat) (j : Int) (i : Nat), i < m → (mvAL R bx by_ j m).getD i .any = mvA R (j + i) bx by_
  | 0, _, _, h => by omega
  | m + 1, j, 0, _ => by simp [mvAL]
  | m + 1, j, i + 1, h => by
    simp only [mvAL, List.getD_cons_succ]
    rw [mvAL_get R bx by_ m (j + 1) i (by omega), show j + 1 + (i : Int) = j + ((i + 1 : Nat) : Int) by omega]
theorem bkL_back (R : List PV) : Back R (bkL R 0 R.length) := by
  refine ⟨bkL_len R R.length 0, fun i hi => ?_⟩
  unfold qX qY
  rw [Int.toNat_natCast, bkL_get R R.length 0 i hi, show (R.length : Int) - 1 - (0 + (i : Int)) = ((R.length - 1 - i : Nat) : Int) by omega]
  exact ⟨rfl, rfl⟩
theorem bkL_in {R : List PV} (h : ∀ e ∈ R, in60 e) : ∀ e ∈ bkL R 0 R.length, in60 e := by
  intro e he
  obtain ⟨i, hi, rfl⟩ := List.getElem_of_mem he
  have hl := bkL_len R R.length 0
  have e1 := bkL_get R R.length 0 i (by omega)
  rw [List.getD_eq_getElem?_getD, List.getElem?_eq_getElem hi] at e1
  have b := in60_q h (i := (R.length : Int) - 1 - (0 + i)) (by omega) (by omega)
  exact ⟨_, _, e1, b.1, b.2⟩
section
variable {R : List PV} (h : ∀ e ∈ R, in60 e) (hl : R.length ≤ 1000) {bx by_ : Int}
include h hl
omit hl in
theorem mvAL_q {i : Int} (h0 : 0 ≤ i) (h1 : i < (R.length : Int)) : qX (mvAL R bx by_ 0 R.length) i = qX R i + Int.tmod bx 1000 ∧ qY (mvAL R bx by_ 0 R.length) i = qY R i + Int.tmod by_ 1000 := by
  have b := in60_q h h0 h1
  have t1 := Int.tmod_lt_of_pos bx (show (0 : Int) < 1000 by omega)
  have t2 := Int.tmod_lt_of_pos by_ (show (0 : Int) < 1000 by omega)
  have t3 : -1000 < Int.tmod bx 1000 := by have := Int.tmod_lt_of_pos (-bx) (show (0 : Int) < 1000 by omega); rw [Int.neg_tmod] at this; omega
  have t4 : -1000 < Int.tmod by_ 1000 := by have := Int.tmod_lt_of_pos (-by_) (show (0 : Int) < 1000 by omega); rw [Int.neg_tmod] at this; omega
  have e := mvAL_get R bx by_ R.length 0 i.toNat (by omega)
  rw [show (0 : Int) + (i.toNat : Int) = i by omega] at e
  show (((mvAL R bx by_ 0 R.length).getD i.toNat .any).cellAt 0).getI = _ ∧ (((mvAL R bx by_ 0 R.length).getD i.toNat .any).cellAt 1).getI = _
  rw [e]
  show W (qX R i + Int.tmod bx 1000) = _ ∧ W (qY R i + Int.tmod by_ 1000) = _
  exact ⟨W_id (by omega) (by omega), W_id (by omega) (by omega)⟩
theorem ar2_mvA : ar2 (mvAL R bx by_ 0 R.length) = ar2 R := by
  have t1 := Int.tmod_lt_of_pos bx (show (0 : Int) < 1000 by omega)
  have t2 := Int.tmod_lt_of_pos by_ (show (0 : Int) < 1000 by omega)
  have t3 : -1000 < Int.tmod bx 1000 := by have := Int.tmod_lt_of_pos (-bx) (show (0 : Int) < 1000 by omega); rw [Int.neg_tmod] at this; omega
  have t4 : -1000 < Int.tmod by_ 1000 := by have := Int.tmod_lt_of_pos (-by_) (show (0 : Int) < 1000 by omega); rw [Int.neg_tmod] at this; omega
  have hm := mvAL_len R bx by_ R.length 0
  rw [ar2_sum2 (es := mvAL R bx by_ 0 R.length) (fun i h0 h1 => by
    rw [hm] at h1
    have q := mvAL_q h (bx := bx) (by_ := by_) h0 h1
    have b := in60_q h h0 h1
    rw [q.1, q.2]; omega) (by rw [hm]; exact hl), ar2_sum h hl, hm]
  generalize hu : Int.tmod bx 1000 = u at *
  generalize hv : Int.tmod by_ 1000 = v at *
  by_cases h0 : R.length = 0
  · rw [h0]; rfl
  have e1 : sumN (fun j => crP (mvAL R bx by_ 0 R.length) ((j : Nat) : Int) (nx (mvAL R bx by_ 0 R.length) ((j : Nat) : Int))) R.length =
      sumN (fun j => crP R ((j : Nat) : Int) (nx R ((j : Nat) : Int)) + ((u * qY R (((1 + j) % R.length : Nat) : Int) - v * qX R (((1 + j) % R.length : Nat) : Int)) + - (u * qY R ((j : Nat) : Int) - v * qX R ((j : Nat) : Int)))) R.length := by
    refine sumN_congr fun j hj => ?_
    have hr := nx_range (es := R) (i := (j : Int)) (by omega) (by omega)
    have q1 := mvAL_q h (bx := bx) (by_ := by_) (i := (j : Int)) (by omega) (by omega)
    have q2 := mvAL_q h (bx := bx) (by_ := by_) hr.1 hr.2
    have en : nx (mvAL R bx by_ 0 R.length) (j : Int) = nx R (j : Int) := by unfold nx; rw [hm]
    unfold crP
    rw [en, q1.1, q1.2, q2.1, q2.2, hu, hv, cyc_nx rfl hj, Nat.add_comm j 1]
    grind
  rw [e1, sumN_add, sumN_add, sumN_neg, sumN_rot (fun j => u * qY R ((j : Nat) : Int) - v * qX R ((j : Nat) : Int)) R.length (by omega) 1]
  omega
end
end Go.Hg
/- Geometry: plain laws for Pick's theorem: sums over ranges of whole numbers; lines through columns. -/
namespace Go.Hg
open Go.Hx Go.Proofs
/-- The sum over lo ≤ z < hi. -/
def sumI (f : Int → Int) (lo hi : Int) : Int := sumN (fun j => f (lo + j)) (hi - lo).toNat
theorem sumN_app (f : Nat → Int) : ∀ a b, sumN f (a + b) = sumN f a + sumN (fun j => f (a + j)) b
  | 0, b => by simp [sumN]
  | a + 1, b => by
    rw [show a + 1 + b = (a + b) + 1 by omega]
    simp only [sumN]
    rw [sumN_app (fun j => f (j + 1)) a b]
    have : sumN (fun j => f (a + j + 1)) b = sumN (fun j => f (a + 1 + j)) b := sumN_congr fun j _ => by rw [show a + j + 1 = a + 1 + j by omega]
    rw [this]; omega
theorem sumI_split {f : Int → Int} {lo mid hi : Int} (h1 : lo ≤ mid) (h2 : mid ≤ hi) : sumI f lo hi = sumI f lo mid + sumI f mid hi := by
  unfold sumI
  rw [show (hi - lo).toNat = (mid - lo).toNat + (hi - mid).toNat by omega, sumN_app]
  congr 1
  refine sumN_congr fun j _ => ?_
  rw [show lo + (((mid - lo).toNat + j : Nat) : Int) = mid + j by omega]
theorem sumI_congr {f g : Int → Int} {lo hi : Int} (h : ∀ z, lo ≤ z → z < hi → f z = g z) : sumI f lo hi = sumI g lo hi := by
  unfold sumI
  exact sumN_congr fun j hj => h _ (by omega) (by omega)
theorem sumN_const (c : Int) : ∀ n : Nat, sumN (fun _ => c) n = c * n
  | 0 => by simp [sumN]
  | n + 1 => by simp only [sumN]; rw [sumN_const c n, Int.natCast_succ, Int.mul_add]; omega
theorem sumI_const {f : Int → Int} {lo hi : Int} (c : Int) (hl : lo ≤ hi) (h : ∀ z, lo ≤ z → z < hi → f z = c) : sumI f lo hi = c * (hi - lo) := by
  rw [sumI_congr (g := fun _ => c) h]
  unfold sumI
  rw [sumN_const, show (((hi - lo).toNat : Nat) : Int) = hi - lo by omega]
theorem sumI_zero {f : Int → Int} {lo hi : Int} (h : ∀ z, lo ≤ z → z < hi → f z = 0) : sumI f lo hi = 0 := by
  unfold sumI
  rw [sumN_congr (g := fun _ => 0) fun j hj => h _ (by omega) (by omega), sumN_const]; omega
theorem sumI_one (f : Int → Int) (z : Int) : sumI f z (z + 1) = f z := by
  unfold sumI
  rw [show (z + 1 - z).toNat = 1 by omega]; simp [sumN]
theorem sumI_none (f : Int → Int) (z : Int) : sumI f z z = 0 := by unfold sumI; rw [Int.sub_self]; rfl
theorem sumI_add (f g : Int → Int) (lo hi : Int) : sumI (fun z => f z + g z) lo hi = sumI f lo hi + sumI g lo hi := by unfold sumI; exact sumN_add _ _ _
theorem sumI_neg (f : Int → Int) (lo hi : Int) : sumI (fun z => - f z) lo hi = - sumI f lo hi := by unfold sumI; exact sumN_neg _ _
/-- The other way round. -/
theorem sumI_flip (f : Int → Int) {s lo hi lo' hi' : Int} (hl : lo ≤ hi) (h1 : lo' = s - hi + 1) (h2 : hi' = s - lo + 1) : sumI (fun z => f (s - z)) lo' hi' = sumI f lo hi := by
  subst h1 h2
  unfold sumI
  rw [show (s - lo + 1 - (s - hi + 1)).toNat = (hi - lo).toNat by omega, ← sumN_rev (fun j => f (lo + j))]
  refine sumN_congr fun j hj => ?_
  have : s - (s - hi + 1 + (j : Int)) = lo + (((hi - lo).toNat - 1 - j : Nat) : Int) := by omega
  exact congrArg f this
theorem sumN_swap (f : Nat → Nat → Int) (m : Nat) : ∀ n, sumN (fun i => sumN (fun j => f i j) m) n = sumN (fun j => sumN (fun i => f i j) n) m
  | 0 => by simp only [sumN]; rw [sumN_const]; omega
  | n + 1 => by
    simp only [sumN]
    rw [sumN_swap (fun i j => f (i + 1) j) m n, sumN_add]
theorem sumI_swap (f : Int → Int → Int) (a b c d : Int) : sumI (fun x => sumI (fun y => f x y) c d) a b = sumI (fun y => sumI (fun x => f x y) a b) c d := by
  unfold sumI; exact sumN_swap _ _ _
/-- 0 below, 1 at it, 2 above. -/
def s3 (z : Int) : Int := if z < 0 then 0 else if z = 0 then 1 else 2
/-- The whole numbers around N/d: the one below and the one above. -/
def fc (d N : Int) : Int := N / d - (-N) / d
theorem div_between {d N : Int} (hd : 0 < d) : d * (N / d) ≤ N ∧ N < d * (N / d) + d := by
  have h1 := Int.emod_add_mul_ediv N d
  have h2 := Int.emod_nonneg N (show d ≠ 0 by omega)
  have h3 := Int.emod_lt_of_pos N hd
  omega
theorem div_eq {d N q : Int} (hd : 0 < d) (h1 : d * q ≤ N) (h2 : N < d * q + d) : N / d = q := by
  have g := div_between (N := N) hd
  have a : d * (N / d) < d * (q + 1) := by rw [Int.mul_add]; omega
  have b : d * q < d * (N / d + 1) := by rw [Int.mul_add]; omega
  have := Int.lt_of_mul_lt_mul_left a (by omega)
  have := Int.lt_of_mul_lt_mul_left b (by omega)
  omega
theorem fc_mul {d : Int} (hd : 0 < d) (q : Int) : fc d (d * q) = 2 * q := by
  unfold fc
  rw [div_eq (q := q) hd (by omega) (by omega), div_eq (q := -q) hd (by rw [Int.mul_neg]; omega) (by rw [Int.mul_neg]; omega)]; omega
theorem fc_not {d N : Int} (hd : 0 < d) (h : N ≠ d * (N / d)) : fc d N = 2 * (N / d) + 1 := by
  have g := div_between (N := N) hd
  unfold fc
  rw [div_eq (N := -N) (q := -(N / d) - 1) hd (by rw [Int.mul_sub, Int.mul_neg]; omega) (by rw [Int.mul_sub, Int.mul_neg]; omega)]; omega
theorem fc_flip {d : Int} (hd : 0 < d) (S N : Int) : fc d (d * S - N) = 2 * S - fc d N := by
  have g := div_between (N := N) hd
  by_cases h : N = d * (N / d)
  · have e1 : fc d N = 2 * (N / d) := by conv => lhs; rw [h]
                                         exact fc_mul hd _
    have e2 : d * S - N = d * (S - N / d) := by rw [Int.mul_sub]; omega
    rw [e1, e2, fc_mul hd]; omega
  · have q : (d * S - N) / d = S - N / d - 1 := div_eq hd (by rw [Int.mul_sub, Int.mul_sub]; omega) (by rw [Int.mul_sub, Int.mul_sub]; omega)
    have e2 : fc d (d * S - N) = 2 * (S - N / d - 1) + 1 := by
      rw [fc_not hd (by rw [q, Int.mul_sub, Int.mul_sub]; omega), q]
    rw [e2, fc_not hd h]; omega
/-- How many whole numbers lie above N/d, twice, and once for one at it. -/
theorem sum_s3 {d N K : Int} (hd : 0 < d) (h1 : -K ≤ N / d) (h2 : N / d ≤ K) : sumI (fun f => s3 (d * f - N)) (-K) (K + 1) = 2 * K + 1 - fc d N := by
  have g := div_between (N := N) hd
  have up : ∀ f, N / d + 1 ≤ f → s3 (d * f - N) = 2 := fun f hf => by
    have := Int.mul_le_mul_of_nonneg_left hf (show 0 ≤ d by omega)
    rw [Int.mul_add] at this
    unfold s3; rw [if_neg (by omega), if_neg (by omega)]
  have lo : ∀ f, f ≤ N / d - 1 → s3 (d * f - N) = 0 := fun f hf => by
    have := Int.mul_le_mul_of_nonneg_left hf (show 0 ≤ d by omega)
    rw [Int.mul_sub] at this
    unfold s3; rw [if_pos (by omega)]
  rw [sumI_split (mid := N / d) h1 (by omega), sumI_split (lo := N / d) (mid := N / d + 1) (by omega) (by omega), sumI_one,
    sumI_zero (f := fun f => s3 (d * f - N)) (fun z _ hz => lo z (by omega)), sumI_const (f := fun f => s3 (d * f - N)) 2 (by omega) (fun z hz _ => up z hz)]
  by_cases h : N = d * (N / d)
  · have e1 : fc d N = 2 * (N / d) := by conv => lhs; rw [h]
                                         exact fc_mul hd _
    have e2 : s3 (d * (N / d) - N) = 1 := by unfold s3; rw [if_neg (by omega), if_pos (by omega)]
    rw [e1, e2]; omega
  · have e2 : s3 (d * (N / d) - N) = 0 := by unfold s3; rw [if_pos (by omega)]
    rw [fc_not hd h, e2]; omega
theorem s3_neg (z : Int) : s3 (-z) = 2 - s3 z := by unfold s3; (repeat' split) <;> omega
theorem sum_s3' {d N K : Int} (hd : 0 < d) (h1 : -K ≤ N / d) (h2 : N / d ≤ K) : sumI (fun f => s3 (N - d * f)) (-K) (K + 1) = 2 * K + 1 + fc d N := by
  have e : sumI (fun f => s3 (N - d * f)) (-K) (K + 1) = sumI (fun f => 2 + - s3 (d * f - N)) (-K) (K + 1) := sumI_congr fun f _ _ => by
    rw [show N - d * f = -(d * f - N) by omega, s3_neg]; omega
  rw [e, sumI_add, sumI_neg, sum_s3 hd h1 h2, sumI_const (f := fun _ => 2) 2 (by omega) (fun _ _ _ => rfl)]; omega
/-- The line from (x0, y0) to (x1, y1), at e, times x1 - x0. -/
def lnN (x0 y0 x1 y1 e : Int) : Int := y0 * (x1 - e) + y1 * (e - x0)
theorem lnN_range {x0 y0 x1 y1 e K : Int} (hx : x0 < x1) (h1 : x0 ≤ e) (h2 : e ≤ x1) (b0 : -K ≤ y0 ∧ y0 ≤ K) (b1 : -K ≤ y1 ∧ y1 ≤ K) : -K ≤ lnN x0 y0 x1 y1 e / (x1 - x0) ∧ lnN x0 y0 x1 y1 e / (x1 - x0) ≤ K := by
  have g := div_between (N := lnN x0 y0 x1 y1 e) (show 0 < x1 - x0 by omega)
  have m1 := Int.mul_le_mul_of_nonneg_right b0.1 (show 0 ≤ x1 - e by omega)
  have m2 := Int.mul_le_mul_of_nonneg_right b0.2 (show 0 ≤ x1 - e by omega)
  have m3 := Int.mul_le_mul_of_nonneg_right b1.1 (show 0 ≤ e - x0 by omega)
  have m4 := Int.mul_le_mul_of_nonneg_right b1.2 (show 0 ≤ e - x0 by omega)
  have e1 : (-K) * (x1 - e) + (-K) * (e - x0) = (x1 - x0) * (-K) := by grind
  have e2 : K * (x1 - e) + K * (e - x0) = (x1 - x0) * K := by grind
  unfold lnN at *
  generalize (y0 * (x1 - e) + y1 * (e - x0)) / (x1 - x0) = q at *
  have a1 : (x1 - x0) * (-K) < (x1 - x0) * (q + 1) := by rw [Int.mul_add]; omega
  have a2 : (x1 - x0) * q ≤ (x1 - x0) * K := by omega
  have := Int.lt_of_mul_lt_mul_left a1 (by omega)
  have := Int.le_of_mul_le_mul_left a2 (by omega)
  omega
/-- Over a segment, its right end left out. -/
theorem sum_fc {x0 y0 x1 y1 : Int} (hx : x0 < x1) : sumI (fun e => fc (x1 - x0) (lnN x0 y0 x1 y1 e)) x0 x1 = 2 * y0 + (x1 - x0 - 1) * (y0 + y1) := by
  have hd : 0 < x1 - x0 := by omega
  rw [sumI_split (mid := x0 + 1) (by omega) (by omega), sumI_one]
  have e0 : fc (x1 - x0) (lnN x0 y0 x1 y1 x0) = 2 * y0 := by
    rw [show lnN x0 y0 x1 y1 x0 = (x1 - x0) * y0 by unfold lnN; grind, fc_mul hd]
  rw [e0]
  have fl := sumI_flip (fun e => fc (x1 - x0) (lnN x0 y0 x1 y1 e)) (s := x0 + x1) (lo := x0 + 1) (hi := x1) (lo' := x0 + 1) (hi' := x1) (by omega) (by omega) (by omega)
  have e1 : sumI (fun z => fc (x1 - x0) (lnN x0 y0 x1 y1 (x0 + x1 - z))) (x0 + 1) x1 = sumI (fun z => 2 * (y0 + y1) + - fc (x1 - x0) (lnN x0 y0 x1 y1 z)) (x0 + 1) x1 := sumI_congr fun z _ _ => by
    rw [show lnN x0 y0 x1 y1 (x0 + x1 - z) = (x1 - x0) * (y0 + y1) - lnN x0 y0 x1 y1 z by unfold lnN; grind, fc_flip hd]; omega
  rw [e1, sumI_add, sumI_neg, sumI_const (f := fun _ => 2 * (y0 + y1)) (2 * (y0 + y1)) (by omega) (fun _ _ _ => rfl)] at fl
  have e2 : 2 * (y0 + y1) * (x1 - (x0 + 1)) = 2 * ((x1 - x0 - 1) * (y0 + y1)) := by grind
  omega
end Go.Hg
