/- Geometry: plain laws: whole points that two segments have in common. -/
import Derived.Test.YtneklpbkfmljfaaPart5
import Derived.Test.YtneklpbkfmljfaaRows
import Derived.Test.YtneklpbkfmljfaaPart4
namespace Go.Hg
open Go.Hx Go.Proofs
/-- A point of a segment is a mean of its ends. -/
theorem on_weights {c d e f x y : Int} (hb : bx c d e f x y = true) (hc : crs c d e f x y = 0) : ∃ A B : Int, 0 ≤ A ∧ 0 ≤ B ∧ 0 < A + B ∧ (A + B) * x = A * c + B * e ∧ (A + B) * y = A * d + B * f := by
  unfold bx at hb
  rw [Bool.and_eq_true, btwn_iff, btwn_iff] at hb
  unfold crs at hc
  obtain ⟨hx, hy⟩ := hb
  rcases Int.lt_trichotomy c e with g | g | g
  · exact ⟨e - x, x - c, by omega, by omega, by omega, by grind, by grind⟩
  · subst g
    have hxe : x = c := by omega
    subst hxe
    rcases Int.lt_trichotomy d f with g | g | g
    · exact ⟨f - y, y - d, by omega, by omega, by omega, by grind, by grind⟩
    · exact ⟨1, 0, by omega, by omega, by omega, by omega, by omega⟩
    · exact ⟨y - f, d - y, by omega, by omega, by omega, by grind, by grind⟩
  · exact ⟨x - e, c - x, by omega, by omega, by omega, by grind, by grind⟩
theorem crs_mean {a b c d e f g h x y A B : Int} (h1 : (A + B) * x = A * e + B * g) (h2 : (A + B) * y = A * f + B * h) : (A + B) * crs a b c d x y = A * crs a b c d e f + B * crs a b c d g h := by
  unfold crs; grind
theorem mean_zero {A B p q : Int} (hA : 0 ≤ A) (hB : 0 ≤ B) (hAB : 0 < A + B) (h : A * p + B * q = 0) : ¬ (0 < p ∧ 0 < q) ∧ ¬ (p < 0 ∧ q < 0) := by
  constructor
  · rintro ⟨hp, hq⟩
    have m1 := Int.mul_nonneg hA (Int.le_of_lt hp)
    have m2 := Int.mul_nonneg hB (Int.le_of_lt hq)
    rcases Int.lt_or_le 0 A with g | g
    · have := Int.mul_pos g hp; omega
    · have := Int.mul_pos (show 0 < B by omega) hq; omega
  · rintro ⟨hp, hq⟩
    have m1 := Int.mul_nonneg hA (show 0 ≤ -p by omega)
    have m2 := Int.mul_nonneg hB (show 0 ≤ -q by omega)
    rw [Int.mul_neg] at m1 m2
    rcases Int.lt_or_le 0 A with g | g
    · have := Int.mul_pos g (show 0 < -p by omega); rw [Int.mul_neg] at this; omega
    · have := Int.mul_pos (show 0 < B by omega) (show 0 < -q by omega); rw [Int.mul_neg] at this; omega
theorem sgn_mul_pos {p q : Int} (h1 : ¬ (0 < p ∧ 0 < q)) (h2 : ¬ (p < 0 ∧ q < 0)) : decide (sgn p * sgn q > 0) = false := by
  rw [decide_eq_false_iff_not]
  unfold sgn
  (repeat' split) <;> omega
/-- Such a point: neither segment has the other one on one side. -/
theorem side_meet {a b c d e f g h x y : Int} (k1 : crs a b c d x y = 0) (k2 : bx e f g h x y = true) (k3 : crs e f g h x y = 0) : decide (sgn (crs a b c d e f) * sgn (crs a b c d g h) > 0) = false := by
  obtain ⟨A, B, hA, hB, hAB, e1, e2⟩ := on_weights k2 k3
  have := crs_mean (a := a) (b := b) (c := c) (d := d) e1 e2
  rw [k1, Int.mul_zero] at this
  obtain ⟨n1, n2⟩ := mean_zero hA hB hAB this.symm
  exact sgn_mul_pos n1 n2
theorem flk_meet {p q r s x : Int} (h1 : K p q x) (h2 : K r s x) : 1 ≤ flk p q r s := by
  obtain ⟨k0, _, k3⟩ := flk_props p q r s
  have : flk p q r s ≠ 0 := fun e => by
    obtain ⟨n1, n2, n3, n4⟩ := k0.1 e
    unfold K at *; omega
  omega
theorem flk_two {p q r s x y : Int} (h1 : K p q x) (h2 : K r s x) (h3 : K p q y) (h4 : K r s y) (hxy : x ≠ y) : flk p q r s = 2 := by
  unfold flk
  have : 0 < mnk (mxk p q) (mxk r s) - mxk (mnk p q) (mnk r s) := by
    unfold K at *
    unfold mnk mxk
    (repeat' split) <;> omega
  unfold sgn
  rw [if_neg (by omega), if_pos this]; rfl
theorem kb_K {p q x : Int} : kb p q x = true ↔ K p q x := kb_iff
/-- With a common point there is one at least. -/
theorem mt_meet {a b c d e f g h x y : Int} (h1 : bd a b) (h2 : bd c d) (h3 : bd e f) (h4 : bd g h) (h5 : bd x y) (o1 : onX a b c d x y = true) (o2 : onX e f g h x y = true) : 1 ≤ mt a b c d e f g h := by
  rw [on_of h1 h2 h5, Bool.and_eq_true, beq_iff_eq, sgn_zero] at o1
  rw [on_of h3 h4 h5, Bool.and_eq_true, beq_iff_eq, sgn_zero] at o2
  obtain ⟨b1, c1⟩ := o1
  obtain ⟨b2, c2⟩ := o2
  unfold mt
  rw [bd_iff.2 h1, bd_iff.2 h2, bd_iff.2 h3, bd_iff.2 h4, sd_of h1 h2 h3, sd_of h1 h2 h4, sd_of h3 h4 h1, sd_of h3 h4 h2]
  simp only [Bool.and_self, cond_true]
  cases hz : (sgn (crs a b c d e f) == 0) && (sgn (crs a b c d g h) == 0) && (sgn (crs e f g h a b) == 0) && (sgn (crs e f g h c d) == 0) with
  | false =>
    show 1 ≤ nfl _ _ _ _
    unfold nfl
    rw [side_meet c1 b2 c2, side_meet c2 b1 c1]
    decide
  | true =>
    show 1 ≤ fl _ _ _ _ _ _ _ _
    rw [fl_key h1 h2 h3 h4]
    exact flk_meet (kb_K.1 (by rw [kb_box h1 h2 h5 c1]; exact b1)) (kb_K.1 (by rw [kb_box h3 h4 h5 c2]; exact b2))
theorem par {a b c d u v : Int} (h1 : a * v = b * u) (h2 : c * v = d * u) (hw : u ≠ 0 ∨ v ≠ 0) : a * d = b * c := by
  rcases hw with hw | hw
  · have : u * (a * d) = u * (b * c) := by grind
    exact Int.eq_of_mul_eq_mul_left hw this
  · have : v * (a * d) = v * (b * c) := by grind
    exact Int.eq_of_mul_eq_mul_left hw this
theorem seg_ne {a b c d x y z w : Int} (h1 : bx a b c d x y = true) (h2 : bx a b c d z w = true) (hn : ¬ (x = z ∧ y = w)) : c - a ≠ 0 ∨ d - b ≠ 0 := by
  unfold bx at h1 h2
  rw [Bool.and_eq_true, btwn_iff, btwn_iff] at h1 h2
  omega
/-- With two common points there are infinitely many. -/
theorem mt_two {a b c d e f g h x y z w : Int} (h1 : bd a b) (h2 : bd c d) (h3 : bd e f) (h4 : bd g h) (h5 : bd x y) (h6 : bd z w) (o1 : onX a b c d x y = true) (o2 : onX e f g h x y = true)
    (o3 : onX a b c d z w = true) (o4 : onX e f g h z w = true) (hn : ¬ (x = z ∧ y = w)) : mt a b c d e f g h = 2 := by
  rw [on_of h1 h2 h5, Bool.and_eq_true, beq_iff_eq, sgn_zero] at o1
  rw [on_of h3 h4 h5, Bool.and_eq_true, beq_iff_eq, sgn_zero] at o2
  rw [on_of h1 h2 h6, Bool.and_eq_true, beq_iff_eq, sgn_zero] at o3
  rw [on_of h3 h4 h6, Bool.and_eq_true, beq_iff_eq, sgn_zero] at o4
  obtain ⟨b1, c1⟩ := o1
  obtain ⟨b2, c2⟩ := o2
  obtain ⟨b3, c3⟩ := o3
  obtain ⟨b4, c4⟩ := o4
  have n1 := seg_ne b1 b3 hn
  have n2 := seg_ne b2 b4 hn
  have nw : z - x ≠ 0 ∨ w - y ≠ 0 := by omega
  -- the directions are one
  have p1 : (c - a) * (w - y) = (d - b) * (z - x) := by unfold crs at c1 c3; grind
  have p2 : (g - e) * (w - y) = (h - f) * (z - x) := by unfold crs at c2 c4; grind
  have p3 : (c - a) * (h - f) = (d - b) * (g - e) := par p1 p2 nw
  have q1 : (e - x) * (h - f) = (f - y) * (g - e) := by unfold crs at c2; grind
  have q2 : (c - a) * (f - y) = (d - b) * (e - x) := par p3 q1 n2
  have q3 : (a - x) * (d - b) = (b - y) * (c - a) := by unfold crs at c1; grind
  have q4 : (g - e) * (b - y) = (h - f) * (a - x) := par (by grind) q3 n1
  have z1 : crs a b c d e f = 0 := by unfold crs at c1 ⊢; grind
  have z2 : crs a b c d g h = 0 := by unfold crs at c1 ⊢; grind
  have z3 : crs e f g h a b = 0 := by unfold crs at c2 ⊢; grind
  have z4 : crs e f g h c d = 0 := by unfold crs at c2 ⊢; grind
  unfold mt
  rw [bd_iff.2 h1, bd_iff.2 h2, bd_iff.2 h3, bd_iff.2 h4, sd_of h1 h2 h3, sd_of h1 h2 h4, sd_of h3 h4 h1, sd_of h3 h4 h2, z1, z2, z3, z4]
  show fl _ _ _ _ _ _ _ _ = 2
  rw [fl_key h1 h2 h3 h4]
  exact flk_two (kb_K.1 (by rw [kb_box h1 h2 h5 c1]; exact b1)) (kb_K.1 (by rw [kb_box h3 h4 h5 c2]; exact b2)) (kb_K.1 (by rw [kb_box h1 h2 h6 c3]; exact b3)) (kb_K.1 (by rw [kb_box h3 h4 h6 c4]; exact b4))
    (fun e => hn ((key_eq h5 h6).2 e))
theorem crs_self1 (a b c d : Int) : crs a b c d a b = 0 := by unfold crs; rw [Int.sub_self, Int.sub_self, Int.mul_zero, Int.mul_zero]; rfl
theorem crs_self2 (a b c d : Int) : crs a b c d c d = 0 := by unfold crs; grind
theorem bx_self1 (a b c d : Int) : bx a b c d a b = true := by unfold bx; rw [Bool.and_eq_true, btwn_iff, btwn_iff]; omega
theorem bx_self2 (a b c d : Int) : bx a b c d c d = true := by unfold bx; rw [Bool.and_eq_true, btwn_iff, btwn_iff]; omega
theorem on_self1 {a b c d : Int} (h1 : bd a b) (h2 : bd c d) : onX a b c d a b = true := by rw [on_of h1 h2 h1, bx_self1, crs_self1]; rfl
theorem on_self2 {a b c d : Int} (h1 : bd a b) (h2 : bd c d) : onX a b c d c d = true := by rw [on_of h1 h2 h2, bx_self2, crs_self2]; rfl
/-- With infinitely many, an end of one is a point of the other. -/
theorem mt_end {a b c d e f g h : Int} (h1 : bd a b) (h2 : bd c d) (h3 : bd e f) (h4 : bd g h) (hm : mt a b c d e f g h = 2) :
    (onX a b c d e f = true ∨ onX a b c d g h = true ∨ onX e f g h a b = true ∨ onX e f g h c d = true) := by
  rw [mt_of h1 h2 h3 h4] at hm
  cases hz : (sgn (crs a b c d e f) == 0) && (sgn (crs a b c d g h) == 0) && (sgn (crs e f g h a b) == 0) && (sgn (crs e f g h c d) == 0) with
  | false =>
    rw [hz] at hm
    unfold nfl at hm
    revert hm
    cases decide (sgn (crs a b c d e f) * sgn (crs a b c d g h) > 0) || decide (sgn (crs e f g h a b) * sgn (crs e f g h c d) > 0) <;> intro hm <;> cases hm
  | true =>
    rw [hz] at hm
    simp only [Bool.and_eq_true] at hz
    rw [on_of h1 h2 h3, on_of h1 h2 h4, on_of h3 h4 h1, on_of h3 h4 h2, hz.1.1.1, hz.1.1.2, hz.1.2, hz.2]
    simp only [Bool.and_true]
    unfold flS at hm
    cases ha : (bx a b c d e f || bx a b c d g h || bx e f g h a b || bx e f g h c d) with
    | false => rw [ha] at hm; cases hm
    | true => simp only [Bool.or_eq_true] at ha; rcases ha with ((h | h) | h) | h <;> simp [h]
theorem mt_range (a b c d e f g h : Int) : 0 ≤ mt a b c d e f g h ∧ mt a b c d e f g h ≤ 2 := by
  unfold mt
  cases bdd a b && bdd c d && bdd e f && bdd g h
  · exact ⟨by simp, by simp⟩
  · simp only [cond_true]
    cases (sd a b c d e f == 0) && (sd a b c d g h == 0) && (sd e f g h a b == 0) && (sd e f g h c d == 0)
    · show 0 ≤ nfl _ _ _ _ ∧ nfl _ _ _ _ ≤ 2
      unfold nfl
      cases decide (sd a b c d e f * sd a b c d g h > 0) || decide (sd e f g h a b * sd e f g h c d > 0) <;> decide
    · show 0 ≤ fl _ _ _ _ _ _ _ _ ∧ fl _ _ _ _ _ _ _ _ ≤ 2
      unfold fl
      have := cmp2_range (ifI (lessP (ifI (lessP g h e f) e g) (ifI (lessP g h e f) f h) (ifI (lessP c d a b) a c) (ifI (lessP c d a b) b d)) (ifI (lessP g h e f) e g) (ifI (lessP c d a b) a c))
        (ifI (lessP (ifI (lessP g h e f) e g) (ifI (lessP g h e f) f h) (ifI (lessP c d a b) a c) (ifI (lessP c d a b) b d)) (ifI (lessP g h e f) f h) (ifI (lessP c d a b) b d))
        (ifI (lessP (ifI (lessP c d a b) c a) (ifI (lessP c d a b) d b) (ifI (lessP g h e f) g e) (ifI (lessP g h e f) h f)) (ifI (lessP g h e f) g e) (ifI (lessP c d a b) c a))
        (ifI (lessP (ifI (lessP c d a b) c a) (ifI (lessP c d a b) d b) (ifI (lessP g h e f) g e) (ifI (lessP g h e f) h f)) (ifI (lessP g h e f) h f) (ifI (lessP c d a b) d b))
      dsimp only
      omega
/-- Twice as long. -/
theorem on_twice {a b c d x y : Int} (h1 : bd a b) (h2 : bd c d) (h3 : bd x y) (k1 : bd (2 * a) (2 * b)) (k2 : bd (2 * c) (2 * d)) (k3 : bd (2 * x) (2 * y)) : onX (2 * a) (2 * b) (2 * c) (2 * d) (2 * x) (2 * y) = onX a b c d x y := by
  rw [on_of h1 h2 h3, on_of k1 k2 k3, show crs (2 * a) (2 * b) (2 * c) (2 * d) (2 * x) (2 * y) = 4 * crs a b c d x y by unfold crs; grind,
    show sgn (4 * crs a b c d x y) = sgn (crs a b c d x y) by unfold sgn; (repeat' split) <;> omega]
  congr 1
  unfold bx
  rw [Bool.eq_iff_iff, Bool.and_eq_true, Bool.and_eq_true, btwn_iff, btwn_iff, btwn_iff, btwn_iff]; omega
end Go.Hg
/- Geometry: plain laws: segments that meet nowhere, or in one point. -/
namespace Go.Hg
open Go.Hx Go.Proofs
theorem sgn_mul_not {p q : Int} (h : decide (sgn p * sgn q > 0) = false) : ¬ (0 < p ∧ 0 < q) ∧ ¬ (p < 0 ∧ q < 0) := by
  simp only [decide_eq_false_iff_not] at h
  constructor
  · rintro ⟨g1, g2⟩; apply h; unfold sgn; rw [if_neg (by omega), if_pos g1, if_neg (by omega), if_pos g2]; decide
  · rintro ⟨g1, g2⟩; apply h; unfold sgn; rw [if_pos g1, if_pos g2]; decide
/-- Segments that meet have a point in common, told by weights. -/
theorem mt_common {a b c d e f g h : Int} (h1 : bd a b) (h2 : bd c d) (h3 : bd e f) (h4 : bd g h) (hm : mt a b c d e f g h ≠ 0) :
    ∃ p q r s : Int, 0 ≤ p ∧ 0 ≤ q ∧ 0 ≤ r ∧ 0 ≤ s ∧ p + q = r + s ∧ 0 < p + q ∧ p * a + q * c = r * e + s * g ∧ p * b + q * d = r * f + s * h := by
  rw [mt_of h1 h2 h3 h4] at hm
  have w : ∀ {a b c d e f g h A B : Int}, 0 ≤ A → 0 ≤ B → 0 < A + B → (A + B) * e = A * a + B * c → (A + B) * f = A * b + B * d →
      ∃ p q r s : Int, 0 ≤ p ∧ 0 ≤ q ∧ 0 ≤ r ∧ 0 ≤ s ∧ p + q = r + s ∧ 0 < p + q ∧ p * a + q * c = r * e + s * g ∧ p * b + q * d = r * f + s * h := fun {a b c d e f g h A B} k1 k2 k3 k4 k5 =>
    ⟨A, B, A + B, 0, k1, k2, by omega, by omega, by omega, k3, by omega, by omega⟩
  cases hz : (sgn (crs a b c d e f) == 0) && (sgn (crs a b c d g h) == 0) && (sgn (crs e f g h a b) == 0) && (sgn (crs e f g h c d) == 0) with
  | true =>
    rw [hz] at hm
    simp only [Bool.and_eq_true, beq_iff_eq, sgn_zero] at hz
    unfold flS at hm
    cases ha : (bx a b c d e f || bx a b c d g h || bx e f g h a b || bx e f g h c d) with
    | false => rw [ha] at hm; exact absurd rfl hm
    | true =>
      simp only [Bool.or_eq_true] at ha
      rcases ha with ((k | k) | k) | k
      · obtain ⟨A, B, k1, k2, k3, k4, k5⟩ := on_weights k hz.1.1.1
        exact w k1 k2 k3 k4 k5
      · obtain ⟨A, B, k1, k2, k3, k4, k5⟩ := on_weights k hz.1.1.2
        exact ⟨A, B, 0, A + B, k1, k2, by omega, by omega, by omega, k3, by omega, by omega⟩
      · obtain ⟨A, B, k1, k2, k3, k4, k5⟩ := on_weights k hz.1.2
        exact ⟨A + B, 0, A, B, by omega, by omega, k1, k2, by omega, by omega, by omega, by omega⟩
      · obtain ⟨A, B, k1, k2, k3, k4, k5⟩ := on_weights k hz.2
        exact ⟨0, A + B, A, B, by omega, by omega, k1, k2, by omega, by omega, by omega, by omega⟩
  | false =>
    rw [hz] at hm
    simp only [cond_false] at hm
    unfold nfl at hm
    cases hp : decide (sgn (crs a b c d e f) * sgn (crs a b c d g h) > 0) with
    | true => rw [hp] at hm; exact absurd rfl hm
    | false =>
      cases hq : decide (sgn (crs e f g h a b) * sgn (crs e f g h c d) > 0) with
      | true => rw [hp, hq] at hm; exact absurd rfl hm
      | false =>
        obtain ⟨p1, p2⟩ := sgn_mul_not hp
        obtain ⟨q1, q2⟩ := sgn_mul_not hq
        have id1 : crs a b c d e f - crs a b c d g h = crs e f g h c d - crs e f g h a b := by unfold crs; grind
        have id2 : crs a b c d e f * g - crs a b c d g h * e = crs e f g h c d * a - crs e f g h a b * c := by unfold crs; grind
        have id3 : crs a b c d e f * h - crs a b c d g h * f = crs e f g h c d * b - crs e f g h a b * d := by unfold crs; grind
        have hnz : ¬ (crs a b c d e f = 0 ∧ crs a b c d g h = 0 ∧ crs e f g h a b = 0 ∧ crs e f g h c d = 0) := by
          rintro ⟨z1, z2, z3, z4⟩
          rw [z1, z2, z3, z4] at hz; exact absurd hz (by decide)
        generalize crs a b c d e f = A1 at *
        generalize crs a b c d g h = A2 at *
        generalize crs e f g h a b = B1 at *
        generalize crs e f g h c d = B2 at *
        rcases Int.lt_trichotomy (A1 - A2) 0 with k | k | k
        · refine ⟨-B2, B1, A2, -A1, by omega, by omega, by omega, by omega, by omega, by omega, ?_, ?_⟩
          · have e1 : -B2 * a + B1 * c = -(B2 * a - B1 * c) := by grind
            have e2 : A2 * e + -A1 * g = -(A1 * g - A2 * e) := by grind
            rw [e1, e2, id2]
          · have e1 : -B2 * b + B1 * d = -(B2 * b - B1 * d) := by grind
            have e2 : A2 * f + -A1 * h = -(A1 * h - A2 * f) := by grind
            rw [e1, e2, id3]
        · exfalso; apply hnz; omega
        · refine ⟨B2, -B1, -A2, A1, by omega, by omega, by omega, by omega, by omega, by omega, ?_, ?_⟩
          · have e1 : B2 * a + -B1 * c = B2 * a - B1 * c := by grind
            have e2 : -A2 * e + A1 * g = A1 * g - A2 * e := by grind
            rw [e1, e2, id2]
          · have e1 : B2 * b + -B1 * d = B2 * b - B1 * d := by grind
            have e2 : -A2 * f + A1 * h = A1 * h - A2 * f := by grind
            rw [e1, e2, id3]
section
variable {a b c d e f g h : Int} (h1 : bd a b) (h2 : bd c d) (h3 : bd e f) (h4 : bd g h)
include h1 h2 h3 h4
theorem mt_zero_of (k : ∀ p q r s : Int, 0 ≤ p → 0 ≤ q → 0 ≤ r → 0 ≤ s → p + q = r + s → 0 < p + q → p * a + q * c = r * e + s * g → p * b + q * d = r * f + s * h → False) : mt a b c d e f g h = 0 := by
  rcases Int.lt_trichotomy (mt a b c d e f g h) 0 with g0 | g0 | g0
  · have := mt_range a b c d e f g h; omega
  · exact g0
  · obtain ⟨p, q, r, s, k1, k2, k3, k4, k5, k6, k7, k8⟩ := mt_common h1 h2 h3 h4 (by omega)
    exact absurd (k p q r s k1 k2 k3 k4 k5 k6 k7 k8) id
/-- Left of one another. -/
theorem mt_left (g1 : a < e) (g2 : a < g) (g3 : c < e) (g4 : c < g) : mt a b c d e f g h = 0 := by
  refine mt_zero_of h1 h2 h3 h4 fun p q r s k1 k2 k3 k4 k5 k6 k7 _ => ?_
  have key : ∀ X : Int, a ≤ X → c ≤ X → X < e → X < g → False := fun X x1 x2 x3 x4 => by
    have m1 := Int.mul_le_mul_of_nonneg_left x1 k1
    have m2 := Int.mul_le_mul_of_nonneg_left x2 k2
    have m3 := Int.mul_le_mul_of_nonneg_left (show X + 1 ≤ e by omega) k3
    have m4 := Int.mul_le_mul_of_nonneg_left (show X + 1 ≤ g by omega) k4
    have e1 : p * X + q * X = (p + q) * X := by grind
    have e2 : r * (X + 1) + s * (X + 1) = (p + q) * X + (r + s) := by rw [k5]; grind
    omega
  rcases Int.le_total a c with t | t
  · exact key c t (Int.le_refl _) g3 g4
  · exact key a (Int.le_refl _) t g1 g2
theorem mt_right (g1 : e < a) (g2 : e < c) (g3 : g < a) (g4 : g < c) : mt a b c d e f g h = 0 := by
  rw [← mt_swap3 h1 h2 h3 h4]; exact mt_left h3 h4 h1 h2 g1 g2 g3 g4
end
theorem pos_zero2 {u v x y : Int} (hu : 0 ≤ u) (hv : 0 ≤ v) (hx : 0 < x) (hy : 0 < y) (h : u * x + v * y = 0) : u = 0 ∧ v = 0 := by
  have h1 := Int.mul_nonneg hu (show 0 ≤ x by omega)
  have h2 := Int.mul_nonneg hv (show 0 ≤ y by omega)
  have e1 : u * x = 0 := by omega
  have e2 : v * y = 0 := by omega
  exact ⟨by rcases Int.mul_eq_zero.1 e1 with g | g <;> omega, by rcases Int.mul_eq_zero.1 e2 with g | g <;> omega⟩
/-- One above the other, in one column. -/
theorem mt_over {x0 y0 x1 y1 h1 h0 : Int} (b1 : bd x0 y0) (b2 : bd x1 y1) (b3 : bd x1 h1) (b4 : bd x0 h0) (g1 : x0 < x1) (g2 : y0 < h0) (g3 : y1 < h1) : mt x0 y0 x1 y1 x1 h1 x0 h0 = 0 := by
  refine mt_zero_of b1 b2 b3 b4 fun p q r s k1 k2 k3 k4 k5 k6 k7 k8 => ?_
  have e : (q - r) * (x1 - x0) = 0 := by
    have : s = p + q - r := by omega
    subst this; grind
  have hqr : q = r := by rcases Int.mul_eq_zero.1 e with g | g <;> omega
  have hps : p = s := by omega
  subst hqr; subst hps
  have := pos_zero2 k1 k2 (show 0 < h0 - y0 by omega) (show 0 < h1 - y1 by omega) (by grind)
  omega
/-- In columns side by side. -/
theorem mt_next {x0 y0 X y1 x2 h2 h : Int} (b1 : bd x0 y0) (b2 : bd X y1) (b3 : bd x2 h2) (b4 : bd X h) (g1 : x0 < X) (g2 : X < x2) (g3 : y1 < h) : mt x0 y0 X y1 x2 h2 X h = 0 := by
  refine mt_zero_of b1 b2 b3 b4 fun p q r s k1 k2 k3 k4 k5 k6 k7 k8 => ?_
  have z := pos_zero2 k1 k3 (show 0 < X - x0 by omega) (show 0 < x2 - X by omega) (by
    have : s = p + q - r := by omega
    subst this; grind)
  obtain ⟨rfl, rfl⟩ := z
  have : q = s := by omega
  subst this
  have e : q * (h - y1) = 0 := by grind
  rcases Int.mul_eq_zero.1 e with g | g <;> omega
theorem mt_prev {X y1 x2 y2 h x0 h0 : Int} (b1 : bd X y1) (b2 : bd x2 y2) (b3 : bd X h) (b4 : bd x0 h0) (g1 : x0 < X) (g2 : X < x2) (g3 : y1 < h) : mt X y1 x2 y2 X h x0 h0 = 0 := by
  refine mt_zero_of b1 b2 b3 b4 fun p q r s k1 k2 k3 k4 k5 k6 k7 k8 => ?_
  have z := pos_zero2 k2 k4 (show 0 < x2 - X by omega) (show 0 < X - x0 by omega) (by
    have : r = p + q - s := by omega
    subst this; grind)
  obtain ⟨rfl, rfl⟩ := z
  have : p = r := by omega
  subst this
  have e : p * (h - y1) = 0 := by grind
  rcases Int.mul_eq_zero.1 e with g | g <;> omega
/-- One behind the other. -/
theorem mt_chain {a b c d g h : Int} (b1 : bd a b) (b2 : bd c d) (b4 : bd g h) (k : (a < c ∧ c < g) ∨ (g < c ∧ c < a) ∨ crs a b c d g h ≠ 0) : mt a b c d c d g h = 1 := by
  rw [mt_of b1 b2 b2 b4]
  have z1 : crs a b c d c d = 0 := crs_self2 a b c d
  have z4 : crs c d g h c d = 0 := crs_self1 c d g h
  have id1 : crs c d g h a b = crs a b c d g h := by unfold crs; grind
  rw [z1, z4, id1]
  by_cases hc : crs a b c d g h = 0
  · rw [hc]
    have o1 : bx a b c d c d = true := bx_self2 a b c d
    have o4 : bx c d g h c d = true := bx_self1 c d g h
    have o2 : bx a b c d g h = false := by
      rw [Bool.eq_false_iff]; intro t; unfold bx at t; rw [Bool.and_eq_true, btwn_iff, btwn_iff] at t; omega
    have o3 : bx c d g h a b = false := by
      rw [Bool.eq_false_iff]; intro t; unfold bx at t; rw [Bool.and_eq_true, btwn_iff, btwn_iff] at t; omega
    rw [o1, o2, o3, o4]
    have e1 : eqP c d g h = false := by unfold eqP; simp; omega
    have e2 : eqP a b c d = false := by unfold eqP; simp; omega
    have e3 : eqP c d a b = false := by unfold eqP; simp; omega
    have e4 : eqP c d c d = true := by unfold eqP; simp
    have e5 : eqP g h a b = false := by unfold eqP; simp; omega
    have e6 : eqP g h c d = false := by unfold eqP; simp; omega
    rw [e1, e2, e3, e4, e5, e6]
    decide
  · have hs : (sgn (crs a b c d g h) == 0) = false := by
      rw [Bool.eq_false_iff]; intro t; rw [beq_iff_eq, sgn_zero] at t; exact hc t
    rw [hs]
    unfold nfl
    simp [show sgn 0 = 0 from rfl]
/-- The last one and the first one. -/
theorem mt_ring {a b c d e f : Int} (b1 : bd a b) (b2 : bd c d) (b3 : bd e f) (k : crs a b c d e f ≠ 0) : mt a b c d e f a b = 1 := by
  rw [mt_of b1 b2 b3 b1]
  have z2 : crs a b c d a b = 0 := crs_self1 a b c d
  have z3 : crs e f a b a b = 0 := crs_self2 e f a b
  have hs : (sgn (crs a b c d e f) == 0) = false := by
    rw [Bool.eq_false_iff]; intro t; rw [beq_iff_eq, sgn_zero] at t; exact k t
  rw [z2, z3, hs]
  unfold nfl
  simp [show sgn 0 = 0 from rfl]
end Go.Hg
/- Geometry: LineCorners: the plain law: triangles, what touches them. -/
namespace Go.Hg
open Go.Hx Go.Proofs
def in3 (p q r : Int) : Bool := decide (W (mn2 (mn2 p q) r * mx2 (mx2 p q) r) ≥ 0)
def pls (p q r : Int) : Bool := decide (0 < p) || (decide (0 < q) || decide (0 < r))
def mns (p q r : Int) : Bool := decide (p < 0) || (decide (q < 0) || decide (r < 0))
theorem in3_eq {p q r : Int} (h1 : -1 ≤ p ∧ p ≤ 1) (h2 : -1 ≤ q ∧ q ≤ 1) (h3 : -1 ≤ r ∧ r ≤ 1) : in3 p q r = !(mns p q r && pls p q r) := by
  have hp : p = -1 ∨ p = 0 ∨ p = 1 := by omega
  have hq : q = -1 ∨ q = 0 ∨ q = 1 := by omega
  have hr : r = -1 ∨ r = 0 ∨ r = 1 := by omega
  rcases hp with rfl | rfl | rfl <;> rcases hq with rfl | rfl | rfl <;> rcases hr with rfl | rfl | rfl <;> rfl
theorem inTr_def (a b c d e f x y : Int) : inTr a b c d e f x y = bif decide (sd a b c d e f = 0) then (onX a b c d x y || (onX c d e f x y || onX e f a b x y)) else in3 (sd a b c d x y) (sd c d e f x y) (sd e f a b x y) := rfl
theorem or3_rot (p q r : Bool) : (q || (r || p)) = (p || (q || r)) := by cases p <;> cases q <;> cases r <;> rfl
theorem or3_rev (p q r : Bool) : (q || (p || r)) = (p || (q || r)) := by cases p <;> cases q <;> cases r <;> rfl
theorem inTr_rot (a b c d e f x y : Int) : inTr c d e f a b x y = inTr a b c d e f x y := by
  rw [inTr_def, inTr_def, sd_turn a b c d e f, in3_eq (sd_range ..) (sd_range ..) (sd_range ..), in3_eq (sd_range ..) (sd_range ..) (sd_range ..)]
  unfold mns pls
  rw [or3_rot (onX a b c d x y), or3_rot (decide (sd a b c d x y < 0)), or3_rot (decide (0 < sd a b c d x y))]
theorem on_swap {a b c d x y : Int} (h1 : bd a b) (h2 : bd c d) (h3 : bd x y) : onX c d a b x y = onX a b c d x y := by
  rw [← mt_on, ← mt_on, mt_swap1 h1 h2 h3 h3]
theorem dneg0 (n : Int) : decide (-n = 0) = decide (n = 0) := by rw [decide_eq_decide]; omega
theorem dneg1 (n : Int) : decide (-n < 0) = decide (0 < n) := by rw [decide_eq_decide]; omega
theorem dneg2 (n : Int) : decide (0 < -n) = decide (n < 0) := by rw [decide_eq_decide]; omega
theorem rng_neg {n : Int} (h : -1 ≤ n ∧ n ≤ 1) : -1 ≤ -n ∧ -n ≤ 1 := by omega
section
variable {a b c d e f x y : Int} (h1 : bd a b) (h2 : bd c d) (h3 : bd e f) (h4 : bd x y)
include h1 h2 h3 h4
theorem inTr_rev : inTr e f c d a b x y = inTr a b c d e f x y := by
  rw [inTr_def, inTr_def, sd_swap c d e f a b, sd_turn a b c d e f, sd_swap c d e f x y, sd_swap a b c d x y, sd_swap e f a b x y, dneg0,
    in3_eq (rng_neg (sd_range ..)) (rng_neg (sd_range ..)) (rng_neg (sd_range ..)), in3_eq (sd_range ..) (sd_range ..) (sd_range ..), on_swap h2 h3 h4, on_swap h1 h2 h4, on_swap h3 h1 h4]
  unfold mns pls
  rw [dneg1, dneg1, dneg1, dneg2, dneg2, dneg2, or3_rev (onX a b c d x y), or3_rev (decide (sd a b c d x y < 0)), or3_rev (decide (0 < sd a b c d x y)), Bool.and_comm]
theorem inTr_box (h : inTr a b c d e f x y = true) : ¬ (a < x ∧ c < x ∧ e < x) ∧ ¬ (x < a ∧ x < c ∧ x < e) ∧ ¬ (b < y ∧ d < y ∧ f < y) ∧ ¬ (y < b ∧ y < d ∧ y < f) := by
  rw [inTr_def] at h
  by_cases hD : sd a b c d e f = 0
  · rw [decide_eq_true hD, cond_true, Bool.or_eq_true, Bool.or_eq_true, on_of h1 h2 h4, on_of h2 h3 h4, on_of h3 h1 h4] at h
    unfold bx at h
    simp only [Bool.and_eq_true, btwn_iff] at h
    omega
  · rw [decide_eq_false hD, cond_false, in3_eq (sd_range ..) (sd_range ..) (sd_range ..)] at h
    rw [sd_of h1 h2 h3, sgn_zero] at hD
    rw [sd_of h1 h2 h4, sd_of h2 h3 h4, sd_of h3 h1 h4] at h
    refine tri_box (a := a) (b := b) (c := c) (d := d) (e := e) (f := f) hD ?_
    show (0 ≤ crs a b c d x y ∧ 0 ≤ crs c d e f x y ∧ 0 ≤ crs e f a b x y) ∨ (crs a b c d x y ≤ 0 ∧ crs c d e f x y ≤ 0 ∧ crs e f a b x y ≤ 0)
    generalize crs a b c d x y = p at *
    generalize crs c d e f x y = q at *
    generalize crs e f a b x y = r at *
    unfold mns pls at h
    simp only [Bool.not_eq_true', Bool.and_eq_false_iff, Bool.or_eq_false_iff, decide_eq_false_iff_not, sgn_lt, sgn_gt] at h
    omega
end
section
variable {a b c d e f : Int} (h1 : bd a b) (h2 : bd c d) (h3 : bd e f)
include h1 h2 h3
theorem inTr_a : inTr a b c d e f a b = true := by
  rw [inTr_def]
  by_cases hD : sd a b c d e f = 0
  · rw [decide_eq_true hD, cond_true, on_self1 h1 h2]; rfl
  · have r := sd_range a b c d e f
    rw [decide_eq_false hD, cond_false, in3_eq (sd_range ..) (sd_range ..) (sd_range ..), sd_turn a b c d e f, sd_of h1 h2 h1, sd_of h3 h1 h1, crs_self1, crs_self2]
    have hs : sd a b c d e f = -1 ∨ sd a b c d e f = 1 := by omega
    rcases hs with hs | hs <;> rw [hs] <;> rfl
theorem inTr_c : inTr a b c d e f c d = true := by rw [← inTr_rot]; exact inTr_a h2 h3 h1
theorem inTr_e : inTr a b c d e f e f = true := by rw [← inTr_rot, ← inTr_rot]; exact inTr_a h3 h1 h2
end
section
variable {a b c d e f g h : Int} (h1 : bd a b) (h2 : bd c d) (h3 : bd e f) (h4 : bd g h)
include h1 h2 h3 h4
theorem mt_below (g1 : b < f) (g2 : b < h) (g3 : d < f) (g4 : d < h) : mt a b c d e f g h = 0 := by
  refine mt_zero_of h1 h2 h3 h4 fun p q r s k1 k2 k3 k4 k5 k6 _ k7 => ?_
  have key : ∀ X : Int, b ≤ X → d ≤ X → X < f → X < h → False := fun X x1 x2 x3 x4 => by
    have m1 := Int.mul_le_mul_of_nonneg_left x1 k1
    have m2 := Int.mul_le_mul_of_nonneg_left x2 k2
    have m3 := Int.mul_le_mul_of_nonneg_left (show X + 1 ≤ f by omega) k3
    have m4 := Int.mul_le_mul_of_nonneg_left (show X + 1 ≤ h by omega) k4
    have e1 : p * X + q * X = (p + q) * X := by grind
    have e2 : r * (X + 1) + s * (X + 1) = (p + q) * X + (r + s) := by rw [k5]; grind
    omega
  rcases Int.le_total b d with t | t
  · exact key d t (Int.le_refl _) g3 g4
  · exact key b (Int.le_refl _) t g1 g2
theorem mt_above (g1 : f < b) (g2 : f < d) (g3 : h < b) (g4 : h < d) : mt a b c d e f g h = 0 := by
  rw [← mt_swap3 h1 h2 h3 h4]; exact mt_below h3 h4 h1 h2 g1 g2 g3 g4
end
/-- An end in the triangle that is neither of two corners. -/
def tEnd (a b c d e f x y : Int) : Bool := !(a == x && b == y) && (!(e == x && f == y) && inTr a b c d e f x y)
/-- A point of both segments. -/
def tOn (x y u v p q r s a b : Int) : Bool := onX x y u v a b && onX p q r s a b
/-- A side that the segment meets. -/
def tSide (a b e f x y u v p q r s : Int) : Bool :=
  decide (mt x y u v p q r s > 1) || ((mt x y u v p q r s == 1) && (!tOn x y u v p q r s a b && !tOn x y u v p q r s e f))
def tch (a b c d e f x y u v : Int) : Bool :=
  tEnd a b c d e f x y || (tEnd a b c d e f u v || (tSide a b e f x y u v a b c d || (tSide a b e f x y u v c d e f || tSide a b e f x y u v e f a b)))
section
variable {a b e f x y u v p q r s : Int} (h1 : bd a b) (h3 : bd e f) (h4 : bd x y) (h5 : bd u v) (h6 : bd p q) (h7 : bd r s)
include h1 h3 h4 h5 h6 h7
theorem tSide_seg : tSide a b e f u v x y p q r s = tSide a b e f x y u v p q r s := by
  unfold tSide tOn
  rw [mt_swap1 h4 h5 h6 h7, on_swap h4 h5 h1, on_swap h4 h5 h3]
theorem tSide_side : tSide a b e f x y u v r s p q = tSide a b e f x y u v p q r s := by
  unfold tSide tOn
  rw [mt_swap2 h4 h5 h6 h7, on_swap h6 h7 h1, on_swap h6 h7 h3]
end
theorem tSide_no' {a b e f x y u v p q r s : Int} (h : mt x y u v p q r s = 0) : tSide a b e f x y u v p q r s = false := by unfold tSide; rw [h]; rfl
theorem no_of {b : Bool} {p : Prop} (h : b = true → p) (n : ¬ p) : b = false := by
  cases b with
  | false => rfl
  | true => exact absurd (h rfl) n
theorem tSide_ends (a b e f x y u v p q r s : Int) : tSide e f a b x y u v p q r s = tSide a b e f x y u v p q r s := by
  unfold tSide; rw [Bool.and_comm (!tOn x y u v p q r s e f)]
section
variable {a b c d e f x y u v : Int} (h1 : bd a b) (h2 : bd c d) (h3 : bd e f) (h4 : bd x y) (h5 : bd u v)
include h1 h2 h3 h4 h5
theorem tch_swap : tch a b c d e f u v x y = tch a b c d e f x y u v := by
  unfold tch
  rw [tSide_seg h1 h3 h4 h5 h1 h2, tSide_seg h1 h3 h4 h5 h2 h3, tSide_seg h1 h3 h4 h5 h3 h1, ← Bool.or_assoc, Bool.or_comm (tEnd a b c d e f u v), Bool.or_assoc]
omit h4 h5 in
theorem tEnd_rev {x y : Int} (h4 : bd x y) : tEnd e f c d a b x y = tEnd a b c d e f x y := by
  unfold tEnd
  rw [inTr_rev h1 h2 h3 h4]
  cases (a == x && b == y) <;> cases (e == x && f == y) <;> rfl
theorem tch_rev : tch e f c d a b x y u v = tch a b c d e f x y u v := by
  unfold tch
  rw [tEnd_rev h1 h2 h3 h4, tEnd_rev h1 h2 h3 h5, tSide_ends a b e f x y u v e f c d, tSide_ends a b e f x y u v c d a b, tSide_ends a b e f x y u v a b e f, tSide_side h1 h3 h4 h5 h2 h3, tSide_side h1 h3 h4 h5 h1 h2, tSide_side h1 h3 h4 h5 h3 h1]
  cases tSide a b e f x y u v a b c d <;> cases tSide a b e f x y u v c d e f <;> rfl
omit h1 h2 h3 h4 h5 in
theorem tch_in (h : inTr a b c d e f x y = true) (n1 : ¬ (a = x ∧ b = y)) (n2 : ¬ (e = x ∧ f = y)) : tch a b c d e f x y u v = true := by
  have : tEnd a b c d e f x y = true := by
    unfold tEnd
    rw [h]
    simp only [Bool.and_true, Bool.and_eq_true, Bool.not_eq_true', Bool.and_eq_false_iff, beq_eq_false_iff_ne]
    omega
  unfold tch; rw [this]; rfl
theorem tch_far (g : (x < a ∧ x < c ∧ x < e ∧ u < a ∧ u < c ∧ u < e) ∨ (a < x ∧ c < x ∧ e < x ∧ a < u ∧ c < u ∧ e < u) ∨ (y < b ∧ y < d ∧ y < f ∧ v < b ∧ v < d ∧ v < f) ∨ (b < y ∧ d < y ∧ f < y ∧ b < v ∧ d < v ∧ f < v)) : tch a b c d e f x y u v = false := by
  have i1 : inTr a b c d e f x y = false := no_of (inTr_box h1 h2 h3 h4) (by omega)
  have i2 : inTr a b c d e f u v = false := no_of (inTr_box h1 h2 h3 h5) (by omega)
  have k1 : tEnd a b c d e f x y = false := by unfold tEnd; rw [i1]; simp
  have k2 : tEnd a b c d e f u v = false := by unfold tEnd; rw [i2]; simp
  unfold tch
  rw [k1, k2]
  rcases g with g | g | g | g
  · rw [tSide_no' (mt_left h4 h5 h1 h2 g.1 g.2.1 g.2.2.2.1 g.2.2.2.2.1), tSide_no' (mt_left h4 h5 h2 h3 g.2.1 g.2.2.1 g.2.2.2.2.1 g.2.2.2.2.2), tSide_no' (mt_left h4 h5 h3 h1 g.2.2.1 g.1 g.2.2.2.2.2 g.2.2.2.1)]; rfl
  · rw [tSide_no' (mt_right h4 h5 h1 h2 g.1 g.2.2.2.1 g.2.1 g.2.2.2.2.1), tSide_no' (mt_right h4 h5 h2 h3 g.2.1 g.2.2.2.2.1 g.2.2.1 g.2.2.2.2.2), tSide_no' (mt_right h4 h5 h3 h1 g.2.2.1 g.2.2.2.2.2 g.1 g.2.2.2.1)]; rfl
  · rw [tSide_no' (mt_below h4 h5 h1 h2 g.1 g.2.1 g.2.2.2.1 g.2.2.2.2.1), tSide_no' (mt_below h4 h5 h2 h3 g.2.1 g.2.2.1 g.2.2.2.2.1 g.2.2.2.2.2), tSide_no' (mt_below h4 h5 h3 h1 g.2.2.1 g.1 g.2.2.2.2.2 g.2.2.2.1)]; rfl
  · rw [tSide_no' (mt_above h4 h5 h1 h2 g.1 g.2.2.2.1 g.2.1 g.2.2.2.2.1), tSide_no' (mt_above h4 h5 h2 h3 g.2.1 g.2.2.2.2.1 g.2.2.1 g.2.2.2.2.2), tSide_no' (mt_above h4 h5 h3 h1 g.2.2.1 g.2.2.2.2.2 g.1 g.2.2.2.1)]; rfl
end
end Go.Hg
/- Geometry: LineCorners: line.Touches: its two loops as contracts. -/
namespace Go.Hg
open Go.Hx Go.Proofs
abbrev Pt1 : X1 := .agg [I64, I64]
abbrev Sg1 : X1 := .agg [I64, I64, I64, I64]
abbrev rowsP : List Y1 := [.one 23 2 Pt1, .one 23 2 Pt1, .one 23 2 Pt1, .one 23 2 Pt1, .one 23 2 Pt1, .many 23 2, .many 23 2]
abbrev ptrs : List (Nat × X1) := [(5, .ptr 0 1 0 0), (6, .ptr 1 1 0 0), (7, .ptr 2 1 0 0), (8, .ptr 3 1 0 0), (9, .ptr 4 1 0 0)]
abbrev ptrS : List (Nat × PV) := [(5, .ptr 0 1 0 0), (6, .ptr 1 1 0 0), (7, .ptr 2 1 0 0), (8, .ptr 3 1 0 0), (9, .ptr 4 1 0 0)]
def shTa : S1 := ⟨91, ptrs ++ [(28, .sl 6), (29, I64), (30, I64)], rowsP⟩
abbrev rowsV (a b c d e f x y u v : Int) (es : List PV) (nl : Bool) : List L1 := [.i a, .i b, .i c, .i d, .i e, .i f, .i x, .i y, .i u, .i v, .l nl es, .l false [ptv x y, ptv u v]]
abbrev sTa (a b c d e f x y u v : Int) (es : List PV) (nl : Bool) (i : Int) : LS := ([.n 2, .n 2, .i 2, .i i], rowsV a b c d e f x y u v es nl)
abbrev rowsO (a b c d e f x y u v : Int) (es : List PV) (nl : Bool) : List Row := Y1.puts rowsP (rowsV a b c d e f x y u v es nl)
def endR {α : Type} (a b c d e f x y : Int) (t k : α) : α :=
  bif !((x == a) && ((y == b) && true)) then (bif !((x == e) && ((y == f) && true)) then (bif inTr a b c d e f x y then t else k) else k) else k
theorem endR_eq {α : Type} (a b c d e f x y : Int) (t k : α) : endR a b c d e f x y t k = bif tEnd a b c d e f x y then t else k := by
  unfold endR tEnd
  have ec : ∀ p q : Int, (p == q) = (q == p) := fun p q => by rw [Bool.eq_iff_iff, beq_iff_eq, beq_iff_eq]; exact ⟨Eq.symm, Eq.symm⟩
  rw [ec x a, ec y b, ec x e, ec y f]
  cases (a == x) <;> cases (b == y) <;> cases (e == x) <;> cases (f == y) <;> cases inTr a b c d e f x y <;> rfl
theorem qTa0 (a b c d e f x y u v : Int) (es : List PV) (nl : Bool) : runB Try.prog C3 60 77 (lpb Try.f77 4) [5, 6, 7, 8, 9, 28, 29, 30] [5, 6, 7, 8, 9, 10] (shTa.put (sTa a b c d e f x y u v es nl 0)).1 (shTa.put (sTa a b c d e f x y u v es nl 0)).2 =
  endR a b c d e f x y (some (.ret, tm 91 (ptrS ++ [(10, bv true)]), rowsO a b c d e f x y u v es nl)) (some (.normal, shTa.put (sTa a b c d e f x y u v es nl 1))) := by kernel_rfl
theorem qTa1 (a b c d e f x y u v : Int) (es : List PV) (nl : Bool) : runB Try.prog C3 60 77 (lpb Try.f77 4) [5, 6, 7, 8, 9, 28, 29, 30] [5, 6, 7, 8, 9, 10] (shTa.put (sTa a b c d e f x y u v es nl 1)).1 (shTa.put (sTa a b c d e f x y u v es nl 1)).2 =
  endR a b c d e f u v (some (.ret, tm 91 (ptrS ++ [(10, bv true)]), rowsO a b c d e f x y u v es nl)) (some (.normal, shTa.put (sTa a b c d e f x y u v es nl 2))) := by kernel_rfl
theorem qTa2 (a b c d e f x y u v : Int) (es : List PV) (nl : Bool) : runB Try.prog C3 60 77 (lpb Try.f77 4) [5, 6, 7, 8, 9, 28, 29, 30] [5, 6, 7, 8, 9, 10] (shTa.put (sTa a b c d e f x y u v es nl 2)).1 (shTa.put (sTa a b c d e f x y u v es nl 2)).2 =
  some (.exit 0, tm 91 ptrS, rowsO a b c d e f x y u v es nl) := by kernel_rfl
def stTa : LS → Option (Int × Int × Int × Int × Int × Int × Int × Int × Int × Int × Bool × List PV × Int)
  | ([.n 2, .n 2, .i 2, .i i], [.i a, .i b, .i c, .i d, .i e, .i f, .i x, .i y, .i u, .i v, .l nl es, .l false [.agg [.val (.int .i64 _), .val (.int .i64 _)], .agg [.val (.int .i64 _), .val (.int .i64 _)]]]) =>
    some (a, b, c, d, e, f, x, y, u, v, nl, es, i)
  | _ => none
def eqTa : LS → Bool
  | ([.n 2, .n 2, .i 2, .i _], [.i _, .i _, .i _, .i _, .i _, .i _, .i x, .i y, .i u, .i v, .l _ _, .l false [.agg [.val (.int .i64 x'), .val (.int .i64 y')], .agg [.val (.int .i64 u'), .val (.int .i64 v')]]]) => x == x' && (y == y' && (u == u' && v == v'))
  | _ => false
theorem stTa_eq {s : LS} {a b c d e f x y u v i : Int} {nl : Bool} {es : List PV} (h : stTa s = some (a, b, c, d, e, f, x, y, u, v, nl, es, i)) (h2 : eqTa s = true) : s = sTa a b c d e f x y u v es nl i := by
  unfold stTa at h
  split at h
  · simp only [eqTa, Bool.and_eq_true, beq_iff_eq] at h2
    obtain ⟨rfl, rfl, rfl, rfl⟩ := h2; cases h; rfl
  · cases h
def preTa (s : LS) : Bool := eqTa s && match stTa s with | some (_, _, _, _, _, _, _, _, _, _, _, _, i) => i == 0 || (i == 1 || i == 2) | none => false
def finTa (s : LS) : DT (PX × List PV × List Row) :=
  match stTa s with
  | some (a, b, c, d, e, f, x, y, u, v, nl, es, i) =>
    .br (bif i == 0 then tEnd a b c d e f x y || tEnd a b c d e f u v else bif i == 1 then tEnd a b c d e f u v else false)
      (.leaf (.ret, tm 91 (ptrS ++ [(10, bv true)]), rowsO a b c d e f x y u v es nl)) (.leaf (.exit 0, tm 91 ptrS, rowsO a b c d e f x y u v es nl))
  | none => .no
def mTa (s : LS) : Nat := match stTa s with | some (_, _, _, _, _, _, _, _, _, _, _, _, i) => (2 - i).toNat | none => 0
theorem stTa_st (a b c d e f x y u v : Int) (es : List PV) (nl : Bool) (i : Int) : stTa (sTa a b c d e f x y u v es nl i) = some (a, b, c, d, e, f, x, y, u, v, nl, es, i) := rfl
theorem eqTa_st (a b c d e f x y u v : Int) (es : List PV) (nl : Bool) (i : Int) : eqTa (sTa a b c d e f x y u v es nl i) = true := by
  show (x == x && (y == y && (u == u && v == v))) = true; simp
theorem stepTa : ∀ s r, preTa s = true → (finTa s).run = some r → r.1 ≠ .normal ∧ (runB Try.prog C3 60 77 (lpb Try.f77 4) [5, 6, 7, 8, 9, 28, 29, 30] [5, 6, 7, 8, 9, 10] (shTa.put s).1 (shTa.put s).2 = some r ∨
      ∃ s', runB Try.prog C3 60 77 (lpb Try.f77 4) [5, 6, 7, 8, 9, 28, 29, 30] [5, 6, 7, 8, 9, 10] (shTa.put s).1 (shTa.put s).2 = some (.normal, shTa.put s') ∧ preTa s' = true ∧ mTa s' < mTa s ∧ (finTa s').run = some r) := by
  intro s r hp hr
  unfold preTa at hp
  rw [Bool.and_eq_true] at hp
  obtain ⟨hq, hp⟩ := hp
  split at hp
  · rename_i a b c d e f x y u v nl es i hs
    obtain rfl := stTa_eq hs hq
    unfold finTa at hr
    rw [stTa_st] at hr
    have hr' := run_br2 hr
    have h3 : i = 0 ∨ i = 1 ∨ i = 2 := by simpa using hp
    refine ⟨by rw [hr']; generalize (bif i == 0 then _ else _ : Bool) = q; cases q <;> simp, ?_⟩
    rcases h3 with rfl | rfl | rfl
    · rw [qTa0, endR_eq]
      cases h1 : tEnd a b c d e f x y with
      | true => rw [h1] at hr'; exact .inl (by rw [hr']; rfl)
      | false =>
        rw [h1] at hr'
        refine .inr ⟨_, rfl, by unfold preTa; rw [eqTa_st, stTa_st]; rfl, by unfold mTa; rw [stTa_st, stTa_st]; dsimp only; decide, ?_⟩
        unfold finTa; rw [stTa_st, hr']
        dsimp only
        cases tEnd a b c d e f u v <;> rfl
    · rw [qTa1, endR_eq]
      cases h1 : tEnd a b c d e f u v with
      | true => rw [h1] at hr'; exact .inl (by rw [hr']; rfl)
      | false =>
        rw [h1] at hr'
        refine .inr ⟨_, rfl, by unfold preTa; rw [eqTa_st, stTa_st]; rfl, by unfold mTa; rw [stTa_st, stTa_st]; dsimp only; decide, ?_⟩
        unfold finTa; rw [stTa_st, hr']
        rfl
    · rw [qTa2]; exact .inl (by rw [hr']; rfl)
  · cases hp
noncomputable def C4 : EnvK := C3.addW 77 4 [5, 6, 7, 8, 9, 28, 29, 30] [] shTa preTa finTa
theorem okC4 : EnvOK Try.prog C4.env :=
  okC3.addW (n := 60) Try.func77 (show Try.f77.body = some (bod Try.f77) by kernel_rfl) (show (loops (bod Try.f77)).filter (fun b => rid b == 4) = [lpb Try.f77 4] by kernel_rfl) [5, 6, 7, 8, 9, 28, 29, 30] [5, 6, 7, 8, 9, 10] [] shTa mTa stepTa
end Go.Hg
/- Geometry: LineCorners: line.Touches' second loop as a contract. -/
namespace Go.Hg
open Go.Hx Go.Proofs
def shTb : S1 := ⟨91, [(5, .ptr 0 1 0 0), (7, .ptr 2 1 0 0), (13, .ptr 7 1 0 0), (62, .sl 8), (63, I64), (64, I64)], rowsP ++ [.one 135 4 Sg1, .many 135 4]⟩
abbrev sgv (a b c d : Int) : PV := .agg [iv a, iv b, iv c, iv d]
abbrev rowsW (a b c d e f x y u v : Int) (es : List PV) (nl : Bool) : List L1 := rowsV a b c d e f x y u v es nl ++ [.i x, .i y, .i u, .i v, .l false [sgv a b c d, sgv c d e f, sgv e f a b]]
abbrev sTb (a b c d e f x y u v : Int) (es : List PV) (nl : Bool) (i : Int) : LS := ([.n 3, .n 3, .i 3, .i i], rowsW a b c d e f x y u v es nl)
abbrev rowsOb (a b c d e f x y u v : Int) (es : List PV) (nl : Bool) : List Row := Y1.puts shTb.H (rowsW a b c d e f x y u v es nl)
def sideR {α : Type} (a b e f x y u v p q r s : Int) (t k : α) : α :=
  bif decide (mt x y u v p q r s > 1) then t else bif mt x y u v p q r s == 1 then
    (bif onX x y u v a b then (bif !onX p q r s a b then (bif onX x y u v e f then (bif !onX p q r s e f then t else k) else t) else k) else (bif onX x y u v e f then (bif !onX p q r s e f then t else k) else t))
  else k
theorem sideR_eq {α : Type} (a b e f x y u v p q r s : Int) (t k : α) : sideR a b e f x y u v p q r s t k = bif tSide a b e f x y u v p q r s then t else k := by
  unfold sideR tSide tOn
  cases decide (mt x y u v p q r s > 1) <;> cases (mt x y u v p q r s == 1) <;> cases onX x y u v a b <;> cases onX p q r s a b <;> cases onX x y u v e f <;> cases onX p q r s e f <;> rfl
theorem qTb0 (a b c d e f x y u v : Int) (es : List PV) (nl : Bool) : runB Try.prog C4 60 77 (lpb Try.f77 11) [5, 7, 13, 62, 63, 64] [10] (shTb.put (sTb a b c d e f x y u v es nl 0)).1 (shTb.put (sTb a b c d e f x y u v es nl 0)).2 =
  sideR a b e f x y u v a b c d (some (.ret, tm 91 [(10, bv true)], rowsOb a b c d e f x y u v es nl)) (some (.normal, shTb.put (sTb a b c d e f x y u v es nl 1))) := by kernel_rfl
theorem qTb1 (a b c d e f x y u v : Int) (es : List PV) (nl : Bool) : runB Try.prog C4 60 77 (lpb Try.f77 11) [5, 7, 13, 62, 63, 64] [10] (shTb.put (sTb a b c d e f x y u v es nl 1)).1 (shTb.put (sTb a b c d e f x y u v es nl 1)).2 =
  sideR a b e f x y u v c d e f (some (.ret, tm 91 [(10, bv true)], rowsOb a b c d e f x y u v es nl)) (some (.normal, shTb.put (sTb a b c d e f x y u v es nl 2))) := by kernel_rfl
theorem qTb2 (a b c d e f x y u v : Int) (es : List PV) (nl : Bool) : runB Try.prog C4 60 77 (lpb Try.f77 11) [5, 7, 13, 62, 63, 64] [10] (shTb.put (sTb a b c d e f x y u v es nl 2)).1 (shTb.put (sTb a b c d e f x y u v es nl 2)).2 =
  sideR a b e f x y u v e f a b (some (.ret, tm 91 [(10, bv true)], rowsOb a b c d e f x y u v es nl)) (some (.normal, shTb.put (sTb a b c d e f x y u v es nl 3))) := by kernel_rfl
theorem qTb3 (a b c d e f x y u v : Int) (es : List PV) (nl : Bool) : runB Try.prog C4 60 77 (lpb Try.f77 11) [5, 7, 13, 62, 63, 64] [10] (shTb.put (sTb a b c d e f x y u v es nl 3)).1 (shTb.put (sTb a b c d e f x y u v es nl 3)).2 =
  some (.exit 2, tm 91 [], rowsOb a b c d e f x y u v es nl) := by kernel_rfl
def stTb : LS → Option (Int × Int × Int × Int × Int × Int × Int × Int × Int × Int × Bool × List PV × Int)
  | ([.n 3, .n 3, .i 3, .i i], [.i a, .i b, .i c, .i d, .i e, .i f, .i x, .i y, .i u, .i v, .l nl es, .l false [.agg [.val (.int .i64 _), .val (.int .i64 _)], .agg [.val (.int .i64 _), .val (.int .i64 _)]],
      .i _, .i _, .i _, .i _, .l false [.agg [.val (.int .i64 _), .val (.int .i64 _), .val (.int .i64 _), .val (.int .i64 _)], .agg [.val (.int .i64 _), .val (.int .i64 _), .val (.int .i64 _), .val (.int .i64 _)], .agg [.val (.int .i64 _), .val (.int .i64 _), .val (.int .i64 _), .val (.int .i64 _)]]]) =>
    some (a, b, c, d, e, f, x, y, u, v, nl, es, i)
  | _ => none
def eqTb : LS → Bool
  | ([.n 3, .n 3, .i 3, .i _], [.i a, .i b, .i c, .i d, .i e, .i f, .i x, .i y, .i u, .i v, .l _ _, .l false [.agg [.val (.int .i64 x'), .val (.int .i64 y')], .agg [.val (.int .i64 u'), .val (.int .i64 v')]],
      .i x2, .i y2, .i u2, .i v2, .l false [.agg [.val (.int .i64 a1), .val (.int .i64 b1), .val (.int .i64 c1), .val (.int .i64 d1)], .agg [.val (.int .i64 c2), .val (.int .i64 d2), .val (.int .i64 e2), .val (.int .i64 f2)], .agg [.val (.int .i64 e3), .val (.int .i64 f3), .val (.int .i64 a3), .val (.int .i64 b3)]]]) => x == x' && (y == y' && (u == u' && (v == v' && (x == x2 && (y == y2 && (u == u2 && (v == v2 && (a == a1 && (b == b1 && (c == c1 && (d == d1 && (c == c2 && (d == d2 && (e == e2 && (f == f2 && (e == e3 && (f == f3 && (a == a3 && b == b3))))))))))))))))))
  | _ => false
theorem stTb_eq {s : LS} {a b c d e f x y u v i : Int} {nl : Bool} {es : List PV} (h : stTb s = some (a, b, c, d, e, f, x, y, u, v, nl, es, i)) (h2 : eqTb s = true) : s = sTb a b c d e f x y u v es nl i := by
  unfold stTb at h
  split at h
  · simp only [eqTb, Bool.and_eq_true, beq_iff_eq] at h2
    obtain ⟨rfl, rfl, rfl, rfl, rfl, rfl, rfl, rfl, rfl, rfl, rfl, rfl, rfl, rfl, rfl, rfl, rfl, rfl, rfl, rfl⟩ := h2; cases h; rfl
  · cases h
def preTb (s : LS) : Bool := eqTb s && match stTb s with | some (_, _, _, _, _, _, _, _, _, _, _, _, i) => i == 0 || (i == 1 || (i == 2 || i == 3)) | none => false
def tchN (a b c d e f x y u v i : Int) : Bool :=
  bif i == 0 then tSide a b e f x y u v a b c d || (tSide a b e f x y u v c d e f || tSide a b e f x y u v e f a b) else bif i == 1 then tSide a b e f x y u v c d e f || tSide a b e f x y u v e f a b else bif i == 2 then tSide a b e f x y u v e f a b else false
def finTb (s : LS) : DT (PX × List PV × List Row) :=
  match stTb s with
  | some (a, b, c, d, e, f, x, y, u, v, nl, es, i) =>
    .br (tchN a b c d e f x y u v i) (.leaf (.ret, tm 91 [(10, bv true)], rowsOb a b c d e f x y u v es nl)) (.leaf (.exit 2, tm 91 [], rowsOb a b c d e f x y u v es nl))
  | none => .no
def mTb (s : LS) : Nat := match stTb s with | some (_, _, _, _, _, _, _, _, _, _, _, _, i) => (3 - i).toNat | none => 0
theorem stTb_st (a b c d e f x y u v : Int) (es : List PV) (nl : Bool) (i : Int) : stTb (sTb a b c d e f x y u v es nl i) = some (a, b, c, d, e, f, x, y, u, v, nl, es, i) := rfl
theorem eqTb_st (a b c d e f x y u v : Int) (es : List PV) (nl : Bool) (i : Int) : eqTb (sTb a b c d e f x y u v es nl i) = true := by
  show (x == x && (y == y && (u == u && (v == v && (x == x && (y == y && (u == u && (v == v && (a == a && (b == b && (c == c && (d == d && (c == c && (d == d && (e == e && (f == f && (e == e && (f == f && (a == a && b == b))))))))))))))))))) = true; simp only [beq_self_eq_true, Bool.and_self]
theorem stepTb : ∀ s r, preTb s = true → (finTb s).run = some r → r.1 ≠ .normal ∧ (runB Try.prog C4 60 77 (lpb Try.f77 11) [5, 7, 13, 62, 63, 64] [10] (shTb.put s).1 (shTb.put s).2 = some r ∨
      ∃ s', runB Try.prog C4 60 77 (lpb Try.f77 11) [5, 7, 13, 62, 63, 64] [10] (shTb.put s).1 (shTb.put s).2 = some (.normal, shTb.put s') ∧ preTb s' = true ∧ mTb s' < mTb s ∧ (finTb s').run = some r) := by
  intro s r hp hr
  unfold preTb at hp
  rw [Bool.and_eq_true] at hp
  obtain ⟨hq, hp⟩ := hp
  split at hp
  · rename_i a b c d e f x y u v nl es i hs
    obtain rfl := stTb_eq hs hq
    unfold finTb at hr
    rw [stTb_st] at hr
    have hr' := run_br2 hr
    have h3 : i = 0 ∨ i = 1 ∨ i = 2 ∨ i = 3 := by simpa using hp
    refine ⟨by rw [hr']; generalize tchN _ _ _ _ _ _ _ _ _ _ _ = q; cases q <;> simp, ?_⟩
    have stay : ∀ j : Int, (finTb (sTb a b c d e f x y u v es nl j)).run = some (bif tchN a b c d e f x y u v j then (.ret, tm 91 [(10, bv true)], rowsOb a b c d e f x y u v es nl) else (.exit 2, tm 91 [], rowsOb a b c d e f x y u v es nl)) := fun j => by
      unfold finTb; rw [stTb_st]; dsimp only; cases tchN a b c d e f x y u v j <;> rfl
    rcases h3 with rfl | rfl | rfl | rfl
    · rw [qTb0, sideR_eq]
      cases h1 : tSide a b e f x y u v a b c d with
      | true => exact .inl (by rw [hr', show tchN a b c d e f x y u v 0 = true by unfold tchN; rw [h1]; rfl]; rfl)
      | false =>
        refine .inr ⟨_, rfl, by unfold preTb; rw [eqTb_st, stTb_st]; rfl, by unfold mTb; rw [stTb_st, stTb_st]; dsimp only; decide, ?_⟩
        rw [stay, hr', show tchN a b c d e f x y u v 0 = tchN a b c d e f x y u v 1 by unfold tchN; rw [h1]; rfl]
    · rw [qTb1, sideR_eq]
      cases h1 : tSide a b e f x y u v c d e f with
      | true => exact .inl (by rw [hr', show tchN a b c d e f x y u v 1 = true by unfold tchN; rw [h1]; rfl]; rfl)
      | false =>
        refine .inr ⟨_, rfl, by unfold preTb; rw [eqTb_st, stTb_st]; rfl, by unfold mTb; rw [stTb_st, stTb_st]; dsimp only; decide, ?_⟩
        rw [stay, hr', show tchN a b c d e f x y u v 1 = tchN a b c d e f x y u v 2 by unfold tchN; rw [h1]; rfl]
    · rw [qTb2, sideR_eq]
      cases h1 : tSide a b e f x y u v e f a b with
      | true => exact .inl (by rw [hr', show tchN a b c d e f x y u v 2 = true by unfold tchN; rw [h1]; rfl]; rfl)
      | false =>
        refine .inr ⟨_, rfl, by unfold preTb; rw [eqTb_st, stTb_st]; rfl, by unfold mTb; rw [stTb_st, stTb_st]; dsimp only; decide, ?_⟩
        rw [stay, hr', show tchN a b c d e f x y u v 2 = tchN a b c d e f x y u v 3 by unfold tchN; rw [h1]; rfl]
    · rw [qTb3]; exact .inl (by rw [hr']; rfl)
  · cases hp
noncomputable def C5 : EnvK := C4.addW 77 11 [5, 7, 13, 62, 63, 64] [] shTb preTb finTb
theorem okC5 : EnvOK Try.prog C5.env :=
  okC4.addW (n := 60) Try.func77 (show Try.f77.body = some (bod Try.f77) by kernel_rfl) (show (loops (bod Try.f77)).filter (fun b => rid b == 11) = [lpb Try.f77 11] by kernel_rfl) [5, 7, 13, 62, 63, 64] [10] [] shTb mTb stepTb
end Go.Hg
/- Geometry: LineCorners: line.Touches as a plain function and a contract. -/
namespace Go.Hg
open Go.Hx Go.Proofs
/-- All five right, and it touches. -/
def tcR (a b c d e f x y u v : Int) : Bool := fin [ptv a b, ptv c d, ptv e f, ptv x y, ptv u v] && tch a b c d e f x y u v
abbrev five (a b c d e f x y u v : Int) : List PV := [ptv a b, ptv c d, ptv e f, ptv x y, ptv u v]
theorem preTa_0 (a b c d e f x y u v : Int) (es : List PV) (nl : Bool) : preTa (sTa a b c d e f x y u v es nl 0) = true := by unfold preTa; rw [eqTa_st, stTa_st]; rfl
theorem preTb_0 (a b c d e f x y u v : Int) (es : List PV) (nl : Bool) : preTb (sTb a b c d e f x y u v es nl 0) = true := by unfold preTb; rw [eqTb_st, stTb_st]; rfl
theorem qTT (a b c d e f x y u v : Int) : runP Try.prog C5 100 77 [ptv a b, ptv c d, ptv e f, ptv x y, ptv u v] =
  bif !fin (five a b c d e f x y u v) then some (bv false) else
    bif preTa (sTa a b c d e f x y u v (five a b c d e f x y u v) false 0) then
      bif tEnd a b c d e f x y || tEnd a b c d e f u v then some (bv true) else bif preTb (sTb a b c d e f x y u v (five a b c d e f x y u v) false 0) then bif tchN a b c d e f x y u v 0 then some (bv true) else some (bv false) else none else none := by kernel_rfl
def cTch : List PV → Option PV
  | [.agg [.val (.int .i64 a), .val (.int .i64 b)], .agg [.val (.int .i64 c), .val (.int .i64 d)], .agg [.val (.int .i64 e), .val (.int .i64 f)], .agg [.val (.int .i64 x), .val (.int .i64 y)], .agg [.val (.int .i64 u), .val (.int .i64 v)]] => some (bv (tcR a b c d e f x y u v))
  | _ => none
theorem oTch (args : List PV) (r : PV) (h : cTch args = some r) : Enters Try.prog 77 ∧ PCall Try.prog 77 args r := by
  unfold cTch at h; split at h
  · rename_i a b c d e f x y u v; cases h
    refine runP_sound okC5 (n := 100) (Eq.trans (qTT a b c d e f x y u v) ?_)
    rw [preTa_0, preTb_0]
    unfold five
    unfold tcR tch tchN
    cases fin [ptv a b, ptv c d, ptv e f, ptv x y, ptv u v] <;> cases tEnd a b c d e f x y <;> cases tEnd a b c d e f u v <;> cases tSide a b e f x y u v a b c d <;> cases tSide a b e f x y u v c d e f <;> cases tSide a b e f x y u v e f a b <;> rfl
  · cases h
noncomputable def C6 : EnvK := C3.addO 77 cTch
theorem okC6 : EnvOK Try.prog C6.env := okC3.addO oTch
end Go.Hg
/- Geometry: the box of at most ten points. -/
namespace Go.Hg
open Go.Hx Go.Proofs
def cell (p : PV) (j : Nat) : Int := (p.cells[j]?.getD .any).getI
def mnI (a b : Int) : Int := if b < a then b else a
def mxI (a b : Int) : Int := if b > a then b else a
def bmnI (es : List PV) (j : Nat) : Int := match es with | [] => 0 | p :: r => r.foldl (fun m q => mnI m (cell q j)) (mnI (cell p j) (cell p j))
def bmxI (es : List PV) (j : Nat) : Int := match es with | [] => 0 | p :: r => r.foldl (fun m q => mxI m (cell q j)) (mxI (cell p j) (cell p j))
def bmn (es : List PV) (j : Nat) : Int := match es with | [] => 0 | p :: r => r.foldl (fun m q => mnI m (cell q j)) (cell p j)
def bmx (es : List PV) (j : Nat) : Int := match es with | [] => 0 | p :: r => r.foldl (fun m q => mxI m (cell q j)) (cell p j)
theorem bmnI_eq (es : List PV) (j : Nat) : bmnI es j = bmn es j := by
  cases es with
  | nil => rfl
  | cons p r => simp only [bmnI, bmn]; rw [show mnI (cell p j) (cell p j) = cell p j by unfold mnI; split <;> rfl]
theorem bmxI_eq (es : List PV) (j : Nat) : bmxI es j = bmx es j := by
  cases es with
  | nil => rfl
  | cons p r => simp only [bmxI, bmx]; rw [show mxI (cell p j) (cell p j) = cell p j by unfold mxI; split <;> rfl]
def boxI (es : List PV) : PV := rcv (bmnI es 0) (bmnI es 1) (bmxI es 0) (bmxI es 1)
def boxV (es : List PV) : PV := rcv (bmn es 0) (bmn es 1) (bmx es 0) (bmx es 1)
noncomputable def EU : EnvK := E19.addK 98
theorem okU : EnvOK Try.prog EU.env := ok19.addK 98
theorem qBox0 (f : Bool) : runP Try.prog EU 100 50 [.lst f 23 []] = some (boxI []) := by kernel_rfl
theorem qBox1 (f : Bool) (a : PV) : runP Try.prog EU 100 50 [.lst f 23 [a]] = some (boxI [a]) := by kernel_rfl
theorem qBox2 (f : Bool) (a b : PV) : runP Try.prog EU 100 50 [.lst f 23 [a, b]] = some (boxI [a, b]) := by kernel_rfl
theorem qBox3 (f : Bool) (a b c : PV) : runP Try.prog EU 100 50 [.lst f 23 [a, b, c]] = some (boxI [a, b, c]) := by kernel_rfl
theorem qBox4 (f : Bool) (a b c d : PV) : runP Try.prog EU 100 50 [.lst f 23 [a, b, c, d]] = some (boxI [a, b, c, d]) := by kernel_rfl
theorem qBox5 (f : Bool) (a b c d e : PV) : runP Try.prog EU 100 50 [.lst f 23 [a, b, c, d, e]] = some (boxI [a, b, c, d, e]) := by kernel_rfl
theorem qBox6 (f : Bool) (a b c d e g : PV) : runP Try.prog EU 100 50 [.lst f 23 [a, b, c, d, e, g]] = some (boxI [a, b, c, d, e, g]) := by kernel_rfl
theorem qBox7 (f : Bool) (a b c d e g h : PV) : runP Try.prog EU 100 50 [.lst f 23 [a, b, c, d, e, g, h]] = some (boxI [a, b, c, d, e, g, h]) := by kernel_rfl
theorem qBox8 (f : Bool) (a b c d e g h i : PV) : runP Try.prog EU 100 50 [.lst f 23 [a, b, c, d, e, g, h, i]] = some (boxI [a, b, c, d, e, g, h, i]) := by kernel_rfl
theorem qBox9 (f : Bool) (a b c d e g h i j : PV) : runP Try.prog EU 100 50 [.lst f 23 [a, b, c, d, e, g, h, i, j]] = some (boxI [a, b, c, d, e, g, h, i, j]) := by kernel_rfl
theorem qBox10 (f : Bool) (a b c d e g h i j k : PV) : runP Try.prog EU 100 50 [.lst f 23 [a, b, c, d, e, g, h, i, j, k]] = some (boxI [a, b, c, d, e, g, h, i, j, k]) := by kernel_rfl
theorem qBox (f : Bool) : ∀ L : List PV, L.length ≤ 10 → runP Try.prog EU 100 50 [.lst f 23 L] = some (boxI L)
  | [], _ => qBox0 f
  | [a], _ => qBox1 f a
  | [a, b], _ => qBox2 f a b
  | [a, b, c], _ => qBox3 f a b c
  | [a, b, c, d], _ => qBox4 f a b c d
  | [a, b, c, d, e], _ => qBox5 f a b c d e
  | [a, b, c, d, e, g], _ => qBox6 f a b c d e g
  | [a, b, c, d, e, g, h], _ => qBox7 f a b c d e g h
  | [a, b, c, d, e, g, h, i], _ => qBox8 f a b c d e g h i
  | [a, b, c, d, e, g, h, i, j], _ => qBox9 f a b c d e g h i j
  | [a, b, c, d, e, g, h, i, j, k], _ => qBox10 f a b c d e g h i j k
  | _ :: _ :: _ :: _ :: _ :: _ :: _ :: _ :: _ :: _ :: _ :: _, h => absurd h (by simp only [List.length_cons]; omega)
theorem qRBox0 (f : Bool) : runP Try.prog EU 100 51 [.lst f 23 []] = some (boxV []) := by kernel_rfl
theorem qRBox1 (f : Bool) (a : PV) : runP Try.prog EU 100 51 [.lst f 23 [a]] = some (boxV [a]) := by kernel_rfl
theorem qRBox2 (f : Bool) (a b : PV) : runP Try.prog EU 100 51 [.lst f 23 [a, b]] = some (boxV [a, b]) := by kernel_rfl
theorem qRBox3 (f : Bool) (a b c : PV) : runP Try.prog EU 100 51 [.lst f 23 [a, b, c]] = some (boxV [a, b, c]) := by kernel_rfl
theorem qRBox4 (f : Bool) (a b c d : PV) : runP Try.prog EU 100 51 [.lst f 23 [a, b, c, d]] = some (boxV [a, b, c, d]) := by kernel_rfl
theorem qRBox5 (f : Bool) (a b c d e : PV) : runP Try.prog EU 100 51 [.lst f 23 [a, b, c, d, e]] = some (boxV [a, b, c, d, e]) := by kernel_rfl
theorem qRBox6 (f : Bool) (a b c d e g : PV) : runP Try.prog EU 100 51 [.lst f 23 [a, b, c, d, e, g]] = some (boxV [a, b, c, d, e, g]) := by kernel_rfl
theorem qRBox7 (f : Bool) (a b c d e g h : PV) : runP Try.prog EU 100 51 [.lst f 23 [a, b, c, d, e, g, h]] = some (boxV [a, b, c, d, e, g, h]) := by kernel_rfl
theorem qRBox8 (f : Bool) (a b c d e g h i : PV) : runP Try.prog EU 100 51 [.lst f 23 [a, b, c, d, e, g, h, i]] = some (boxV [a, b, c, d, e, g, h, i]) := by kernel_rfl
theorem qRBox9 (f : Bool) (a b c d e g h i j : PV) : runP Try.prog EU 100 51 [.lst f 23 [a, b, c, d, e, g, h, i, j]] = some (boxV [a, b, c, d, e, g, h, i, j]) := by kernel_rfl
theorem qRBox10 (f : Bool) (a b c d e g h i j k : PV) : runP Try.prog EU 100 51 [.lst f 23 [a, b, c, d, e, g, h, i, j, k]] = some (boxV [a, b, c, d, e, g, h, i, j, k]) := by kernel_rfl
theorem qRBox (f : Bool) : ∀ L : List PV, L.length ≤ 10 → runP Try.prog EU 100 51 [.lst f 23 L] = some (boxV L)
  | [], _ => qRBox0 f
  | [a], _ => qRBox1 f a
  | [a, b], _ => qRBox2 f a b
  | [a, b, c], _ => qRBox3 f a b c
  | [a, b, c, d], _ => qRBox4 f a b c d
  | [a, b, c, d, e], _ => qRBox5 f a b c d e
  | [a, b, c, d, e, g], _ => qRBox6 f a b c d e g
  | [a, b, c, d, e, g, h], _ => qRBox7 f a b c d e g h
  | [a, b, c, d, e, g, h, i], _ => qRBox8 f a b c d e g h i
  | [a, b, c, d, e, g, h, i, j], _ => qRBox9 f a b c d e g h i j
  | [a, b, c, d, e, g, h, i, j, k], _ => qRBox10 f a b c d e g h i j k
  | _ :: _ :: _ :: _ :: _ :: _ :: _ :: _ :: _ :: _ :: _ :: _, h => absurd h (by simp only [List.length_cons]; omega)
theorem boxI_eq (L : List PV) : boxI L = boxV L := by unfold boxI boxV; rw [bmnI_eq, bmnI_eq, bmxI_eq, bmxI_eq]
def cBox : List PV → Option (DT PV) | [.lst _ 23 L] => some (.br (decide (L.length ≤ 10)) (.leaf (boxV L)) .no) | _ => none
theorem eBox : Enters Try.prog 50 := (runP_sound okU (qBox0 true)).1
theorem eRBox : Enters Try.prog 51 := (runP_sound okU (qRBox0 true)).1
theorem oBox (args : List PV) (d : DT PV) (r : PV) (h : cBox args = some d) (hr : d.run = some r) : PCall Try.prog 50 args r := by
  unfold cBox at h; split at h
  · rename_i f L
    cases h
    obtain ⟨h1, rfl⟩ := run_br hr
    simp only [decide_eq_true_eq] at h1
    rw [← boxI_eq]
    exact (runP_sound okU (qBox f L h1)).2
  · cases h
theorem oRBox (args : List PV) (d : DT PV) (r : PV) (h : cBox args = some d) (hr : d.run = some r) : PCall Try.prog 51 args r := by
  unfold cBox at h; split at h
  · rename_i f L
    cases h
    obtain ⟨h1, rfl⟩ := run_br hr
    simp only [decide_eq_true_eq] at h1
    exact (runP_sound okU (qRBox f L h1)).2
  · cases h
noncomputable def EB : EnvK := (E19.addF 50 cBox).addF 51 cBox
theorem okB : EnvOK Try.prog EB.env := (ok19.addF eBox oBox).addF eRBox oRBox
abbrev S8 (f f' : Bool) (L M : List PV) (n : Int) (hd : Bool) (len k : Int) : List PV := tm 133 [(0, .lst f 23 L), (2, iv n), (4, .ptr 0 1 0 0), (7, bv hd), (17, .lst f' 23 M), (18, iv len), (19, iv k)]
abbrev T8 (f : Bool) (L : List PV) (hd : Bool) : List PV := tm 133 [(0, .lst f 23 L), (4, .ptr 0 1 0 0), (7, bv hd)]
abbrev H8 (a b c d e f g h : Int) : List Row := [r1 56 8 (.agg [iv a, iv b, iv c, iv d, iv e, iv f, iv g, iv h])]
end Go.Hg
/- Geometry: PointSums answers true. -/
namespace Go.Hg
open Go.Hx Go.Proofs
def near (a b c d e f g h : Int) : Bool := decide (a ≤ g) && decide (e ≤ c) && (decide (b ≤ h) && decide (f ≤ d))
def cNear : List PV → Option PV
  | [.agg [.val (.int .i64 a), .val (.int .i64 b), .val (.int .i64 c), .val (.int .i64 d)], .agg [.val (.int .i64 e), .val (.int .i64 f), .val (.int .i64 g), .val (.int .i64 h)]] => some (bv (near a b c d e f g h))
  | _ => none
theorem oNear (args : List PV) (r : PV) (h : cNear args = some r) : Enters Try.prog 52 ∧ PCall Try.prog 52 args r := by
  unfold cNear at h; split at h
  · rename_i a b c d e f g h'; cases h
    refine runP_sound okB (n := 60) (Eq.trans ?_ (tree4 (decide (a ≤ g)) (decide (e ≤ c)) (decide (b ≤ h')) (decide (f ≤ d)))); kernel_rfl
  · cases h
theorem oRNear (args : List PV) (r : PV) (h : cNear args = some r) : Enters Try.prog 53 ∧ PCall Try.prog 53 args r := by
  unfold cNear at h; split at h
  · rename_i a b c d e f g h'; cases h
    refine runP_sound okB (n := 60) (Eq.trans ?_ (tree4 (decide (a ≤ g)) (decide (e ≤ c)) (decide (b ≤ h')) (decide (f ≤ d)))); kernel_rfl
  · cases h
noncomputable def EN : EnvK := (EB.addO 52 cNear).addO 53 cNear
theorem okN : EnvOK Try.prog EN.env := (okB.addO oNear).addO oRNear
def lz (es : List PV) (k : Int) (j : Nat) : Int := ((es.getD k.toNat .any).cells[j]?.getD .any).getI
def in8 {α : Type} (k : Int) (L : List PV) (x : Option α) : Option α := bif decide (0 ≤ k) && decide (k < ((L.length : Nat) : Int)) then x else none
def sl8 {α : Type} (k : Int) (L : List PV) (x : Option α) : Option α := bif decide (0 ≤ k) && decide (k ≤ ((L.length : Nat) : Int)) then bif decide ((L.take k.toNat).length ≤ 10) then x else none else none
def eqB (L : List PV) : Bool := (bmn L 0 == bmn L 0) && ((bmn L 1 == bmn L 1) && ((bmx L 0 == bmx L 0) && ((bmx L 1 == bmx L 1) && true)))
def cmp8 {α : Type} (px py qx qy n : Int) (r t : α) : α :=
  bif !(right px py == right px py) then r else
  bif !((W (px + qx) == W (px + qx)) && ((W (py + qy) == W (py + qy)) && true)) then r else
  bif !((W (px - qx) == W (px - qx)) && ((W (py - qy) == W (py - qy)) && true)) then r else
  bif W (W (px * qy) - W (py * qx)) != W (W (px * qy) - W (py * qx)) then r else
  bif W (W (px * qx) + W (py * qy)) != W (W (px * qx) + W (py * qy)) then r else
  bif !((tpx px py n == trx px py n) && ((tpy px py n == tryy px py n) && true)) then r else
  bif !((px == px) && ((py == py) && (((1 : Int) == 1) && true))) then r else t
theorem q8l (f f' : Bool) (L M : List PV) (n : Int) (hd : Bool) (len k a b c d e g h i : Int) : runB Try.prog EN 60 8 (lpb Try.f8 4) [0, 2, 4, 7, 17, 18, 19] [0, 4, 7] (S8 f f' L M n hd len k) (H8 a b c d e g h i) =
  bif decide (k < len) then
    in8 k M (in8 (W (W (((L.length : Nat) : Int) - 1) - k)) L
      (cmp8 (lz M k 0) (lz M k 1) (lz L (W (W (((L.length : Nat) : Int) - 1) - k)) 0) (lz L (W (W (((L.length : Nat) : Int) - 1) - k)) 1) n (some (.ret, T8 f L hd, H8 a b c d e g h i))
        (sl8 k L (sl8 k L (bif !eqB (L.take k.toNat) then some (.ret, T8 f L hd, H8 a b c d e g h i) else some (.normal, S8 f f' L M n hd len (W (k + 1)), H8 a b c d e g h i))))))
  else some (.exit 0, T8 f L hd, H8 a b c d e g h i) := by kernel_rfl
structure M8 where
  f : Bool
  f' : Bool
  L : List PV
  M : List PV
  n : Int
  hd : Bool
  len : Int
  k : Int
  r : Int × Int × Int × Int × Int × Int × Int × Int
abbrev h8 (s : M8) : List Row := H8 s.r.1 s.r.2.1 s.r.2.2.1 s.r.2.2.2.1 s.r.2.2.2.2.1 s.r.2.2.2.2.2.1 s.r.2.2.2.2.2.2.1 s.r.2.2.2.2.2.2.2
def e8 (s : M8) : List PV × List Row := (S8 s.f s.f' s.L s.M s.n s.hd s.len s.k, h8 s)
def st8 : St := ⟨133, [(0, .cell (.lst 23)), (2, i64), (4, .ptr 0 1 0 0), (7, .cell .bool), (17, .cell (.lst 23)), (18, i64), (19, i64)], [.one 56 8 (i64s 8)]⟩
def d8 : List Lf → List Lf → Option M8
  | [.l f L, .i n, .b hd, .l f' M, .i len, .i k], [.i a, .i b, .i c, .i d, .i e, .i g, .i h, .i i] => some ⟨f, f', L, M, n, hd, len, k, (a, b, c, d, e, g, h, i)⟩
  | _, _ => none
theorem g8 : ∀ x y s, d8 x y = some s → st8.get (e8 s).1 (e8 s).2 = some (x, y) := by
  intro x y s h; unfold d8 at h; split at h
  · cases h; kernel_rfl
  · cases h
def rng (p : PV) : Bool := decide (-9223372036854775808 ≤ cell p 1) && decide (cell p 1 ≤ 9223372036854775807)
def p8 (s : M8) : Bool := decide (s.L.length ≤ 10) && decide (s.M.length = s.L.length) && decide (s.len = ((s.L.length : Nat) : Int)) && decide (0 ≤ s.k) && s.M.all rng
def n8 (s : M8) : Nat := (((s.L.length : Nat) : Int) - s.k).toNat
def f8 (s : M8) : DT (PX × List PV × List Row) := .leaf (.exit 0, T8 s.f s.L s.hd, h8 s)
theorem cmp8_eq {α : Type} {px py qx qy n : Int} (hy : -9223372036854775808 ≤ py ∧ py ≤ 9223372036854775807) (r t : α) : cmp8 px py qx qy n r t = t := by
  have e : tpx px py n = trx px py n ∧ tpy px py n = tryy px py n := by
    have h4 : n % 4 = 0 ∨ n % 4 = 1 ∨ n % 4 = 2 ∨ n % 4 = 3 := by omega
    have hw : W (0 - W (0 - py)) = py := by rw [W_eq, W_eq]; omega
    unfold tpx trx tpy tryy
    rw [hw]
    rcases h4 with g | g | g | g <;> rw [g] <;> simp
  unfold cmp8
  rw [e.1, e.2]
  simp
theorem eqB_true (L : List PV) : eqB L = true := by unfold eqB; simp
theorem step8 (s : M8) (r : PX × List PV × List Row) (hp : p8 s = true) (hr : (f8 s).run = some r) :
    r.1 ≠ .normal ∧ (runB Try.prog EN 60 8 (lpb Try.f8 4) [0, 2, 4, 7, 17, 18, 19] [0, 4, 7] (e8 s).1 (e8 s).2 = some r ∨
      ∃ s', runB Try.prog EN 60 8 (lpb Try.f8 4) [0, 2, 4, 7, 17, 18, 19] [0, 4, 7] (e8 s).1 (e8 s).2 = some (.normal, e8 s') ∧ p8 s' = true ∧ n8 s' < n8 s ∧ (f8 s').run = some r) := by
  obtain ⟨f, f', L, M, n, hd, len, k, ⟨a, b, c, d, e, g, h, i⟩⟩ := s
  obtain rfl := Option.some.inj hr
  simp only [p8, Bool.and_eq_true, decide_eq_true_eq] at hp
  obtain ⟨⟨⟨⟨h1, h2⟩, rfl⟩, h3⟩, h4⟩ := hp
  refine ⟨by simp, ?_⟩
  unfold e8 h8
  dsimp only
  rw [q8l]
  by_cases hk : k < ((L.length : Nat) : Int)
  · right
    refine ⟨⟨f, f', L, M, n, hd, ((L.length : Nat) : Int), k + 1, (a, b, c, d, e, g, h, i)⟩, ?_, ?_, ?_, rfl⟩
    · have hkM : k.toNat < M.length := by omega
      have hy : -9223372036854775808 ≤ lz M k 1 ∧ lz M k 1 ≤ 9223372036854775807 := by
        have := List.all_eq_true.1 h4 M[k.toNat] (List.getElem_mem hkM)
        unfold rng at this
        rw [Bool.and_eq_true, decide_eq_true_iff, decide_eq_true_iff] at this
        have el : lz M k 1 = cell M[k.toNat] 1 := by
          unfold lz cell
          rw [List.getD_eq_getElem?_getD, List.getElem?_eq_getElem hkM, Option.getD_some]
        rw [el]; exact this
      have hw : W (W (((L.length : Nat) : Int) - 1) - k) = ((L.length : Nat) : Int) - 1 - k := by rw [W_id (n := ((L.length : Nat) : Int) - 1) (by omega) (by omega), W_id (by omega) (by omega)]
      have ht : (L.take k.toNat).length ≤ 10 := by rw [List.length_take]; omega
      rw [cmp8_eq hy, eqB_true, hw]
      unfold in8 sl8
      rw [decide_eq_true hk, decide_eq_true h3, decide_eq_true (show k < ((M.length : Nat) : Int) by omega), decide_eq_true (show 0 ≤ ((L.length : Nat) : Int) - 1 - k by omega), decide_eq_true (show ((L.length : Nat) : Int) - 1 - k < ((L.length : Nat) : Int) by omega),
        decide_eq_true (show k ≤ ((L.length : Nat) : Int) by omega), decide_eq_true ht, W_id (n := k + 1) (by omega) (by omega)]
      rfl
    · simp only [p8, Bool.and_eq_true, decide_eq_true_eq]; exact ⟨⟨⟨⟨h1, h2⟩, trivial⟩, by omega⟩, h4⟩
    · show (((L.length : Nat) : Int) - (k + 1)).toNat < (((L.length : Nat) : Int) - k).toNat; omega
  · left
    rw [decide_eq_false hk]; rfl
noncomputable def E8a : EnvK := EN.addL 8 4 [0, 2, 4, 7, 17, 18, 19] (byModel [true] (ofSt st8 d8) p8 f8)
theorem ok8a : EnvOK Try.prog E8a.env :=
  okN.addM (n := 60) Try.func8 (show Try.f8.body = some (bod Try.f8) by kernel_rfl) (show (loops (bod Try.f8)).filter (fun b => rid b == 4) = [lpb Try.f8 4] by kernel_rfl) [0, 2, 4, 7, 17, 18, 19] [0, 4, 7] e8 (ofSt_emb g8) n8 step8
def no8 : Option PV := some (bv false)
def mn10 (es : List PV) : Int := if 10 < ((es.length : Nat) : Int) then 10 else ((es.length : Nat) : Int)
def cut10 (es : List PV) : List PV := es.take (mn10 es).toNat
def fin8 (L : List PV) (a b c d e f g h : Int) : Option PV :=
  bif decide (L.length ≤ 10) then bif decide (L.length ≤ 10) then bif eqB L then bif near a b c d e f g h == near a b c d e f g h then some (bv (near a b c d a b c d == near a b c d a b c d)) else no8 else no8 else none else none
theorem q8 (f : Bool) (es : List PV) (a b c d e g h i n : Int) : runP Try.prog E8a 60 8 [.lst f 23 es, .agg [iv a, iv b, iv c, iv d, iv e, iv g, iv h, iv i], iv n] =
  bif decide (0 ≤ mn10 es) && decide (mn10 es ≤ ((es.length : Nat) : Int)) then
    bif p8 ⟨f && false, f && false, cut10 es, cut10 es, n, true, (((cut10 es).length : Nat) : Int), 0, (a, b, c, d, e, g, h, i)⟩ then fin8 (cut10 es) a b c d e g h i else none else none := by kernel_rfl
theorem law8 (f : Bool) {es : List PV} (hr : ∀ p, p ∈ es → rng p = true) (a b c d e g h i n : Int) : Enters Try.prog 8 ∧ PCall Try.prog 8 [.lst f 23 es, .agg [iv a, iv b, iv c, iv d, iv e, iv g, iv h, iv i], iv n] (bv true) := by
  refine runP_sound ok8a (n := 60) ?_
  have hm : 0 ≤ mn10 es ∧ mn10 es ≤ ((es.length : Nat) : Int) ∧ mn10 es ≤ 10 := by unfold mn10; split <;> omega
  have hl : (cut10 es).length ≤ 10 := by unfold cut10; rw [List.length_take]; omega
  have hp : p8 ⟨f && false, f && false, cut10 es, cut10 es, n, true, (((cut10 es).length : Nat) : Int), 0, (a, b, c, d, e, g, h, i)⟩ = true := by
    simp only [p8, Bool.and_eq_true, decide_eq_true_eq]
    exact ⟨⟨⟨⟨hl, trivial⟩, trivial⟩, by omega⟩, List.all_eq_true.2 fun p hp => hr p (List.mem_of_mem_take hp)⟩
  rw [q8, decide_eq_true hm.1, decide_eq_true hm.2.1, hp]
  unfold fin8
  rw [decide_eq_true hl, eqB_true]
  simp
end Go.Hg
/- Geometry: LineCorners as a plain function. -/
namespace Go.Hg
open Go.Hx Go.Proofs
noncomputable def C7 : EnvK := ((C6.addF 50 cBox).addO 52 cNear).addDrop 19 13 0
theorem okC7 : EnvOK Try.prog C7.env := ((okC6.addF eBox oBox).addO oNear).addDrop 19 13 0
abbrev bx3 (a b c d e f : Int) (j : Nat) : Int := bmn [ptv a b, ptv c d, ptv e f] j
def nrB (a b c d e f x y u v : Int) : Bool :=
  near (bmn [ptv a b, ptv c d, ptv e f] 0) (bmn [ptv a b, ptv c d, ptv e f] 1) (bmx [ptv a b, ptv c d, ptv e f] 0) (bmx [ptv a b, ptv c d, ptv e f] 1)
    (bmn [ptv x y, ptv u v] 0) (bmn [ptv x y, ptv u v] 1) (bmx [ptv x y, ptv u v] 0) (bmx [ptv x y, ptv u v] 1)
def crn3 (a b c d e f x y u v : Int) : Option PV := bif nrB a b c d e f x y u v then some (bv true) else some (bv (!tcR a b c d e f x y u v))
def crn2 (a b c d e f x y u v : Int) : Option PV :=
  bif tcR a b c d e f x y u v != tcR a b c d e f u v x y then some (bv false) else
  bif tcR a b c d e f x y u v != tcR e f c d a b x y u v then some (bv false) else
  bif inR a b c d e f x y then (bif !((x == a) && ((y == b) && true)) then (bif !((x == e) && ((y == f) && true)) then (bif !tcR a b c d e f x y u v then some (bv false) else crn3 a b c d e f x y u v) else crn3 a b c d e f x y u v) else crn3 a b c d e f x y u v) else crn3 a b c d e f x y u v
def crn (a b c d e f x y u v : Int) : Option PV :=
  bif !inR a b c d e f a b then some (bv false) else bif !inR a b c d e f c d then some (bv false) else bif !inR a b c d e f e f then some (bv false) else
  bif inR c d e f a b x y != inR a b c d e f x y then some (bv false) else bif inR e f c d a b x y != inR a b c d e f x y then some (bv false) else crn2 a b c d e f x y u v
theorem q19 (a b c d e f x y u v : Int) : runP Try.prog C7 100 19 [.agg [iv a, iv b, iv c, iv d, iv e, iv f, iv x, iv y, iv u, iv v]] =
  crn (Int.tmod a 30) (Int.tmod b 30) (Int.tmod c 30) (Int.tmod d 30) (Int.tmod e 30) (Int.tmod f 30) (Int.tmod x 30) (Int.tmod y 30) (Int.tmod u 30) (Int.tmod v 30) := by kernel_rfl
end Go.Hg
/- Geometry: LineCorners answers true. -/
namespace Go.Hg
open Go.Hx Go.Proofs
def in30 (e : PV) : Prop := ∃ x y, e = ptv x y ∧ (-30 < x ∧ x < 30) ∧ (-30 < y ∧ y < 30)
theorem fin_30 {es : List PV} (h : ∀ e ∈ es, in30 e) : fin es = true := by
  unfold fin
  rw [allR_false]
  intro j hj
  have hlt : (0 + (j : Int)).toNat < es.length := by omega
  obtain ⟨x, y, he, hx, hy⟩ := h es[(0 + (j : Int)).toNat] (List.getElem_mem hlt)
  have hg : es.getD (0 + (j : Int)).toNat .any = ptv x y := by rw [List.getD_eq_getElem?_getD, List.getElem?_eq_getElem hlt, he]; rfl
  have e1 : qX es (0 + (j : Int)) = x := by unfold qX; rw [hg]; rfl
  have e2 : qY es (0 + (j : Int)) = y := by unfold qY; rw [hg]; rfl
  rw [e1, e2]
  exact inB2_iff.2 ⟨by omega, by omega⟩
abbrev b30 (x : Int) : Prop := -30 < x ∧ x < 30
theorem b30_bd {x y : Int} (h1 : b30 x) (h2 : b30 y) : bd x y := by unfold bd; unfold b30 at *; omega
section
variable {a b c d e f x y u v : Int} (ha : b30 a) (hb : b30 b) (hc : b30 c) (hd : b30 d) (he : b30 e) (hf : b30 f) (hx : b30 x) (hy : b30 y) (hu : b30 u) (hv : b30 v)
include ha hb hc hd he hf hx hy
theorem inR_eq : inR a b c d e f x y = inTr a b c d e f x y := by
  unfold inR
  rw [fin_30 (es := [ptv a b, ptv c d, ptv e f, ptv x y]) (by
    intro p hp
    simp only [List.mem_cons, List.not_mem_nil, or_false] at hp
    rcases hp with rfl | rfl | rfl | rfl
    · exact ⟨_, _, rfl, ha, hb⟩
    · exact ⟨_, _, rfl, hc, hd⟩
    · exact ⟨_, _, rfl, he, hf⟩
    · exact ⟨_, _, rfl, hx, hy⟩), Bool.true_and]
include hu hv
theorem tcR_eq : tcR a b c d e f x y u v = tch a b c d e f x y u v := by
  unfold tcR
  rw [fin_30 (es := [ptv a b, ptv c d, ptv e f, ptv x y, ptv u v]) (by
    intro p hp
    simp only [List.mem_cons, List.not_mem_nil, or_false] at hp
    rcases hp with rfl | rfl | rfl | rfl | rfl
    · exact ⟨_, _, rfl, ha, hb⟩
    · exact ⟨_, _, rfl, hc, hd⟩
    · exact ⟨_, _, rfl, he, hf⟩
    · exact ⟨_, _, rfl, hx, hy⟩
    · exact ⟨_, _, rfl, hu, hv⟩), Bool.true_and]
end
theorem nrB_def (a b c d e f x y u v : Int) : nrB a b c d e f x y u v =
  (decide (mnI (mnI a c) e ≤ mxI x u) && decide (mnI x u ≤ mxI (mxI a c) e) && (decide (mnI (mnI b d) f ≤ mxI y v) && decide (mnI y v ≤ mxI (mxI b d) f))) := rfl
theorem nrB_far {a b c d e f x y u v : Int} (h : nrB a b c d e f x y u v = false) :
    (x < a ∧ x < c ∧ x < e ∧ u < a ∧ u < c ∧ u < e) ∨ (a < x ∧ c < x ∧ e < x ∧ a < u ∧ c < u ∧ e < u) ∨ (y < b ∧ y < d ∧ y < f ∧ v < b ∧ v < d ∧ v < f) ∨ (b < y ∧ d < y ∧ f < y ∧ b < v ∧ d < v ∧ f < v) := by
  rw [nrB_def] at h
  simp only [Bool.and_eq_false_iff, decide_eq_false_iff_not] at h
  have m2 : ∀ p q : Int, mnI p q ≤ p ∧ mnI p q ≤ q := fun p q => by unfold mnI; split <;> omega
  have x2 : ∀ p q : Int, p ≤ mxI p q ∧ q ≤ mxI p q := fun p q => by unfold mxI; split <;> omega
  have := m2 (mnI a c) e; have := m2 a c; have := m2 x u; have := m2 (mnI b d) f; have := m2 b d; have := m2 y v
  have := x2 (mxI a c) e; have := x2 a c; have := x2 x u; have := x2 (mxI b d) f; have := x2 b d; have := x2 y v
  rcases h with (h | h) | (h | h)
  · exact .inl (by omega)
  · exact .inr (.inl (by omega))
  · exact .inr (.inr (.inl (by omega)))
  · exact .inr (.inr (.inr (by omega)))
section
variable {a b c d e f x y u v : Int} (ha : b30 a) (hb : b30 b) (hc : b30 c) (hd : b30 d) (he : b30 e) (hf : b30 f) (hx : b30 x) (hy : b30 y) (hu : b30 u) (hv : b30 v)
include ha hb hc hd he hf hx hy hu hv
theorem crn_true : crn a b c d e f x y u v = some (bv true) := by
  have h1 := b30_bd ha hb; have h2 := b30_bd hc hd; have h3 := b30_bd he hf; have h4 := b30_bd hx hy; have h5 := b30_bd hu hv
  unfold crn crn2 crn3
  rw [inR_eq ha hb hc hd he hf ha hb, inR_eq ha hb hc hd he hf hc hd, inR_eq ha hb hc hd he hf he hf, inR_eq hc hd he hf ha hb hx hy, inR_eq he hf hc hd ha hb hx hy, inR_eq ha hb hc hd he hf hx hy,
    tcR_eq ha hb hc hd he hf hx hy hu hv, tcR_eq ha hb hc hd he hf hu hv hx hy, tcR_eq he hf hc hd ha hb hx hy hu hv,
    inTr_a h1 h2 h3, inTr_c h1 h2 h3, inTr_e h1 h2 h3, inTr_rot, inTr_rev h1 h2 h3 h4, tch_swap h1 h2 h3 h4 h5, tch_rev h1 h2 h3 h4 h5]
  simp only [Bool.not_true, cond_false, bne_self_eq_false, Bool.and_true]
  have hN : nrB a b c d e f x y u v = true ∨ tch a b c d e f x y u v = false := by
    cases hn : nrB a b c d e f x y u v with
    | true => exact .inl rfl
    | false => exact .inr (tch_far h1 h2 h3 h4 h5 (nrB_far hn))
  have hI : inTr a b c d e f x y = true → (x == a && y == b) = false → (x == e && y == f) = false → tch a b c d e f x y u v = true := by
    intro i1 i2 i3
    rw [Bool.and_eq_false_iff, beq_eq_false_iff_ne, beq_eq_false_iff_ne] at i2 i3
    exact tch_in i1 (by omega) (by omega)
  generalize nrB a b c d e f x y u v = n at *
  generalize tch a b c d e f x y u v = t at *
  generalize inTr a b c d e f x y = i at *
  generalize (x == a && y == b) = p at *
  generalize (x == e && y == f) = q at *
  cases n <;> cases t <;> cases i <;> cases p <;> cases q <;> simp_all
end
theorem b30_mod (n : Int) : b30 (Int.tmod n 30) := by
  have h1 := Int.lt_tmod_of_pos n (show (0 : Int) < 30 by decide)
  have h2 := Int.tmod_lt_of_pos n (show (0 : Int) < 30 by decide)
  unfold b30; omega
theorem law19 (a b c d e f x y u v : Int) : Enters Try.prog 19 ∧ PCall Try.prog 19 [.agg [iv a, iv b, iv c, iv d, iv e, iv f, iv x, iv y, iv u, iv v]] (bv true) := by
  refine runP_sound okC7 (n := 100) ?_
  rw [q19]
  exact crn_true (b30_mod _) (b30_mod _) (b30_mod _) (b30_mod _) (b30_mod _) (b30_mod _) (b30_mod _) (b30_mod _) (b30_mod _) (b30_mod _)
end Go.Hg
/- Geometry: the frames of the laws: their arguments. -/
namespace Go.Proofs.Ytneklpbkfmljfaa
open Go.ChangeShapes Go.WideShapes Go.ChangeAt Go.RowKit Go.Hx Go.Hg

theorem own : ownKnob Try.prog.godebug = none := by kernel_rfl
theorem laidOut : laidOutB Try.prog = true := by kernel_rfl
theorem wt_nil {ps : List PV} (h : wtcs [] ps = true) : ps = [] := by
  cases ps with
  | nil => rfl
  | cons p ps => simp [wtcs] at h
theorem wtc_int {k : IntKind} {p : PV} (h : wtc (.int k) p = true) : ∃ n, p = .val (.int k n) := by
  cases p with
  | val v => cases v <;> simp_all [wtc]
  | lst f t es => simp_all [wtc]
  | _ => simp [wtc] at h
theorem wt_int {k : IntKind} {ks : List Kind} {ps : List PV} (h : wtcs ((.int k) :: ks) ps = true) : ∃ n qs, ps = .val (.int k n) :: qs ∧ wtcs ks qs = true := by
  cases ps with
  | nil => simp [wtcs] at h
  | cons p ps =>
    simp only [wtcs, Bool.and_eq_true] at h
    obtain ⟨n, rfl⟩ := wtc_int h.1
    exact ⟨n, ps, rfl, h.2⟩
theorem wtc_bool {p : PV} (h : wtc (.bool) p = true) : ∃ b, p = .val (.bool b) := by
  cases p with
  | val v => cases v <;> simp_all [wtc]
  | lst f t es => simp_all [wtc]
  | _ => simp [wtc] at h
theorem wt_bool {ks : List Kind} {ps : List PV} (h : wtcs ((.bool) :: ks) ps = true) : ∃ b qs, ps = .val (.bool b) :: qs ∧ wtcs ks qs = true := by
  cases ps with
  | nil => simp [wtcs] at h
  | cons p ps =>
    simp only [wtcs, Bool.and_eq_true] at h
    obtain ⟨b, rfl⟩ := wtc_bool h.1
    exact ⟨b, ps, rfl, h.2⟩
theorem wtc_str {p : PV} (h : wtc (.str) p = true) : ∃ s, p = .val (.string s) := by
  cases p with
  | val v => cases v <;> simp_all [wtc]
  | lst f t es => simp_all [wtc]
  | _ => simp [wtc] at h
theorem wt_str {ks : List Kind} {ps : List PV} (h : wtcs ((.str) :: ks) ps = true) : ∃ s qs, ps = .val (.string s) :: qs ∧ wtcs ks qs = true := by
  cases ps with
  | nil => simp [wtcs] at h
  | cons p ps =>
    simp only [wtcs, Bool.and_eq_true] at h
    obtain ⟨s, rfl⟩ := wtc_str h.1
    exact ⟨s, ps, rfl, h.2⟩
theorem wtc_sl {e : TypeId} {p : PV} (h : wtc (.sl e) p = true) : ∃ f es, p = .lst f e es := by
  cases p with
  | val v => cases v <;> simp [wtc] at h
  | lst f t es =>
    have : e = t := by simpa [wtc] using h
    subst this
    exact ⟨f, es, rfl⟩
  | _ => simp [wtc] at h
theorem wt_sl {e : TypeId} {ks : List Kind} {ps : List PV} (h : wtcs (.sl e :: ks) ps = true) : ∃ f es qs, ps = .lst f e es :: qs ∧ wtcs ks qs = true := by
  cases ps with
  | nil => simp [wtcs] at h
  | cons p ps =>
    simp only [wtcs, Bool.and_eq_true] at h
    obtain ⟨f, es, rfl⟩ := wtc_sl h.1
    exact ⟨f, es, ps, rfl, h.2⟩
theorem fit_i64 {n : Int} (h : Fit (.val (.int .i64 n))) : -9223372036854775808 ≤ n ∧ n ≤ 9223372036854775807 := by
  cases h with
  | int h => exact bounds_i64 h
theorem fit_u8 {n : Int} (h : Fit (.val (.int .u8 n))) : 0 ≤ n ∧ n ≤ 255 := by
  cases h with
  | int h => exact bounds_u8 h
theorem fit_u16 {n : Int} (h : Fit (.val (.int .u16 n))) : 0 ≤ n ∧ n ≤ 65535 := by
  cases h with
  | int h => exact bounds_u16 h
theorem rv_agg {t : TypeId} {ps : List PV} {W : World} {v : Value} (h : RV Try.prog (Ctx.of W) (mkE Try.prog t ps) v) (ha : isAggT Try.prog t = true) : RV Try.prog (Ctx.of W) (.agg ps) v := by
  unfold mkE at h
  rwa [if_pos ha] at h
theorem rv_one {t : TypeId} {p : PV} {W : World} {v : Value} (h : RV Try.prog (Ctx.of W) (mkE Try.prog t [p]) v) (ha : isAggT Try.prog t = false) : RV Try.prog (Ctx.of W) p v := by
  unfold mkE at h
  rwa [if_neg (by simp [ha])] at h
theorem cs_one {W : World} {p : PV} {v : Value} (h1 : RV Try.prog (Ctx.of W) p v) : Cs Try.prog (Ctx.of W) [p] #[v] := by
  refine ⟨rfl, fun j c x a b => ?_⟩
  match j with
  | 0 => simp at a b; subst a; subst b; exact h1
  | j + 1 => simp at a
theorem cs_four {W : World} {p q s t : PV} {v u x y : Value} (h1 : RV Try.prog (Ctx.of W) p v) (h2 : RV Try.prog (Ctx.of W) q u) (h3 : RV Try.prog (Ctx.of W) s x) (h4 : RV Try.prog (Ctx.of W) t y) : Cs Try.prog (Ctx.of W) [p, q, s, t] #[v, u, x, y] := by
  refine ⟨rfl, fun j c z a b => ?_⟩
  match j with
  | 0 => simp at a b; subst a; subst b; exact h1
  | 1 => simp at a b; subst a; subst b; exact h2
  | 2 => simp at a b; subst a; subst b; exact h3
  | 3 => simp at a b; subst a; subst b; exact h4
  | j + 4 => simp at a
theorem cs_two {W : World} {p q : PV} {v u : Value} (h1 : RV Try.prog (Ctx.of W) p v) (h2 : RV Try.prog (Ctx.of W) q u) : Cs Try.prog (Ctx.of W) [p, q] #[v, u] := by
  refine ⟨rfl, fun j c x a b => ?_⟩
  match j with
  | 0 => simp at a b; subst a; subst b; exact h1
  | 1 => simp at a b; subst a; subst b; exact h2
  | j + 2 => simp at a
theorem cs_three {W : World} {p q s : PV} {v u x : Value} (h1 : RV Try.prog (Ctx.of W) p v) (h2 : RV Try.prog (Ctx.of W) q u) (h3 : RV Try.prog (Ctx.of W) s x) : Cs Try.prog (Ctx.of W) [p, q, s] #[v, u, x] := by
  refine ⟨rfl, fun j c y a b => ?_⟩
  match j with
  | 0 => simp at a b; subst a; subst b; exact h1
  | 1 => simp at a b; subst a; subst b; exact h2
  | 2 => simp at a b; subst a; subst b; exact h3
  | j + 3 => simp at a
end Go.Proofs.Ytneklpbkfmljfaa
