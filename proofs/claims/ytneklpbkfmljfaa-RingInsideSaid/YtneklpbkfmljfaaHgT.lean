/- Geometry: plain laws of Side, On and Meet: order, turns, moves. -/
import Derived.Test.YtneklpbkfmljfaaHgL3
namespace Go.Hg
open Go.Hx Go.Proofs
/-- Places in the order of points, as numbers. -/
def key (x y : Int) : Int := x * 4611686018427387904 + y
abbrev bd (a b : Int) : Prop := (-1152921504606846976 ≤ a ∧ a ≤ 1152921504606846976) ∧ (-1152921504606846976 ≤ b ∧ b ≤ 1152921504606846976)
theorem bd_iff {a b : Int} : bdd a b = true ↔ bd a b := inB2_iff
theorem key_lt {a b c d : Int} (h1 : bd a b) (h2 : bd c d) : (a < c ∨ a = c ∧ b < d) ↔ key a b < key c d := by unfold key; omega
theorem key_eq {a b c d : Int} (h1 : bd a b) (h2 : bd c d) : (a = c ∧ b = d) ↔ key a b = key c d := by unfold key; omega
theorem lessP_key {a b c d : Int} (h1 : bd a b) (h2 : bd c d) : lessP a b c d = decide (key a b < key c d) := by
  rw [Bool.eq_iff_iff, lessP_iff, decide_eq_true_iff]; exact key_lt h1 h2
def mnk (x y : Int) : Int := if y < x then y else x
def mxk (x y : Int) : Int := if y < x then x else y
/-- Which of two points: their key. -/
theorem key_if (t : Bool) (a b c d : Int) : key (ifI t a c) (ifI t b d) = ifI t (key a b) (key c d) := by cases t <;> rfl
theorem cmp2_key {a b c d : Int} (h1 : bd a b) (h2 : bd c d) : cmp2 a b c d = sgn (key a b - key c d) := by
  have k1 := cmp2_lt_iff a b c d
  have k2 := cmp2_gt_iff a b c d
  have k3 := cmp2_range a b c d
  rw [key_lt h1 h2] at k1
  rw [key_lt h2 h1] at k2
  unfold sgn
  (repeat' split) <;> omega
theorem bd_if {t : Bool} {a b c d : Int} (h1 : bd a b) (h2 : bd c d) : bd (ifI t a c) (ifI t b d) := by cases t <;> assumption
/-- Meet of segments on one line, by keys. -/
def flk (p q r s : Int) : Int := 1 + sgn (mnk (mxk p q) (mxk r s) - mxk (mnk p q) (mnk r s))
theorem fl_key {a b c d e f g h : Int} (h1 : bd a b) (h2 : bd c d) (h3 : bd e f) (h4 : bd g h) : fl a b c d e f g h = flk (key a b) (key c d) (key e f) (key g h) := by
  unfold fl flk
  dsimp only
  have b1 : bd (ifI (lessP c d a b) c a) (ifI (lessP c d a b) d b) := bd_if h2 h1
  have b2 : bd (ifI (lessP c d a b) a c) (ifI (lessP c d a b) b d) := bd_if h1 h2
  have b3 : bd (ifI (lessP g h e f) g e) (ifI (lessP g h e f) h f) := bd_if h4 h3
  have b4 : bd (ifI (lessP g h e f) e g) (ifI (lessP g h e f) f h) := bd_if h3 h4
  rw [cmp2_key (bd_if b4 b2) (bd_if b3 b1)]
  simp only [key_if, lessP_key h2 h1, lessP_key h4 h3]
  rw [lessP_key (by rw [← lessP_key h4 h3]; exact b4) (by rw [← lessP_key h2 h1]; exact b2), lessP_key (by rw [← lessP_key h2 h1]; exact b1) (by rw [← lessP_key h4 h3]; exact b3)]
  simp only [key_if]
  generalize key a b = p
  generalize key c d = q
  generalize key e f = r
  generalize key g h = s
  have i1 : ∀ x y : Int, ifI (decide (y < x)) y x = mnk x y := fun x y => by unfold ifI mnk; by_cases h : y < x <;> simp [h]
  have i2 : ∀ x y : Int, ifI (decide (y < x)) x y = mxk x y := fun x y => by unfold ifI mxk; by_cases h : y < x <;> simp [h]
  rw [i1 p q, i2 p q, i1 r s, i2 r s, i1 (mxk p q) (mxk r s)]
  congr 3
  unfold ifI mxk
  by_cases hh : mnk p q < mnk r s
  · rw [decide_eq_true hh, if_neg (by omega)]; rfl
  · rw [decide_eq_false hh]
    by_cases h2 : mnk r s < mnk p q
    · rw [if_pos h2]; rfl
    · rw [if_neg h2]; show mnk p q = _; omega
theorem flk_swap1 (p q r s : Int) : flk q p r s = flk p q r s := by unfold flk mnk mxk; congr 2; (repeat' split) <;> omega
theorem flk_swap2 (p q r s : Int) : flk p q s r = flk p q r s := by unfold flk mnk mxk; congr 2; (repeat' split) <;> omega
theorem flk_swap3 (p q r s : Int) : flk r s p q = flk p q r s := by unfold flk mnk mxk; congr 2; (repeat' split) <;> omega
/-- Meet of segments on one line, by which ends are points of the other one. -/
def two6 (o1 o2 o3 o4 e1 e2 e3 e4 e5 e6 : Bool) : Bool := (o1 && o2 && !e1) || (o3 && o4 && !e2) || (o1 && o3 && !e3) || (o1 && o4 && !e4) || (o2 && o3 && !e5) || (o2 && o4 && !e6)
def flS (o1 o2 o3 o4 e1 e2 e3 e4 e5 e6 : Bool) : Int := bif o1 || o2 || o3 || o4 then (bif two6 o1 o2 o3 o4 e1 e2 e3 e4 e5 e6 then 2 else 1) else 0
def kb (p q x : Int) : Bool := decide (mnk p q ≤ x) && decide (x ≤ mxk p q)
theorem kb_iff {p q x : Int} : kb p q x = true ↔ (p ≤ x ∧ x ≤ q ∨ q ≤ x ∧ x ≤ p) := by
  unfold kb mnk mxk
  rw [Bool.and_eq_true, decide_eq_true_iff, decide_eq_true_iff]
  split <;> omega
theorem kb_not {p q x : Int} : kb p q x = false ↔ ¬ (p ≤ x ∧ x ≤ q ∨ q ≤ x ∧ x ≤ p) := by
  rw [← kb_iff]; cases kb p q x <;> simp
def inn (lo hi x : Int) : Prop := lo ≤ x ∧ x ≤ hi
theorem core {a b c d : Int} (h1 : a ≤ b) (h2 : c ≤ d) :
    (mnk b d < mxk a c ↔ ¬ inn a b c ∧ ¬ inn a b d ∧ ¬ inn c d a ∧ ¬ inn c d b) ∧
    (mxk a c < mnk b d ↔ (inn a b c ∧ inn a b d ∧ c ≠ d) ∨ (inn c d a ∧ inn c d b ∧ a ≠ b) ∨ (inn a b c ∧ inn c d a ∧ c ≠ a) ∨ (inn a b c ∧ inn c d b ∧ c ≠ b) ∨ (inn a b d ∧ inn c d a ∧ d ≠ a) ∨ (inn a b d ∧ inn c d b ∧ d ≠ b)) := by
  unfold mnk mxk inn
  constructor
  · (repeat' split) <;> omega
  · (repeat' split) <;> omega
def K (p q x : Int) : Prop := p ≤ x ∧ x ≤ q ∨ q ≤ x ∧ x ≤ p
theorem K_le {p q x : Int} (h : p ≤ q) : K p q x ↔ inn p q x := by unfold K inn; omega
theorem K_ge {p q x : Int} (h : q ≤ p) : K p q x ↔ inn q p x := by unfold K inn; omega
theorem mnk_le {p q : Int} (h : p ≤ q) : mnk p q = p ∧ mxk p q = q := by unfold mnk mxk; constructor <;> split <;> omega
theorem mnk_ge {p q : Int} (h : q ≤ p) : mnk p q = q ∧ mxk p q = p := by unfold mnk mxk; constructor <;> split <;> omega
theorem mnk_comm (p q : Int) : mnk p q = mnk q p ∧ mxk p q = mxk q p := by unfold mnk mxk; constructor <;> split <;> split <;> omega
theorem flk_props (p q r s : Int) : (flk p q r s = 0 ↔ ¬ K p q r ∧ ¬ K p q s ∧ ¬ K r s p ∧ ¬ K r s q) ∧
    (flk p q r s = 2 ↔ (K p q r ∧ K p q s ∧ r ≠ s) ∨ (K r s p ∧ K r s q ∧ p ≠ q) ∨ (K p q r ∧ K r s p ∧ r ≠ p) ∨ (K p q r ∧ K r s q ∧ r ≠ q) ∨ (K p q s ∧ K r s p ∧ s ≠ p) ∨ (K p q s ∧ K r s q ∧ s ≠ q)) ∧ (flk p q r s = 0 ∨ flk p q r s = 1 ∨ flk p q r s = 2) := by
  have z : ∀ D : Int, (1 + sgn D = 0 ↔ D < 0) ∧ (1 + sgn D = 2 ↔ 0 < D) ∧ (1 + sgn D = 0 ∨ 1 + sgn D = 1 ∨ 1 + sgn D = 2) := by
    intro D; unfold sgn; (repeat' split) <;> omega
  unfold flk
  obtain ⟨z1, z2, z3⟩ := z (mnk (mxk p q) (mxk r s) - mxk (mnk p q) (mnk r s))
  have y1 : ∀ x y : Int, x - y < 0 ↔ x < y := fun x y => by omega
  have y2 : ∀ x y : Int, 0 < x - y ↔ y < x := fun x y => by omega
  refine ⟨(z1.trans (y1 _ _)).trans ?_, (z2.trans (y2 _ _)).trans ?_, z3⟩ <;> rcases Int.le_total p q with h1 | h1 <;> rcases Int.le_total r s with h2 | h2
  · rw [(mnk_le h1).1, (mnk_le h1).2, (mnk_le h2).1, (mnk_le h2).2, K_le h1, K_le h1, K_le h2, K_le h2]; exact (core h1 h2).1
  · rw [(mnk_le h1).1, (mnk_le h1).2, (mnk_ge h2).1, (mnk_ge h2).2, K_le h1, K_le h1, K_ge h2, K_ge h2, (core h1 h2).1]
    exact ⟨fun ⟨a, b, c, d⟩ => ⟨b, a, c, d⟩, fun ⟨a, b, c, d⟩ => ⟨b, a, c, d⟩⟩
  · rw [(mnk_ge h1).1, (mnk_ge h1).2, (mnk_le h2).1, (mnk_le h2).2, K_ge h1, K_ge h1, K_le h2, K_le h2, (core h1 h2).1]
    exact ⟨fun ⟨a, b, c, d⟩ => ⟨a, b, d, c⟩, fun ⟨a, b, c, d⟩ => ⟨a, b, d, c⟩⟩
  · rw [(mnk_ge h1).1, (mnk_ge h1).2, (mnk_ge h2).1, (mnk_ge h2).2, K_ge h1, K_ge h1, K_ge h2, K_ge h2, (core h1 h2).1]
    exact ⟨fun ⟨a, b, c, d⟩ => ⟨b, a, d, c⟩, fun ⟨a, b, c, d⟩ => ⟨b, a, d, c⟩⟩
  · rw [(mnk_le h1).1, (mnk_le h1).2, (mnk_le h2).1, (mnk_le h2).2, K_le h1, K_le h1, K_le h2, K_le h2]; exact (core h1 h2).2
  · rw [(mnk_le h1).1, (mnk_le h1).2, (mnk_ge h2).1, (mnk_ge h2).2, K_le h1, K_le h1, K_ge h2, K_ge h2, (core h1 h2).2]
    generalize inn p q r = a; generalize inn p q s = b; generalize inn s r p = c; generalize inn s r q = d
    constructor <;> rintro (h | h | h | h | h | h) <;> simp only [ne_eq] at h ⊢ <;> first | (left; exact ⟨h.2.1, h.1, fun e => h.2.2 e.symm⟩) | (right; left; exact h) | (right; right; left; exact h) | (right; right; right; left; exact h) | (right; right; right; right; left; exact h) | (right; right; right; right; right; exact h)
  · rw [(mnk_ge h1).1, (mnk_ge h1).2, (mnk_le h2).1, (mnk_le h2).2, K_ge h1, K_ge h1, K_le h2, K_le h2, (core h1 h2).2]
    generalize inn q p r = a; generalize inn q p s = b; generalize inn r s p = c; generalize inn r s q = d
    constructor <;> rintro (h | h | h | h | h | h) <;> simp only [ne_eq] at h ⊢ <;> first | (right; left; exact ⟨h.2.1, h.1, fun e => h.2.2 e.symm⟩) | (left; exact h) | (right; right; left; exact h) | (right; right; right; left; exact h) | (right; right; right; right; left; exact h) | (right; right; right; right; right; exact h)
  · rw [(mnk_ge h1).1, (mnk_ge h1).2, (mnk_ge h2).1, (mnk_ge h2).2, K_ge h1, K_ge h1, K_ge h2, K_ge h2, (core h1 h2).2]
    generalize inn q p r = a; generalize inn q p s = b; generalize inn s r p = c; generalize inn s r q = d
    constructor <;> rintro (h | h | h | h | h | h) <;> simp only [ne_eq] at h ⊢ <;> first | (left; exact ⟨h.2.1, h.1, fun e => h.2.2 e.symm⟩) | (right; left; exact ⟨h.2.1, h.1, fun e => h.2.2 e.symm⟩) | (right; right; left; exact h) | (right; right; right; left; exact h) | (right; right; right; right; left; exact h) | (right; right; right; right; right; exact h)
theorem flk_char (p q r s : Int) : flk p q r s = flS (kb p q r) (kb p q s) (kb r s p) (kb r s q) (decide (r = s)) (decide (p = q)) (decide (r = p)) (decide (r = q)) (decide (s = p)) (decide (s = q)) := by
  obtain ⟨h0, h2, h3⟩ := flk_props p q r s
  have a0 : (kb p q r || kb p q s || kb r s p || kb r s q) = false ↔ ¬ K p q r ∧ ¬ K p q s ∧ ¬ K r s p ∧ ¬ K r s q := by
    simp only [Bool.or_eq_false_iff, kb_not]; unfold K
    exact ⟨fun ⟨⟨⟨a, b⟩, c⟩, d⟩ => ⟨a, b, c, d⟩, fun ⟨a, b, c, d⟩ => ⟨⟨⟨a, b⟩, c⟩, d⟩⟩
  have a2 : two6 (kb p q r) (kb p q s) (kb r s p) (kb r s q) (decide (r = s)) (decide (p = q)) (decide (r = p)) (decide (r = q)) (decide (s = p)) (decide (s = q)) = true ↔
      (K p q r ∧ K p q s ∧ r ≠ s) ∨ (K r s p ∧ K r s q ∧ p ≠ q) ∨ (K p q r ∧ K r s p ∧ r ≠ p) ∨ (K p q r ∧ K r s q ∧ r ≠ q) ∨ (K p q s ∧ K r s p ∧ s ≠ p) ∨ (K p q s ∧ K r s q ∧ s ≠ q) := by
    unfold two6
    simp only [Bool.or_eq_true, Bool.and_eq_true, Bool.not_eq_true', decide_eq_false_iff_not, kb_iff, ne_eq, and_assoc, or_assoc]
    unfold K
    exact Iff.rfl
  unfold flS
  cases hA : (kb p q r || kb p q s || kb r s p || kb r s q) with
  | false => exact h0.2 (a0.1 hA)
  | true =>
    have n0 : flk p q r s ≠ 0 := fun e => by rw [a0.2 (h0.1 e)] at hA; cases hA
    cases hB : two6 (kb p q r) (kb p q s) (kb r s p) (kb r s q) (decide (r = s)) (decide (p = q)) (decide (r = p)) (decide (r = q)) (decide (s = p)) (decide (s = q)) with
    | true => exact h2.2 (a2.1 hB)
    | false =>
      have n2 : flk p q r s ≠ 2 := fun e => by rw [a2.2 (h2.1 e)] at hB; cases hB
      show flk p q r s = 1
      omega
end Go.Hg
