/- Geometry: plain laws of Side, On and Meet: order, turns, moves. -/
import Derived.Test.YtneklpbkfmljfaaPart4
import Derived.ProofKit
import Derived.OpenShut
import Derived.ShutString
import Derived.ChangeOld
import Derived.Below
import Derived.Test.YtneklpbkfmljfaaRows
namespace Go.Hg
open Go.Hx Go.Proofs
/-- Places in the order of points, as numbers. -/
def key (x y : Int) : Int := x * 4611686018427387904 + y
abbrev bd (a b : Int) : Prop := (-1152921504606846976 ≤ a ∧ a ≤ 1152921504606846976) ∧ (-1152921504606846976 ≤ b ∧ b ≤ 1152921504606846976)
theorem bd_iff {a b : Int} : bdd a b = true ↔ bd a b := inB2_iff
theorem key_lt {a b c d : Int} (h1 : bd a b) (h2 : bd c d) : (a < c ∨ a = c ∧ b < d) ↔ key a b < key c d := by unfold key; omega
theorem key_eq {a b c d : Int} (h1 : bd a b) (h2 : bd c d) : (a = c ∧ b = d) ↔ key a b = key c d := by unfold key; omega
theorem lessP_key {a b c d : Int} (h1 : bd a b) (h2 : bd c d) : lessP a b c d = decide (key a b < key c d) := by
  rw [Bool.eq_iff_iff, lessP_iff, decide_eq_true_iff]; exact key_lt h1 h2
def mnk (x y : Int) : Int := if y < x then y else x
def mxk (x y : Int) : Int := if y < x then x else y
/-- Which of two points: their key. -/
theorem key_if (t : Bool) (a b c d : Int) : key (ifI t a c) (ifI t b d) = ifI t (key a b) (key c d) := by cases t <;> rfl
theorem cmp2_key {a b c d : Int} (h1 : bd a b) (h2 : bd c d) : cmp2 a b c d = sgn (key a b - key c d) := by
  have k1 := cmp2_lt_iff a b c d
  have k2 := cmp2_gt_iff a b c d
  have k3 := cmp2_range a b c d
  rw [key_lt h1 h2] at k1
  rw [key_lt h2 h1] at k2
  unfold sgn
  (repeat' split) <;> omega
theorem bd_if {t : Bool} {a b c d : Int} (h1 : bd a b) (h2 : bd c d) : bd (ifI t a c) (ifI t b d) := by cases t <;> assumption
/-- Meet of segments on one line, by keys. -/
def flk (p q r s : Int) : Int := 1 + sgn (mnk (mxk p q) (mxk r s) - mxk (mnk p q) (mnk r s))
theorem fl_key {a b c d e f g h : Int} (h1 : bd a b) (h2 : bd c d) (h3 : bd e f) (h4 : bd g h) : fl a b c d e f g h = flk (key a b) (key c d) (key e f) (key g h) := by
  unfold fl flk
  dsimp only
  have b1 : bd (ifI (lessP c d a b) c a) (ifI (lessP c d a b) d b) := bd_if h2 h1
  have b2 : bd (ifI (lessP c d a b) a c) (ifI (lessP c d a b) b d) := bd_if h1 h2
  have b3 : bd (ifI (lessP g h e f) g e) (ifI (lessP g h e f) h f) := bd_if h4 h3
  have b4 : bd (ifI (lessP g h e f) e g) (ifI (lessP g h e f) f h) := bd_if h3 h4
  rw [cmp2_key (bd_if b4 b2) (bd_if b3 b1)]
  simp only [key_if, lessP_key h2 h1, lessP_key h4 h3]
  rw [lessP_key (by rw [← lessP_key h4 h3]; exact b4) (by rw [← lessP_key h2 h1]; exact b2), lessP_key (by rw [← lessP_key h2 h1]; exact b1) (by rw [← lessP_key h4 h3]; exact b3)]
  simp only [key_if]
  generalize key a b = p
  generalize key c d = q
  generalize key e f = r
  generalize key g h = s
  have i1 : ∀ x y : Int, ifI (decide (y < x)) y x = mnk x y := fun x y => by unfold ifI mnk; by_cases h : y < x <;> simp [h]
  have i2 : ∀ x y : Int, ifI (decide (y < x)) x y = mxk x y := fun x y => by unfold ifI mxk; by_cases h : y < x <;> simp [h]
  rw [i1 p q, i2 p q, i1 r s, i2 r s, i1 (mxk p q) (mxk r s)]
  congr 3
  unfold ifI mxk
  by_cases hh : mnk p q < mnk r s
  · rw [decide_eq_true hh, if_neg (by omega)]; rfl
  · rw [decide_eq_false hh]
    by_cases h2 : mnk r s < mnk p q
    · rw [if_pos h2]; rfl
    · rw [if_neg h2]; show mnk p q = _; omega
theorem flk_swap1 (p q r s : Int) : flk q p r s = flk p q r s := by unfold flk mnk mxk; congr 2; (repeat' split) <;> omega
theorem flk_swap2 (p q r s : Int) : flk p q s r = flk p q r s := by unfold flk mnk mxk; congr 2; (repeat' split) <;> omega
theorem flk_swap3 (p q r s : Int) : flk r s p q = flk p q r s := by unfold flk mnk mxk; congr 2; (repeat' split) <;> omega
/-- Meet of segments on one line, by which ends are points of the other one. -/
def two6 (o1 o2 o3 o4 e1 e2 e3 e4 e5 e6 : Bool) : Bool := (o1 && o2 && !e1) || (o3 && o4 && !e2) || (o1 && o3 && !e3) || (o1 && o4 && !e4) || (o2 && o3 && !e5) || (o2 && o4 && !e6)
def flS (o1 o2 o3 o4 e1 e2 e3 e4 e5 e6 : Bool) : Int := bif o1 || o2 || o3 || o4 then (bif two6 o1 o2 o3 o4 e1 e2 e3 e4 e5 e6 then 2 else 1) else 0
def kb (p q x : Int) : Bool := decide (mnk p q ≤ x) && decide (x ≤ mxk p q)
theorem kb_iff {p q x : Int} : kb p q x = true ↔ (p ≤ x ∧ x ≤ q ∨ q ≤ x ∧ x ≤ p) := by
  unfold kb mnk mxk
  rw [Bool.and_eq_true, decide_eq_true_iff, decide_eq_true_iff]
  split <;> omega
theorem kb_not {p q x : Int} : kb p q x = false ↔ ¬ (p ≤ x ∧ x ≤ q ∨ q ≤ x ∧ x ≤ p) := by
  rw [← kb_iff]; cases kb p q x <;> simp
def inn (lo hi x : Int) : Prop := lo ≤ x ∧ x ≤ hi
theorem core {a b c d : Int} (h1 : a ≤ b) (h2 : c ≤ d) :
    (mnk b d < mxk a c ↔ ¬ inn a b c ∧ ¬ inn a b d ∧ ¬ inn c d a ∧ ¬ inn c d b) ∧
    (mxk a c < mnk b d ↔ (inn a b c ∧ inn a b d ∧ c ≠ d) ∨ (inn c d a ∧ inn c d b ∧ a ≠ b) ∨ (inn a b c ∧ inn c d a ∧ c ≠ a) ∨ (inn a b c ∧ inn c d b ∧ c ≠ b) ∨ (inn a b d ∧ inn c d a ∧ d ≠ a) ∨ (inn a b d ∧ inn c d b ∧ d ≠ b)) := by
  unfold mnk mxk inn
  constructor
  · (repeat' split) <;> omega
  · (repeat' split) <;> omega
def K (p q x : Int) : Prop := p ≤ x ∧ x ≤ q ∨ q ≤ x ∧ x ≤ p
theorem K_le {p q x : Int} (h : p ≤ q) : K p q x ↔ inn p q x := by unfold K inn; omega
theorem K_ge {p q x : Int} (h : q ≤ p) : K p q x ↔ inn q p x := by unfold K inn; omega
theorem mnk_le {p q : Int} (h : p ≤ q) : mnk p q = p ∧ mxk p q = q := by unfold mnk mxk; constructor <;> split <;> omega
theorem mnk_ge {p q : Int} (h : q ≤ p) : mnk p q = q ∧ mxk p q = p := by unfold mnk mxk; constructor <;> split <;> omega
theorem mnk_comm (p q : Int) : mnk p q = mnk q p ∧ mxk p q = mxk q p := by unfold mnk mxk; constructor <;> split <;> split <;> omega
theorem flk_props (p q r s : Int) : (flk p q r s = 0 ↔ ¬ K p q r ∧ ¬ K p q s ∧ ¬ K r s p ∧ ¬ K r s q) ∧
    (flk p q r s = 2 ↔ (K p q r ∧ K p q s ∧ r ≠ s) ∨ (K r s p ∧ K r s q ∧ p ≠ q) ∨ (K p q r ∧ K r s p ∧ r ≠ p) ∨ (K p q r ∧ K r s q ∧ r ≠ q) ∨ (K p q s ∧ K r s p ∧ s ≠ p) ∨ (K p q s ∧ K r s q ∧ s ≠ q)) ∧ (flk p q r s = 0 ∨ flk p q r s = 1 ∨ flk p q r s = 2) := by
  have z : ∀ D : Int, (1 + sgn D = 0 ↔ D < 0) ∧ (1 + sgn D = 2 ↔ 0 < D) ∧ (1 + sgn D = 0 ∨ 1 + sgn D = 1 ∨ 1 + sgn D = 2) := by
    intro D; unfold sgn; (repeat' split) <;> omega
  unfold flk
  obtain ⟨z1, z2, z3⟩ := z (mnk (mxk p q) (mxk r s) - mxk (mnk p q) (mnk r s))
  have y1 : ∀ x y : Int, x - y < 0 ↔ x < y := fun x y => by omega
  have y2 : ∀ x y : Int, 0 < x - y ↔ y < x := fun x y => by omega
  refine ⟨(z1.trans (y1 _ _)).trans ?_, (z2.trans (y2 _ _)).trans ?_, z3⟩ <;> rcases Int.le_total p q with h1 | h1 <;> rcases Int.le_total r s with h2 | h2
  · rw [(mnk_le h1).1, (mnk_le h1).2, (mnk_le h2).1, (mnk_le h2).2, K_le h1, K_le h1, K_le h2, K_le h2]; exact (core h1 h2).1
  · rw [(mnk_le h1).1, (mnk_le h1).2, (mnk_ge h2).1, (mnk_ge h2).2, K_le h1, K_le h1, K_ge h2, K_ge h2, (core h1 h2).1]
    exact ⟨fun ⟨a, b, c, d⟩ => ⟨b, a, c, d⟩, fun ⟨a, b, c, d⟩ => ⟨b, a, c, d⟩⟩
  · rw [(mnk_ge h1).1, (mnk_ge h1).2, (mnk_le h2).1, (mnk_le h2).2, K_ge h1, K_ge h1, K_le h2, K_le h2, (core h1 h2).1]
    exact ⟨fun ⟨a, b, c, d⟩ => ⟨a, b, d, c⟩, fun ⟨a, b, c, d⟩ => ⟨a, b, d, c⟩⟩
  · rw [(mnk_ge h1).1, (mnk_ge h1).2, (mnk_ge h2).1, (mnk_ge h2).2, K_ge h1, K_ge h1, K_ge h2, K_ge h2, (core h1 h2).1]
    exact ⟨fun ⟨a, b, c, d⟩ => ⟨b, a, d, c⟩, fun ⟨a, b, c, d⟩ => ⟨b, a, d, c⟩⟩
  · rw [(mnk_le h1).1, (mnk_le h1).2, (mnk_le h2).1, (mnk_le h2).2, K_le h1, K_le h1, K_le h2, K_le h2]; exact (core h1 h2).2
  · rw [(mnk_le h1).1, (mnk_le h1).2, (mnk_ge h2).1, (mnk_ge h2).2, K_le h1, K_le h1, K_ge h2, K_ge h2, (core h1 h2).2]
    generalize inn p q r = a; generalize inn p q s = b; generalize inn s r p = c; generalize inn s r q = d
    constructor <;> rintro (h | h | h | h | h | h) <;> simp only [ne_eq] at h ⊢ <;> first | (left; exact ⟨h.2.1, h.1, fun e => h.2.2 e.symm⟩) | (right; left; exact h) | (right; right; left; exact h) | (right; right; right; left; exact h) | (right; right; right; right; left; exact h) | (right; right; right; right; right; exact h)
  · rw [(mnk_ge h1).1, (mnk_ge h1).2, (mnk_le h2).1, (mnk_le h2).2, K_ge h1, K_ge h1, K_le h2, K_le h2, (core h1 h2).2]
    generalize inn q p r = a; generalize inn q p s = b; generalize inn r s p = c; generalize inn r s q = d
    constructor <;> rintro (h | h | h | h | h | h) <;> simp only [ne_eq] at h ⊢ <;> first | (right; left; exact ⟨h.2.1, h.1, fun e => h.2.2 e.symm⟩) | (left; exact h) | (right; right; left; exact h) | (right; right; right; left; exact h) | (right; right; right; right; left; exact h) | (right; right; right; right; right; exact h)
  · rw [(mnk_ge h1).1, (mnk_ge h1).2, (mnk_ge h2).1, (mnk_ge h2).2, K_ge h1, K_ge h1, K_ge h2, K_ge h2, (core h1 h2).2]
    generalize inn q p r = a; generalize inn q p s = b; generalize inn s r p = c; generalize inn s r q = d
    constructor <;> rintro (h | h | h | h | h | h) <;> simp only [ne_eq] at h ⊢ <;> first | (left; exact ⟨h.2.1, h.1, fun e => h.2.2 e.symm⟩) | (right; left; exact ⟨h.2.1, h.1, fun e => h.2.2 e.symm⟩) | (right; right; left; exact h) | (right; right; right; left; exact h) | (right; right; right; right; left; exact h) | (right; right; right; right; right; exact h)
theorem flk_char (p q r s : Int) : flk p q r s = flS (kb p q r) (kb p q s) (kb r s p) (kb r s q) (decide (r = s)) (decide (p = q)) (decide (r = p)) (decide (r = q)) (decide (s = p)) (decide (s = q)) := by
  obtain ⟨h0, h2, h3⟩ := flk_props p q r s
  have a0 : (kb p q r || kb p q s || kb r s p || kb r s q) = false ↔ ¬ K p q r ∧ ¬ K p q s ∧ ¬ K r s p ∧ ¬ K r s q := by
    simp only [Bool.or_eq_false_iff, kb_not]; unfold K
    exact ⟨fun ⟨⟨⟨a, b⟩, c⟩, d⟩ => ⟨a, b, c, d⟩, fun ⟨a, b, c, d⟩ => ⟨⟨⟨a, b⟩, c⟩, d⟩⟩
  have a2 : two6 (kb p q r) (kb p q s) (kb r s p) (kb r s q) (decide (r = s)) (decide (p = q)) (decide (r = p)) (decide (r = q)) (decide (s = p)) (decide (s = q)) = true ↔
      (K p q r ∧ K p q s ∧ r ≠ s) ∨ (K r s p ∧ K r s q ∧ p ≠ q) ∨ (K p q r ∧ K r s p ∧ r ≠ p) ∨ (K p q r ∧ K r s q ∧ r ≠ q) ∨ (K p q s ∧ K r s p ∧ s ≠ p) ∨ (K p q s ∧ K r s q ∧ s ≠ q) := by
    unfold two6
    simp only [Bool.or_eq_true, Bool.and_eq_true, Bool.not_eq_true', decide_eq_false_iff_not, kb_iff, ne_eq, and_assoc, or_assoc]
    unfold K
    exact Iff.rfl
  unfold flS
  cases hA : (kb p q r || kb p q s || kb r s p || kb r s q) with
  | false => exact h0.2 (a0.1 hA)
  | true =>
    have n0 : flk p q r s ≠ 0 := fun e => by rw [a0.2 (h0.1 e)] at hA; cases hA
    cases hB : two6 (kb p q r) (kb p q s) (kb r s p) (kb r s q) (decide (r = s)) (decide (p = q)) (decide (r = p)) (decide (r = q)) (decide (s = p)) (decide (s = q)) with
    | true => exact h2.2 (a2.1 hB)
    | false =>
      have n2 : flk p q r s ≠ 2 := fun e => by rw [a2.2 (h2.1 e)] at hB; cases hB
      show flk p q r s = 1
      omega
end Go.Hg
/- Geometry: plain laws: turns, moves and order change nothing. -/
namespace Go.Hg
open Go.Hx Go.Proofs
def bx (a b c d e f : Int) : Bool := btwn a c e && btwn b d f
theorem kb_box {a b c d e f : Int} (h1 : bd a b) (h2 : bd c d) (h3 : bd e f) (hc : crs a b c d e f = 0) : kb (key a b) (key c d) (key e f) = bx a b c d e f := by
  have main : ∀ {a b c d : Int}, bd a b → bd c d → crs a b c d e f = 0 → (a < c ∨ a = c ∧ b ≤ d) → (kb (key a b) (key c d) (key e f) = true ↔ bx a b c d e f = true) := by
    intro a b c d h1 h2 hc ho
    have hb := between_lex (a := a) (b := b) (c := c) (d := d) (e := e) (f := f) (by unfold crs at hc; omega) ho
    rw [kb_iff]
    unfold bx
    rw [Bool.and_eq_true, btwn_iff, btwn_iff]
    rw [key_lt h3 h1, key_lt h2 h3] at hb
    have hle : key a b ≤ key c d := by unfold key; omega
    constructor
    · intro h; have := hb.1 (by omega); omega
    · intro h; have := hb.2 (by omega); omega
  rw [Bool.eq_iff_iff]
  rcases Int.lt_trichotomy a c with g | g | g
  · exact main h1 h2 hc (.inl g)
  · rcases Int.le_total b d with g2 | g2
    · exact main h1 h2 hc (.inr ⟨g, g2⟩)
    · have := main h2 h1 (by unfold crs at hc ⊢; grind) (.inr ⟨g.symm, g2⟩)
      rw [kb_iff] at this ⊢
      unfold bx at this ⊢
      rw [Bool.and_eq_true, btwn_iff, btwn_iff] at this ⊢
      omega
  · have := main h2 h1 (by unfold crs at hc ⊢; grind) (.inl g)
    rw [kb_iff] at this ⊢
    unfold bx at this ⊢
    rw [Bool.and_eq_true, btwn_iff, btwn_iff] at this ⊢
    omega
def eqP (a b c d : Int) : Bool := decide (a = c ∧ b = d)
/-- Meet of segments on one line, by what stands between what. -/
theorem fl_bx {a b c d e f g h : Int} (h1 : bd a b) (h2 : bd c d) (h3 : bd e f) (h4 : bd g h) (k1 : crs a b c d e f = 0) (k2 : crs a b c d g h = 0) (k3 : crs e f g h a b = 0) (k4 : crs e f g h c d = 0) :
    fl a b c d e f g h = flS (bx a b c d e f) (bx a b c d g h) (bx e f g h a b) (bx e f g h c d) (eqP e f g h) (eqP a b c d) (eqP e f a b) (eqP e f c d) (eqP g h a b) (eqP g h c d) := by
  rw [fl_key h1 h2 h3 h4, flk_char, kb_box h1 h2 h3 k1, kb_box h1 h2 h4 k2, kb_box h3 h4 h1 k3, kb_box h3 h4 h2 k4]
  unfold eqP
  rw [decide_eq_decide.2 (key_eq h3 h4), decide_eq_decide.2 (key_eq h1 h2), decide_eq_decide.2 (key_eq h3 h1), decide_eq_decide.2 (key_eq h3 h2), decide_eq_decide.2 (key_eq h4 h1), decide_eq_decide.2 (key_eq h4 h2)]
theorem sd_of {a b c d e f : Int} (h1 : bd a b) (h2 : bd c d) (h3 : bd e f) : sd a b c d e f = sgn (crs a b c d e f) := by
  unfold sd; rw [bd_iff.2 h1, bd_iff.2 h2, bd_iff.2 h3]; rfl
theorem mt_of {a b c d e f g h : Int} (h1 : bd a b) (h2 : bd c d) (h3 : bd e f) (h4 : bd g h) :
    mt a b c d e f g h = bif (sgn (crs a b c d e f) == 0) && (sgn (crs a b c d g h) == 0) && (sgn (crs e f g h a b) == 0) && (sgn (crs e f g h c d) == 0) then
      flS (bx a b c d e f) (bx a b c d g h) (bx e f g h a b) (bx e f g h c d) (eqP e f g h) (eqP a b c d) (eqP e f a b) (eqP e f c d) (eqP g h a b) (eqP g h c d)
    else nfl (sgn (crs a b c d e f)) (sgn (crs a b c d g h)) (sgn (crs e f g h a b)) (sgn (crs e f g h c d)) := by
  unfold mt
  rw [bd_iff.2 h1, bd_iff.2 h2, bd_iff.2 h3, bd_iff.2 h4, sd_of h1 h2 h3, sd_of h1 h2 h4, sd_of h3 h4 h1, sd_of h3 h4 h2]
  simp only [Bool.and_self, cond_true]
  cases hz : (sgn (crs a b c d e f) == 0) && (sgn (crs a b c d g h) == 0) && (sgn (crs e f g h a b) == 0) && (sgn (crs e f g h c d) == 0) with
  | false => rfl
  | true =>
    simp only [Bool.and_eq_true, beq_iff_eq, sgn_zero] at hz
    exact fl_bx h1 h2 h3 h4 hz.1.1.1 hz.1.1.2 hz.1.2 hz.2
theorem on_of {a b c d e f : Int} (h1 : bd a b) (h2 : bd c d) (h3 : bd e f) : onX a b c d e f = (bx a b c d e f && (sgn (crs a b c d e f) == 0)) := by
  unfold onX bx; rw [bd_iff.2 h1, bd_iff.2 h2, bd_iff.2 h3, sd_of h1 h2 h3]; simp
/-- A map of points that keeps what matters. -/
structure Keeps (X Y : Int → Int → Int) : Prop where
  crs : ∀ a b c d e f, crs (X a b) (Y a b) (X c d) (Y c d) (X e f) (Y e f) = crs a b c d e f
  bx : ∀ a b c d e f, bx (X a b) (Y a b) (X c d) (Y c d) (X e f) (Y e f) = bx a b c d e f
  eq : ∀ a b c d, eqP (X a b) (Y a b) (X c d) (Y c d) = eqP a b c d
theorem btwn_neg (a c e : Int) : btwn (0 - a) (0 - c) (0 - e) = btwn a c e := by rw [Bool.eq_iff_iff, btwn_iff, btwn_iff]; omega
theorem btwn_add (a c e u : Int) : btwn (a + u) (c + u) (e + u) = btwn a c e := by rw [Bool.eq_iff_iff, btwn_iff, btwn_iff]; omega
theorem keeps_shift (u v : Int) : Keeps (fun x _ => x + u) (fun _ y => y + v) where
  crs a b c d e f := by unfold Hg.crs; grind
  bx a b c d e f := by unfold Hg.bx; rw [btwn_add, btwn_add]
  eq a b c d := by unfold eqP; exact decide_eq_decide.2 (by omega)
theorem keeps_q1 : Keeps (fun _ y => 0 - y) (fun x _ => x) where
  crs a b c d e f := by unfold Hg.crs; grind
  bx a b c d e f := by unfold Hg.bx; rw [btwn_neg, Bool.and_comm]
  eq a b c d := by unfold eqP; exact decide_eq_decide.2 (by omega)
theorem keeps_q2 : Keeps (fun x _ => 0 - x) (fun _ y => 0 - y) where
  crs a b c d e f := by unfold Hg.crs; grind
  bx a b c d e f := by unfold Hg.bx; rw [btwn_neg, btwn_neg]
  eq a b c d := by unfold eqP; exact decide_eq_decide.2 (by omega)
theorem keeps_q3 : Keeps (fun _ y => y) (fun x _ => 0 - x) where
  crs a b c d e f := by unfold Hg.crs; grind
  bx a b c d e f := by unfold Hg.bx; rw [btwn_neg, Bool.and_comm]
  eq a b c d := by unfold eqP; exact decide_eq_decide.2 (by omega)
theorem keeps_id : Keeps (fun x _ => x) (fun _ y => y) := ⟨fun _ _ _ _ _ _ => rfl, fun _ _ _ _ _ _ => rfl, fun _ _ _ _ => rfl⟩
theorem Keeps.comp {X Y X' Y' : Int → Int → Int} (h : Keeps X Y) (k : Keeps X' Y') : Keeps (fun a b => X' (X a b) (Y a b)) (fun a b => Y' (X a b) (Y a b)) where
  crs a b c d e f := by rw [k.crs, h.crs]
  bx a b c d e f := by rw [k.bx, h.bx]
  eq a b c d := by rw [k.eq, h.eq]
theorem Keeps.sd {X Y : Int → Int → Int} (h : Keeps X Y) {a b c d e f : Int} (h1 : bd a b) (h2 : bd c d) (h3 : bd e f) (k1 : bd (X a b) (Y a b)) (k2 : bd (X c d) (Y c d)) (k3 : bd (X e f) (Y e f)) : sd (X a b) (Y a b) (X c d) (Y c d) (X e f) (Y e f) = sd a b c d e f := by
  rw [sd_of h1 h2 h3, sd_of k1 k2 k3, h.crs]
theorem Keeps.on {X Y : Int → Int → Int} (h : Keeps X Y) {a b c d e f : Int} (h1 : bd a b) (h2 : bd c d) (h3 : bd e f) (k1 : bd (X a b) (Y a b)) (k2 : bd (X c d) (Y c d)) (k3 : bd (X e f) (Y e f)) : onX (X a b) (Y a b) (X c d) (Y c d) (X e f) (Y e f) = onX a b c d e f := by
  rw [on_of h1 h2 h3, on_of k1 k2 k3, h.crs, h.bx]
theorem Keeps.mt {X Y : Int → Int → Int} (hK : Keeps X Y) {a b c d e f g h : Int} (h1 : bd a b) (h2 : bd c d) (h3 : bd e f) (h4 : bd g h) (k1 : bd (X a b) (Y a b)) (k2 : bd (X c d) (Y c d)) (k3 : bd (X e f) (Y e f)) (k4 : bd (X g h) (Y g h)) :
    mt (X a b) (Y a b) (X c d) (Y c d) (X e f) (Y e f) (X g h) (Y g h) = mt a b c d e f g h := by
  rw [mt_of h1 h2 h3 h4, mt_of k1 k2 k3 k4]
  simp only [hK.crs, hK.bx, hK.eq]
theorem sgn_neg (n : Int) : sgn (-n) = -sgn n := by unfold sgn; (repeat' split) <;> omega
theorem sd_swap (a b c d e f : Int) : sd c d a b e f = -sd a b c d e f := by
  unfold sd
  rw [show crs c d a b e f = -crs a b c d e f by unfold crs; grind, sgn_neg, Bool.and_comm (bdd c d)]
  cases bdd a b && bdd c d && bdd e f <;> simp
theorem sd_turn (a b c d e f : Int) : sd c d e f a b = sd a b c d e f := by
  unfold sd
  rw [show crs c d e f a b = crs a b c d e f by unfold crs; grind, show (bdd c d && bdd e f && bdd a b) = (bdd a b && bdd c d && bdd e f) by cases bdd a b <;> cases bdd c d <;> cases bdd e f <;> rfl]
theorem sgnz_neg (n : Int) : (sgn (-n) == 0) = (sgn n == 0) := by rw [sgn_neg]; unfold sgn; (repeat' split) <;> rfl
theorem mt_swap3 {a b c d e f g h : Int} (h1 : bd a b) (h2 : bd c d) (h3 : bd e f) (h4 : bd g h) : mt e f g h a b c d = mt a b c d e f g h := by
  unfold mt
  rw [bd_iff.2 h1, bd_iff.2 h2, bd_iff.2 h3, bd_iff.2 h4, fl_key h1 h2 h3 h4, fl_key h3 h4 h1 h2, flk_swap3]
  unfold nfl
  rw [Bool.or_comm]
  cases sd a b c d e f == 0 <;> cases sd a b c d g h == 0 <;> cases sd e f g h a b == 0 <;> cases sd e f g h c d == 0 <;> rfl
theorem neg_mul (s t : Int) : decide (-s * -t > 0) = decide (s * t > 0) := by rw [Int.neg_mul_neg]
theorem mul_cm (s t : Int) : decide (s * t > 0) = decide (t * s > 0) := by rw [Int.mul_comm]
theorem beq_neg0 (s : Int) : (-s == 0) = (s == 0) := by rw [Bool.eq_iff_iff, beq_iff_eq, beq_iff_eq]; omega
theorem mt_swap1 {a b c d e f g h : Int} (h1 : bd a b) (h2 : bd c d) (h3 : bd e f) (h4 : bd g h) : mt c d a b e f g h = mt a b c d e f g h := by
  unfold mt
  rw [bd_iff.2 h1, bd_iff.2 h2, bd_iff.2 h3, bd_iff.2 h4, fl_key h1 h2 h3 h4, fl_key h2 h1 h3 h4, flk_swap1, sd_swap a b c d e f, sd_swap a b c d g h]
  unfold nfl
  rw [neg_mul, mul_cm (sd e f g h c d), beq_neg0, beq_neg0]
  cases sd a b c d e f == 0 <;> cases sd a b c d g h == 0 <;> cases sd e f g h a b == 0 <;> cases sd e f g h c d == 0 <;> rfl
theorem mt_swap2 {a b c d e f g h : Int} (h1 : bd a b) (h2 : bd c d) (h3 : bd e f) (h4 : bd g h) : mt a b c d g h e f = mt a b c d e f g h := by
  rw [mt_swap3 h4 h3 h1 h2, mt_swap1 h3 h4 h1 h2, mt_swap3 h1 h2 h3 h4]
end Go.Hg
/- Geometry: line.Check of any length: as the reference's. -/
namespace Go.Hg
open Go.Hx Go.Proofs
def allO (es : List PV) (cl i : Int) : Nat → Bool
  | 0 => true
  | n + 1 => !eqe es i (i + 1) && (allC es cl i (qX es i) (qY es i) (qX es (i + 1)) (qY es (i + 1)) (es.take (i + 1).toNat) 0 i.toNat && allO es cl (i + 1) n)
noncomputable def pD : LS → Bool
  | ([.i i], [.l _ es, .i _, .i cl, .l _ es3, .r r4]) => decide (0 ≤ i) && decide (i + 1 ≤ (es.length : Int)) && decide (cl + 2 = (es.length : Int)) && big es && (same r4 (lrO .ready) && same es3 es)
  | _ => false
noncomputable def fD : LS → DT (PX × List PV × List Row)
  | ([.i i], [.l f es, .i er, .i cl, .l f3 es3, .r _]) => .br (allO es cl i ((es.length : Int) - (i + 1)).toNat)
      (.leaf (.exit 0, tm 25 [], hD f es er cl f3 es3 (lrO .ready))) (.leaf (.ret, tm 25 [], hD f es 11 cl f3 es3 (lrO (.done (.exit 0)))))
  | _ => .no
def mD : LS → Nat
  | ([.i i], [.l _ es, .i _, .i _, .l _ _, .r _]) => ((es.length : Int) - (i + 1)).toNat
  | _ => 0
theorem sD : ∀ s r, pD s = true → (fD s).run = some r → r.1 ≠ .normal ∧ (runB Try.prog E34a 60 152 (lpb Try.f152 1) [0, 1, 3] [] (shD.put s).1 (shD.put s).2 = some r ∨
      ∃ s', runB Try.prog E34a 60 152 (lpb Try.f152 1) [0, 1, 3] [] (shD.put s).1 (shD.put s).2 = some (.normal, shD.put s') ∧ pD s' = true ∧ mD s' < mD s ∧ (fD s').run = some r) := by
  intro s r hp hr
  unfold pD at hp; split at hp
  · rename_i i f es er cl f3 es3 r4
    simp only [Bool.and_eq_true, decide_eq_true_eq, same_iff] at hp
    obtain ⟨⟨⟨⟨h1, h2⟩, h3⟩, h4⟩, rfl, rfl⟩ := hp
    have hr' := run_br2 hr
    refine ⟨by rw [hr']; cases allO es3 cl i ((es3.length : Int) - (i + 1)).toNat <;> simp, ?_⟩
    rw [qD]
    have hw := W_id (n := i + 1) (by omega) (by omega)
    rw [hw]
    by_cases hi : i + 1 < (es3.length : Int)
    · have hl : (es3.take (i + 1).toNat).length = (i + 1).toNat := by rw [List.length_take]; omega
      have hp : pC (lC f es3 er cl f3 es3 (lrO .busy) i (qX es3 i) (qY es3 i) (qX es3 (i + 1)) (qY es3 (i + 1)) false (es3.take (i + 1).toNat) (lrI .ready) 0) = true := by
        simp only [pC, same_self, hl, Bool.and_true, Bool.and_eq_true, decide_eq_true_eq]; omega
      rw [decide_eq_true hi, cond_true, inr_of h1 (by omega), inr_of (by omega) hi, hp, hl, show (((i + 1).toNat : Int) - (0 + 1)).toNat = i.toNat by omega,
        show (decide ((0 : Int) ≤ 0) && decide ((0 : Int) ≤ i + 1) && decide (i + 1 ≤ (es3.length : Int))) = true by simp; omega]
      obtain ⟨n, hn⟩ : ∃ n, ((es3.length : Int) - (i + 1)).toNat = n + 1 := ⟨((es3.length : Int) - (i + 1)).toNat - 1, by omega⟩
      rw [hn] at hr'
      simp only [allO] at hr'
      simp only [cond_true]
      cases hE : eqe es3 i (i + 1) with
      | true => rw [hE] at hr'; exact .inl (by rw [hr']; rfl)
      | false =>
        rw [hE] at hr'
        cases hR : allC es3 cl i (qX es3 i) (qY es3 i) (qX es3 (i + 1)) (qY es3 (i + 1)) (es3.take (i + 1).toNat) 0 i.toNat with
        | false => rw [hR] at hr'; exact .inl (by rw [hr']; rfl)
        | true =>
          rw [hR] at hr'
          refine .inr ⟨lD f es3 er cl f3 es3 (lrO .ready) (i + 1), rfl, by simp [pD, same_self]; omega, by simp only [mD]; omega, ?_⟩
          rw [hr']
          simp only [fD]
          rw [show ((es3.length : Int) - (i + 1 + 1)).toNat = n by omega]
          cases allO es3 cl (i + 1) n <;> rfl
    · rw [decide_eq_false hi]
      rw [show ((es3.length : Int) - (i + 1)).toNat = 0 by omega] at hr'
      exact .inl (by rw [hr']; rfl)
  · cases hp
noncomputable def E34b : EnvK := E34a.addW 152 1 [0, 1, 3] [] shD pD fD
theorem ok34b : EnvOK Try.prog E34b.env :=
  ok34a.addW (n := 60) Try.func152 (show Try.f152.body = some (bod Try.f152) by kernel_rfl) (show (loops (bod Try.f152)).filter (fun b => rid b == 1) = [lpb Try.f152 1] by kernel_rfl) [0, 1, 3] [] [] shD mD sD
noncomputable def chkL (f : Bool) (es : List PV) : Option PV := bif big es then bif !fin es then some (iv 10) else bif pD (lD f es 0 (W ((es.length : Int) - 2)) f es (lrO .ready) 0) then bif allO es (W ((es.length : Int) - 2)) 0 ((es.length : Int) - (0 + 1)).toNat then some (iv 0) else some (iv 11) else none else none
theorem qChk (f : Bool) (es : List PV) : runP Try.prog E34b 60 102 [.lst f 23 es] =
  bif decide ((es.length : Int) < 2) then some (iv 2) else bif decide ((es.length : Int) > 40) then some (iv 2) else chkL f es := by kernel_rfl
end Go.Hg
/- Geometry: contracts: Check of a line, both. -/
namespace Go.Hg
open Go.Hx Go.Proofs
theorem fin_bd {es : List PV} (h : fin es = true) {i : Int} (h0 : 0 ≤ i) (h1 : i < (es.length : Int)) : bd (qX es i) (qY es i) := by
  have := allR_false.1 h i.toNat (by omega)
  rw [show (0 : Int) + (i.toNat : Int) = i by omega] at this
  have := inB2_iff.1 this; unfold bd; omega
theorem qX_take {es : List PV} {n : Nat} {k : Int} (h : k < (n : Int)) (h0 : 0 ≤ k) : qX (es.take n) k = qX es k := by
  unfold qX
  rw [List.getD_eq_getElem?_getD, List.getD_eq_getElem?_getD, List.getElem?_take, if_pos (by omega)]
theorem qY_take {es : List PV} {n : Nat} {k : Int} (h : k < (n : Int)) (h0 : 0 ≤ k) : qY (es.take n) k = qY es k := by
  unfold qY
  rw [List.getD_eq_getElem?_getD, List.getD_eq_getElem?_getD, List.getElem?_take, if_pos (by omega)]
theorem want_eq (es : List PV) (la i k : Int) : wantC es la i k = want es la i k := by
  unfold wantC want
  rw [show (i == k + 1) = (k + 1 == i) by rw [Bool.eq_iff_iff]; simp only [beq_iff_eq]; omega]
  cases cls es <;> cases k == 0 <;> cases i == la <;> rfl
theorem allC_eq {es : List PV} (hf : fin es = true) {la i : Int} (h0 : 0 ≤ i) (h1 : i + 1 < (es.length : Int)) : ∀ (n : Nat) (k : Int), 0 ≤ k → k + n = i →
    allC es la i (qX es i) (qY es i) (qX es (i + 1)) (qY es (i + 1)) (es.take (i + 1).toNat) k n = allP es la i k n
  | 0, k, _, _ => rfl
  | n + 1, k, h2, h3 => by
    simp only [allC, allP]
    rw [allC_eq hf h0 h1 n (k + 1) (by omega) (by omega), want_eq]
    congr 2
    unfold mqs mq
    rw [qX_take (by omega) (by omega), qY_take (by omega) (by omega), qX_take (by omega) (by omega), qY_take (by omega) (by omega)]
    exact mt_swap3 (fin_bd hf (by omega) (by omega)) (fin_bd hf (by omega) (by omega)) (fin_bd hf (by omega) (by omega)) (fin_bd hf (by omega) (by omega))
theorem allO_eq {es : List PV} (hf : fin es = true) {la : Int} : ∀ (n : Nat) (i : Int), 0 ≤ i → i + n + 1 = (es.length : Int) → allO es la i n = allI es la i n
  | 0, i, _, _ => rfl
  | n + 1, i, h0, h1 => by
    simp only [allO, allI]
    rw [allO_eq hf n (i + 1) (by omega) (by omega), allC_eq hf h0 (by omega) i.toNat 0 (by omega) (by omega)]
    rfl
theorem chkL_eq (f : Bool) (es : List PV) : (bif decide ((es.length : Int) < 2) then some (iv 2) else bif decide ((es.length : Int) > 40) then some (iv 2) else chkL f es) = some (iv (chk es)) := by
  unfold chk
  by_cases h1 : (es.length : Int) < 2
  · rw [decide_eq_true h1]; rfl
  · by_cases h2 : (es.length : Int) > 40
    · rw [decide_eq_false h1, decide_eq_true h2]; rfl
    · rw [decide_eq_false h1, decide_eq_false h2]
      have hw := W_id (n := (es.length : Int) - 2) (by omega) (by omega)
      unfold chkL
      rw [hw, show big es = true by simp [big]; omega, show pD (lD f es 0 ((es.length : Int) - 2) f es (lrO .ready) 0) = true by simp [pD, same_self]; omega, show ((es.length : Int) - (0 + 1)).toNat = es.length - 1 by omega]
      cases hf : fin es with
      | false => rfl
      | true =>
        rw [allO_eq hf (es.length - 1) 0 (by omega) (by omega)]
        cases allI es ((es.length : Int) - 2) 0 (es.length - 1) <;> rfl
theorem oChk (args : List PV) (r : PV) (h : cChk args = some r) : Enters Try.prog 102 ∧ PCall Try.prog 102 args r := by
  unfold cChk at h; split at h
  · rename_i f es; cases h; exact runP_sound ok34b ((qChk f es).trans (chkL_eq f es))
  · cases h
noncomputable def E35 : EnvK := E34.addO 102 cChk
theorem ok35 : EnvOK Try.prog E35.env := ok34.addO oChk
/-- P6.1. -/
def rchk (es : List PV) : Int := bif decide ((es.length : Int) < 3) then 2 else bif decide ((es.length : Int) ≥ 40) then 2 else chk (es ++ [qp es 0])
def ringT (es : List PV) : Option PV :=
  bif decide ((0 + es.length) * 16 ≤ 140737488355328) then bif decide (0 < (es.length : Int)) then
    bif decide (es.length = 0 + es.length) && decide (0 + es.length = 0 + es.length) && decide ((0 + es.length + 1) * 16 ≤ 140737488355328) then
      bif (es ++ [qp es 0]).length == 0 + es.length + 1 then some (iv (chk (((es ++ [qp es 0]).drop 0).take (0 + es.length + 1)))) else none else none else none else none
theorem qRing (f : Bool) (es : List PV) : runP Try.prog E35 60 58 [.lst f 23 es] =
  bif decide ((es.length : Int) < 3) then some (iv 2) else bif decide ((es.length : Int) ≥ 40) then some (iv 2) else ringT es := by kernel_rfl
theorem qRRing (f : Bool) (es : List PV) : runP Try.prog E35 60 59 [.lst f 23 es] =
  bif decide ((es.length : Int) < 3) then some (iv 2) else bif decide ((es.length : Int) ≥ 40) then some (iv 2) else ringT es := by kernel_rfl
theorem ringT_eq (es : List PV) : (bif decide ((es.length : Int) < 3) then some (iv 2) else bif decide ((es.length : Int) ≥ 40) then some (iv 2) else ringT es) = some (iv (rchk es)) := by
  unfold rchk
  by_cases h1 : (es.length : Int) < 3
  · rw [decide_eq_true h1]; rfl
  · by_cases h2 : (es.length : Int) ≥ 40
    · rw [decide_eq_false h1, decide_eq_true h2]; rfl
    · rw [decide_eq_false h1, decide_eq_false h2]
      unfold ringT
      have hl : (es ++ [qp es 0]).length = 0 + es.length + 1 := by simp
      rw [decide_eq_true (show (0 + es.length) * 16 ≤ 140737488355328 by omega), decide_eq_true (show 0 < (es.length : Int) by omega), decide_eq_true (show es.length = 0 + es.length by omega), decide_eq_true rfl, decide_eq_true (show (0 + es.length + 1) * 16 ≤ 140737488355328 by omega), List.drop_zero, ← hl, List.take_length]
      simp
def cRing : List PV → Option PV | [.lst _ 23 es] => some (iv (rchk es)) | _ => none
theorem oRing (args : List PV) (r : PV) (h : cRing args = some r) : Enters Try.prog 58 ∧ PCall Try.prog 58 args r := by
  unfold cRing at h; split at h
  · rename_i f es; cases h; exact runP_sound ok35 ((qRing f es).trans (ringT_eq es))
  · cases h
theorem oRRing (args : List PV) (r : PV) (h : cRing args = some r) : Enters Try.prog 59 ∧ PCall Try.prog 59 args r := by
  unfold cRing at h; split at h
  · rename_i f es; cases h; exact runP_sound ok35 ((qRRing f es).trans (ringT_eq es))
  · cases h
noncomputable def E36 : EnvK := (E35.addO 58 cRing).addO 59 cRing
theorem ok36 : EnvOK Try.prog E36.env := (ok35.addO oRing).addO oRRing
end Go.Hg
/- Geometry: Area2 and Inside of rings of any length: rounds. -/
namespace Go.Hg
open Go.Hx Go.Proofs
noncomputable def E37 : EnvK := (E36.addV 60 3 [3, 7]).addV 62 5 [3, 4, 5, 12]
theorem ok37 : EnvOK Try.prog E37.env := (ok36.addV 60 3 [3, 7]).addV 62 5 [3, 4, 5, 12]
abbrev sgg (i : Nat) : PV := .fn (.func 145) [] [.ptr i 1 0 0]
noncomputable def lrA (st : LSt) : Row := lrow 60 Try.f60 3 (tm 16 [(3, .ptr 0 1 0 0), (7, sgg 1)]) st
def shA : S1 := ⟨25, [(0, .yld 2), (1, .ptr 1 1 0 0), (5, .lst 23), (6, I64), (7, I64)], [.one 3 1 I64, .one 53 1 (.lst 23), .raw]⟩
abbrev lA (f : Bool) (es : List PV) (l i sum : Int) (f2 : Bool) (es2 : List PV) (r : Row) : LS := ([.l f es, .i l, .i i], [.i sum, .l f2 es2, .r r])
noncomputable abbrev hA (sum : Int) (f2 : Bool) (es2 : List PV) (r : Row) : List Row := (shA.put (lA true [] 0 0 sum f2 es2 r)).2
def nxW (es : List PV) (i : Int) : Int := Int.tmod (W (i + 1)) (es.length : Int)
def crW (es : List PV) (i j : Int) : Int := W (W (qX es i * qY es j) - W (qY es i * qX es j))
def nz (es : List PV) : Bool := !decide ((es.length : Int) = 0)
theorem qA (f : Bool) (es : List PV) (l i sum : Int) (f2 : Bool) : runB Try.prog E37 60 145 (lpb Try.f145 1) [0, 1, 5, 6, 7] [] (shA.put (lA f es l i sum f2 es (lrA .ready))).1 (shA.put (lA f es l i sum f2 es (lrA .ready))).2 =
  bif decide (i < l) then bif inr es i then bif nz es then bif inr es (nxW es i) then some (.normal, shA.put (lA f es l (W (i + 1)) (W (sum + crW es i (nxW es i))) f2 es (lrA .ready))) else none else none else none
  else some (.exit 0, tm 25 [], hA sum f2 es (lrA .ready)) := by kernel_rfl
def shB : S1 := ⟨22, [(0, .lst 23), (3, I64), (4, I64)], []⟩
theorem qB (f : Bool) (es : List PV) (sum i : Int) : runB Try.prog E37 60 61 (lpb Try.f61 3) [0, 3, 4] [3] (shB.put ([.l f es, .i sum, .i i], [])).1 (shB.put ([.l f es, .i sum, .i i], [])).2 =
  bif decide (i < (es.length : Int)) then bif inr es i then bif nz es then bif inr es (nxW es i) then some (.normal, shB.put ([.l f es, .i (W (sum + crW es i (nxW es i))), .i (W (i + 1))], [])) else none else none else none
  else some (.exit 0, tm 22 [(3, iv sum)], []) := by kernel_rfl
noncomputable def lrN (st : LSt) : Row := lrow 62 Try.f62 5 (tm 27 [(3, .ptr 0 1 0 0), (4, .ptr 1 1 0 0), (5, .ptr 2 1 0 0), (12, sgg 3)]) st
def shN : S1 := ⟨25, [(0, .yld 4), (1, .ptr 3 1 0 0), (5, .lst 23), (6, I64), (7, I64)], [.one 23 2 (.agg [I64, I64]), .one 3 1 I64, .one 3 1 I64, .one 53 1 (.lst 23), .raw]⟩
abbrev lN (f : Bool) (es : List PV) (l i x y res sum : Int) (f2 : Bool) (es2 : List PV) (r : Row) : LS := ([.l f es, .i l, .i i], [.i x, .i y, .i res, .i sum, .l f2 es2, .r r])
noncomputable abbrev hN (x y res sum : Int) (f2 : Bool) (es2 : List PV) (r : Row) : List Row := (shN.put (lN true [] 0 0 x y res sum f2 es2 r)).2
def onq (es : List PV) (i j x y : Int) : Bool := onX (qX es i) (qY es i) (qX es j) (qY es j) x y
def ryq (es : List PV) (i j x y : Int) : Int := ray (qX es i) (qY es i) (qX es j) (qY es j) x y
theorem qN (f : Bool) (es : List PV) (l i x y res sum : Int) (f2 : Bool) : runB Try.prog E37 60 145 (lpb Try.f145 1) [0, 1, 5, 6, 7] [] (shN.put (lN f es l i x y res sum f2 es (lrN .ready))).1 (shN.put (lN f es l i x y res sum f2 es (lrN .ready))).2 =
  bif decide (i < l) then bif inr es i then bif nz es then bif inr es (nxW es i) then
    bif onq es i (nxW es i) x y then some (.ret, tm 25 [], hN x y 0 sum f2 es (lrN (.done .ret)))
    else some (.normal, shN.put (lN f es l (W (i + 1)) x y res (W (sum + ryq es i (nxW es i) x y)) f2 es (lrN .ready))) else none else none else none
  else some (.exit 0, tm 25 [], hN x y res sum f2 es (lrN .ready)) := by kernel_rfl
def shM : S1 := ⟨40, [(0, .lst 23), (3, .ptr 0 1 0 0), (5, I64), (6, I64)], [.one 23 2 (.agg [I64, I64])]⟩
theorem qM (f : Bool) (es : List PV) (sum i x y : Int) : runB Try.prog E37 60 63 (lpb Try.f63 5) [0, 3, 5, 6] [4, 5] (shM.put ([.l f es, .i sum, .i i], [.i x, .i y])).1 (shM.put ([.l f es, .i sum, .i i], [.i x, .i y])).2 =
  bif decide (i < (es.length : Int)) then bif inr es i then bif nz es then bif inr es (nxW es i) then
    bif onq es i (nxW es i) x y then some (.ret, tm 40 [(4, iv 0), (5, iv sum)], (shM.put ([.l f es, .i sum, .i i], [.i x, .i y])).2)
    else bif inr es i then bif nz es then bif inr es (nxW es i) then some (.normal, shM.put ([.l f es, .i (W (sum + ryq es i (nxW es i) x y)), .i (W (i + 1))], [.i x, .i y])) else none else none else none else none else none else none
  else some (.exit 0, tm 40 [(5, iv sum)], (shM.put ([.l f es, .i sum, .i i], [.i x, .i y])).2) := by kernel_rfl
end Go.Hg
/- Geometry: contracts: Area2 and Inside of rings, both. -/
namespace Go.Hg
open Go.Hx Go.Proofs
def nx (es : List PV) (i : Int) : Int := Int.tmod (i + 1) (es.length : Int)
theorem nx_range {es : List PV} {i : Int} (h0 : 0 ≤ i) (h1 : i < (es.length : Int)) : 0 ≤ nx es i ∧ nx es i < (es.length : Int) := by
  unfold nx
  exact ⟨Int.tmod_nonneg _ (by omega), Int.tmod_lt_of_pos _ (by omega)⟩
theorem nx_inr {es : List PV} {i : Int} (h0 : 0 ≤ i) (h1 : i < (es.length : Int)) : inr es (nx es i) = true := by
  have := nx_range h0 h1
  exact inr_of this.1 this.2
theorem nxW_eq {es : List PV} {i : Int} (h0 : 0 ≤ i) (h1 : i < (es.length : Int)) (h : es.length ≤ 1000000) : nxW es i = nx es i := by unfold nxW nx; rw [W_id (by omega) (by omega)]
theorem nz_of {es : List PV} {i : Int} (h0 : 0 ≤ i) (h1 : i < (es.length : Int)) : nz es = true := by unfold nz; simp; intro h; subst h; simp at h1; omega
/-- The sum of the cross products from i on. -/
def arS (es : List PV) (i : Int) : Nat → Int → Int
  | 0, acc => acc
  | n + 1, acc => arS es (i + 1) n (W (acc + crW es i (nx es i)))
def onS (es : List PV) (x y i : Int) : Nat → Bool
  | 0 => false
  | n + 1 => onq es i (nx es i) x y || onS es x y (i + 1) n
def smS (es : List PV) (x y i : Int) : Nat → Int → Int
  | 0, acc => acc
  | n + 1, acc => smS es x y (i + 1) n (W (acc + ryq es i (nx es i) x y))
/-- The sum when a segment's on is met. -/
def smU (es : List PV) (x y i : Int) : Nat → Int → Int
  | 0, acc => acc
  | n + 1, acc => bif onq es i (nx es i) x y then acc else smU es x y (i + 1) n (W (acc + ryq es i (nx es i) x y))

noncomputable def pA : LS → Bool
  | ([.l _ es, .i l, .i i], [.i sum, .l f2 es2, .r r]) => decide (0 ≤ i) && decide (i ≤ (es.length : Int)) && big es && (decide (l = (es.length : Int)) && (same r (lrA .ready) && same es es2))
  | _ => false
noncomputable def fA : LS → DT (PX × List PV × List Row)
  | ([.l _ es, .i l, .i i], [.i sum, .l f2 es2, .r r]) => .leaf (.exit 0, tm 25 [], hA (arS es i ((es.length : Int) - i).toNat sum) f2 es2 r)
  | _ => .no
def mA : LS → Nat
  | ([.l _ es, .i l, .i i], [.i sum, .l f2 es2, .r r]) => ((es.length : Int) - i).toNat
  | _ => 0
theorem sA : ∀ s r, pA s = true → (fA s).run = some r → r.1 ≠ .normal ∧ (runB Try.prog E37 60 145 (lpb Try.f145 1) [0, 1, 5, 6, 7] [] (shA.put s).1 (shA.put s).2 = some r ∨
      ∃ s', runB Try.prog E37 60 145 (lpb Try.f145 1) [0, 1, 5, 6, 7] [] (shA.put s).1 (shA.put s).2 = some (.normal, shA.put s') ∧ pA s' = true ∧ mA s' < mA s ∧ (fA s').run = some r) := by
  intro s r hp hr
  unfold pA at hp; split at hp
  · rename_i f es l i sum f2 es2 r0
    simp only [Bool.and_eq_true, decide_eq_true_eq, same_iff] at hp
    obtain ⟨⟨⟨h1, h2⟩, h3⟩, rfl, rfl, rfl⟩ := hp
    have hr' := (Option.some.inj hr).symm
    refine ⟨by rw [hr']; simp, ?_⟩
    rw [qA]
    have hw := W_id (n := i + 1) (by omega) (by omega)
    by_cases hi : i < (es.length : Int)
    · rw [decide_eq_true hi, cond_true, inr_of h1 hi, nz_of h1 hi, nxW_eq h1 hi h3, nx_inr h1 hi, hw]
      simp only [cond_true]
      obtain ⟨n, hn⟩ : ∃ n, ((es.length : Int) - i).toNat = n + 1 := ⟨((es.length : Int) - i).toNat - 1, by omega⟩
      rw [hn] at hr'
      simp only [arS] at hr'
      refine .inr ⟨lA f es (es.length : Int) (i + 1) (W (sum + crW es i (nx es i))) f2 es (lrA .ready), rfl, by simp [pA, same_self]; omega, by simp only [mA]; omega, ?_⟩
      rw [hr']
      simp only [fA]
      rw [show ((es.length : Int) - (i + 1)).toNat = n by omega]
      rfl
    · rw [decide_eq_false hi]
      rw [show ((es.length : Int) - i).toNat = 0 by omega] at hr'
      exact .inl (by rw [hr']; rfl)
  · cases hp
noncomputable def E37a : EnvK := E37.addW 145 1 [0, 1, 5, 6, 7] [] shA pA fA
theorem ok37a : EnvOK Try.prog E37a.env :=
  ok37.addW (n := 60) Try.func145 (show Try.f145.body = some (bod Try.f145) by kernel_rfl) (show (loops (bod Try.f145)).filter (fun b => rid b == 1) = [lpb Try.f145 1] by kernel_rfl) [0, 1, 5, 6, 7] [] [] shA mA sA
noncomputable def pB : LS → Bool
  | ([.l _ es, .i sum, .i i], []) => decide (0 ≤ i) && decide (i ≤ (es.length : Int)) && big es
  | _ => false
noncomputable def fB : LS → DT (PX × List PV × List Row)
  | ([.l _ es, .i sum, .i i], []) => .leaf (.exit 0, tm 22 [(3, iv (arS es i ((es.length : Int) - i).toNat sum))], [])
  | _ => .no
def mB : LS → Nat
  | ([.l _ es, .i sum, .i i], []) => ((es.length : Int) - i).toNat
  | _ => 0
theorem sB : ∀ s r, pB s = true → (fB s).run = some r → r.1 ≠ .normal ∧ (runB Try.prog E37 60 61 (lpb Try.f61 3) [0, 3, 4] [3] (shB.put s).1 (shB.put s).2 = some r ∨
      ∃ s', runB Try.prog E37 60 61 (lpb Try.f61 3) [0, 3, 4] [3] (shB.put s).1 (shB.put s).2 = some (.normal, shB.put s') ∧ pB s' = true ∧ mB s' < mB s ∧ (fB s').run = some r) := by
  intro s r hp hr
  unfold pB at hp; split at hp
  · rename_i f es sum i
    simp only [Bool.and_eq_true, decide_eq_true_eq, same_iff] at hp
    obtain ⟨⟨h1, h2⟩, h3⟩ := hp
    have hr' := (Option.some.inj hr).symm
    refine ⟨by rw [hr']; simp, ?_⟩
    rw [qB]
    have hw := W_id (n := i + 1) (by omega) (by omega)
    by_cases hi : i < (es.length : Int)
    · rw [decide_eq_true hi, cond_true, inr_of h1 hi, nz_of h1 hi, nxW_eq h1 hi h3, nx_inr h1 hi, hw]
      simp only [cond_true]
      obtain ⟨n, hn⟩ : ∃ n, ((es.length : Int) - i).toNat = n + 1 := ⟨((es.length : Int) - i).toNat - 1, by omega⟩
      rw [hn] at hr'
      simp only [arS] at hr'
      refine .inr ⟨([.l f es, .i (W (sum + crW es i (nx es i))), .i (i + 1)], []), rfl, by simp [pB, same_self]; omega, by simp only [mB]; omega, ?_⟩
      rw [hr']
      simp only [fB]
      rw [show ((es.length : Int) - (i + 1)).toNat = n by omega]
      rfl
    · rw [decide_eq_false hi]
      rw [show ((es.length : Int) - i).toNat = 0 by omega] at hr'
      exact .inl (by rw [hr']; rfl)
  · cases hp
noncomputable def E37b : EnvK := E37.addW 61 3 [0, 3, 4] [] shB pB fB
theorem ok37b : EnvOK Try.prog E37b.env :=
  ok37.addW (n := 60) Try.func61 (show Try.f61.body = some (bod Try.f61) by kernel_rfl) (show (loops (bod Try.f61)).filter (fun b => rid b == 3) = [lpb Try.f61 3] by kernel_rfl) [0, 3, 4] [3] [] shB mB sB
noncomputable def pN : LS → Bool
  | ([.l _ es, .i l, .i i], [.i x, .i y, .i res, .i sum, .l f2 es2, .r r]) => decide (0 ≤ i) && decide (i ≤ (es.length : Int)) && big es && (decide (l = (es.length : Int)) && (same r (lrN .ready) && same es es2))
  | _ => false
noncomputable def fN : LS → DT (PX × List PV × List Row)
  | ([.l _ es, .i l, .i i], [.i x, .i y, .i res, .i sum, .l f2 es2, .r r]) => .br (onS es x y i ((es.length : Int) - i).toNat) (.leaf (.ret, tm 25 [], hN x y 0 (smU es x y i ((es.length : Int) - i).toNat sum) f2 es2 (lrN (.done .ret)))) (.leaf (.exit 0, tm 25 [], hN x y res (smS es x y i ((es.length : Int) - i).toNat sum) f2 es2 r))
  | _ => .no
def mN : LS → Nat
  | ([.l _ es, .i l, .i i], [.i x, .i y, .i res, .i sum, .l f2 es2, .r r]) => ((es.length : Int) - i).toNat
  | _ => 0
theorem sN : ∀ s r, pN s = true → (fN s).run = some r → r.1 ≠ .normal ∧ (runB Try.prog E37 60 145 (lpb Try.f145 1) [0, 1, 5, 6, 7] [] (shN.put s).1 (shN.put s).2 = some r ∨
      ∃ s', runB Try.prog E37 60 145 (lpb Try.f145 1) [0, 1, 5, 6, 7] [] (shN.put s).1 (shN.put s).2 = some (.normal, shN.put s') ∧ pN s' = true ∧ mN s' < mN s ∧ (fN s').run = some r) := by
  intro s r hp hr
  unfold pN at hp; split at hp
  · rename_i f es l i x y res sum f2 es2 r0
    simp only [Bool.and_eq_true, decide_eq_true_eq, same_iff] at hp
    obtain ⟨⟨⟨h1, h2⟩, h3⟩, rfl, rfl, rfl⟩ := hp
    have hr' := run_br2 hr
    refine ⟨by rw [hr']; cases onS es x y i ((es.length : Int) - i).toNat <;> simp, ?_⟩
    rw [qN]
    have hw := W_id (n := i + 1) (by omega) (by omega)
    by_cases hi : i < (es.length : Int)
    · rw [decide_eq_true hi, cond_true, inr_of h1 hi, nz_of h1 hi, nxW_eq h1 hi h3, nx_inr h1 hi, hw]
      simp only [cond_true]
      obtain ⟨n, hn⟩ : ∃ n, ((es.length : Int) - i).toNat = n + 1 := ⟨((es.length : Int) - i).toNat - 1, by omega⟩
      rw [hn] at hr'
      simp only [onS, smS, smU] at hr'
      cases hE : onq es i (nx es i) x y with
      | true => rw [hE] at hr'; exact .inl (by rw [hr']; rfl)
      | false =>
        rw [hE] at hr'
        refine .inr ⟨lN f es (es.length : Int) (i + 1) x y res (W (sum + ryq es i (nx es i) x y)) f2 es (lrN .ready), rfl, by simp [pN, same_self]; omega, by simp only [mN]; omega, ?_⟩
        rw [hr']
        simp only [fN]
        rw [show ((es.length : Int) - (i + 1)).toNat = n by omega]
        simp only [Bool.false_or, cond_false]
        cases onS es x y (i + 1) n <;> rfl
    · rw [decide_eq_false hi]
      rw [show ((es.length : Int) - i).toNat = 0 by omega] at hr'
      exact .inl (by rw [hr']; rfl)
  · cases hp
noncomputable def E37c : EnvK := E37.addW 145 1 [0, 1, 5, 6, 7] [] shN pN fN
theorem ok37c : EnvOK Try.prog E37c.env :=
  ok37.addW (n := 60) Try.func145 (show Try.f145.body = some (bod Try.f145) by kernel_rfl) (show (loops (bod Try.f145)).filter (fun b => rid b == 1) = [lpb Try.f145 1] by kernel_rfl) [0, 1, 5, 6, 7] [] [] shN mN sN
noncomputable def pM : LS → Bool
  | ([.l f es, .i sum, .i i], [.i x, .i y]) => decide (0 ≤ i) && decide (i ≤ (es.length : Int)) && big es
  | _ => false
noncomputable def fM : LS → DT (PX × List PV × List Row)
  | ([.l f es, .i sum, .i i], [.i x, .i y]) => .br (onS es x y i ((es.length : Int) - i).toNat) (.leaf (.ret, tm 40 [(4, iv 0), (5, iv (smU es x y i ((es.length : Int) - i).toNat sum))], (shM.put ([.l f es, .i sum, .i i], [.i x, .i y])).2)) (.leaf (.exit 0, tm 40 [(5, iv (smS es x y i ((es.length : Int) - i).toNat sum))], (shM.put ([.l f es, .i sum, .i i], [.i x, .i y])).2))
  | _ => .no
def mM : LS → Nat
  | ([.l f es, .i sum, .i i], [.i x, .i y]) => ((es.length : Int) - i).toNat
  | _ => 0
theorem sM : ∀ s r, pM s = true → (fM s).run = some r → r.1 ≠ .normal ∧ (runB Try.prog E37 60 63 (lpb Try.f63 5) [0, 3, 5, 6] [4, 5] (shM.put s).1 (shM.put s).2 = some r ∨
      ∃ s', runB Try.prog E37 60 63 (lpb Try.f63 5) [0, 3, 5, 6] [4, 5] (shM.put s).1 (shM.put s).2 = some (.normal, shM.put s') ∧ pM s' = true ∧ mM s' < mM s ∧ (fM s').run = some r) := by
  intro s r hp hr
  unfold pM at hp; split at hp
  · rename_i f es sum i x y
    simp only [Bool.and_eq_true, decide_eq_true_eq, same_iff] at hp
    obtain ⟨⟨h1, h2⟩, h3⟩ := hp
    have hr' := run_br2 hr
    refine ⟨by rw [hr']; cases onS es x y i ((es.length : Int) - i).toNat <;> simp, ?_⟩
    rw [qM]
    have hw := W_id (n := i + 1) (by omega) (by omega)
    by_cases hi : i < (es.length : Int)
    · rw [decide_eq_true hi, cond_true, inr_of h1 hi, nz_of h1 hi, nxW_eq h1 hi h3, nx_inr h1 hi, hw]
      simp only [cond_true]
      obtain ⟨n, hn⟩ : ∃ n, ((es.length : Int) - i).toNat = n + 1 := ⟨((es.length : Int) - i).toNat - 1, by omega⟩
      rw [hn] at hr'
      simp only [onS, smS, smU] at hr'
      cases hE : onq es i (nx es i) x y with
      | true => rw [hE] at hr'; exact .inl (by rw [hr']; rfl)
      | false =>
        rw [hE] at hr'
        refine .inr ⟨([.l f es, .i (W (sum + ryq es i (nx es i) x y)), .i (i + 1)], [.i x, .i y]), rfl, by simp [pM, same_self]; omega, by simp only [mM]; omega, ?_⟩
        rw [hr']
        simp only [fM]
        rw [show ((es.length : Int) - (i + 1)).toNat = n by omega]
        simp only [Bool.false_or, cond_false]
        cases onS es x y (i + 1) n <;> rfl
    · rw [decide_eq_false hi]
      rw [show ((es.length : Int) - i).toNat = 0 by omega] at hr'
      exact .inl (by rw [hr']; rfl)
  · cases hp
noncomputable def E37d : EnvK := E37.addW 63 5 [0, 3, 5, 6] [] shM pM fM
theorem ok37d : EnvOK Try.prog E37d.env :=
  ok37.addW (n := 60) Try.func63 (show Try.f63.body = some (bod Try.f63) by kernel_rfl) (show (loops (bod Try.f63)).filter (fun b => rid b == 5) = [lpb Try.f63 5] by kernel_rfl) [0, 3, 5, 6] [4, 5] [] shM mM sM
def ar2 (es : List PV) : Int := arS es 0 es.length 0
noncomputable def arT (f : Bool) (es : List PV) : Option PV := bif pA (lA f es (es.length : Int) 0 0 f es (lrA .ready)) then some (iv (arS es 0 ((es.length : Int) - 0).toNat 0)) else none
theorem qArea (f : Bool) (es : List PV) : runP Try.prog E37a 60 60 [.lst f 23 es] = arT f es := by kernel_rfl
theorem qRArea (f : Bool) (es : List PV) : runP Try.prog E37b 60 61 [.lst f 23 es] = bif pB ([.l f es, .i 0, .i 0], []) then some (iv (arS es 0 ((es.length : Int) - 0).toNat 0)) else none := by kernel_rfl
theorem qArea' (f : Bool) (es : List PV) (h : big es = true) : runP Try.prog E37a 60 60 [.lst f 23 es] = some (iv (ar2 es)) := by
  rw [qArea]; unfold arT ar2
  rw [show pA (lA f es (es.length : Int) 0 0 f es (lrA .ready)) = true by simp [pA, same_self]; simpa using h, show ((es.length : Int) - 0).toNat = es.length by omega]; rfl
theorem qRArea' (f : Bool) (es : List PV) (h : big es = true) : runP Try.prog E37b 60 61 [.lst f 23 es] = some (iv (ar2 es)) := by
  rw [qRArea]; unfold ar2
  rw [show pB ([.l f es, .i 0, .i 0], []) = true by simp [pB]; simpa using h, show ((es.length : Int) - 0).toNat = es.length by omega]; rfl
def cArea : List PV → Option (DT PV) | [.lst _ 23 es] => some (.br (big es) (.leaf (iv (ar2 es))) .no) | _ => none
theorem eArea : Enters Try.prog 60 := (runP_sound ok37a (qArea' true [] rfl)).1
theorem eRArea : Enters Try.prog 61 := (runP_sound ok37b (qRArea' true [] rfl)).1
theorem oArea (args : List PV) (d : DT PV) (r : PV) (h : cArea args = some d) (hr : d.run = some r) : PCall Try.prog 60 args r := by
  unfold cArea at h; split at h
  · rename_i f es; cases h; obtain ⟨h1, rfl⟩ := run_br hr; exact (runP_sound ok37a (qArea' f es h1)).2
  · cases h
theorem oRArea (args : List PV) (d : DT PV) (r : PV) (h : cArea args = some d) (hr : d.run = some r) : PCall Try.prog 61 args r := by
  unfold cArea at h; split at h
  · rename_i f es; cases h; obtain ⟨h1, rfl⟩ := run_br hr; exact (runP_sound ok37b (qRArea' f es h1)).2
  · cases h
/-- P6.5. -/
def ins (es : List PV) (x y : Int) : Int := bif rchk es != 0 then -1 else bif onS es x y 0 es.length then 0 else bif smS es x y 0 es.length 0 == 0 then -1 else 1
noncomputable def insT (f : Bool) (es : List PV) (x y : Int) : Option PV := bif rchk es != 0 then some (iv (-1)) else bif pN (lN f es (es.length : Int) 0 x y 0 0 f es (lrN .ready)) then
    bif onS es x y 0 ((es.length : Int) - 0).toNat then some (iv 0) else bif smS es x y 0 ((es.length : Int) - 0).toNat 0 == 0 then some (iv (-1)) else some (iv 1) else none
theorem qIns (f : Bool) (es : List PV) (x y : Int) : runP Try.prog E37c 60 62 [.lst f 23 es, ptv x y] = insT f es x y := by kernel_rfl
theorem qRIns (f : Bool) (es : List PV) (x y : Int) : runP Try.prog E37d 60 63 [.lst f 23 es, ptv x y] = bif rchk es != 0 then some (iv (-1)) else bif pM ([.l f es, .i 0, .i 0], [.i x, .i y]) then
    bif onS es x y 0 ((es.length : Int) - 0).toNat then some (iv 0) else bif smS es x y 0 ((es.length : Int) - 0).toNat 0 == 0 then some (iv (-1)) else some (iv 1) else none := by kernel_rfl
theorem qIns' (f : Bool) (es : List PV) (x y : Int) (h : big es = true) : runP Try.prog E37c 60 62 [.lst f 23 es, ptv x y] = some (iv (ins es x y)) := by
  rw [qIns]; unfold insT ins
  rw [show pN (lN f es (es.length : Int) 0 x y 0 0 f es (lrN .ready)) = true by simp [pN, same_self]; simpa using h, show ((es.length : Int) - 0).toNat = es.length by omega]
  cases rchk es != 0 <;> cases onS es x y 0 es.length <;> cases smS es x y 0 es.length 0 == 0 <;> rfl
theorem qRIns' (f : Bool) (es : List PV) (x y : Int) (h : big es = true) : runP Try.prog E37d 60 63 [.lst f 23 es, ptv x y] = some (iv (ins es x y)) := by
  rw [qRIns]; unfold ins
  rw [show pM ([.l f es, .i 0, .i 0], [.i x, .i y]) = true by simp [pM]; simpa using h, show ((es.length : Int) - 0).toNat = es.length by omega]
  cases rchk es != 0 <;> cases onS es x y 0 es.length <;> cases smS es x y 0 es.length 0 == 0 <;> rfl
def cIns : List PV → Option (DT PV) | [.lst _ 23 es, .agg [.val (.int .i64 x), .val (.int .i64 y)]] => some (.br (big es) (.leaf (iv (ins es x y))) .no) | _ => none
theorem eIns : Enters Try.prog 62 := (runP_sound ok37c (qIns' true [] 0 0 rfl)).1
theorem eRIns : Enters Try.prog 63 := (runP_sound ok37d (qRIns' true [] 0 0 rfl)).1
theorem oIns (args : List PV) (d : DT PV) (r : PV) (h : cIns args = some d) (hr : d.run = some r) : PCall Try.prog 62 args r := by
  unfold cIns at h; split at h
  · rename_i f es x y; cases h; obtain ⟨h1, rfl⟩ := run_br hr; exact (runP_sound ok37c (qIns' f es x y h1)).2
  · cases h
theorem oRIns (args : List PV) (d : DT PV) (r : PV) (h : cIns args = some d) (hr : d.run = some r) : PCall Try.prog 63 args r := by
  unfold cIns at h; split at h
  · rename_i f es x y; cases h; obtain ⟨h1, rfl⟩ := run_br hr; exact (runP_sound ok37d (qRIns' f es x y h1)).2
  · cases h
noncomputable def E38 : EnvK := (((E36.addF 60 cArea).addF 61 cArea).addF 62 cIns).addF 63 cIns
theorem ok38 : EnvOK Try.prog E38.env := (((ok36.addF eArea oArea).addF eRArea oRArea).addF eIns oIns).addF eRIns oRIns
end Go.Hg
/- Geometry: numbers that are drawn from a list; made rings. -/
namespace Go.Hg
open Go.Hx Go.Proofs
/-- The number at a place. -/
def dv (es : List PV) (k : Nat) : Int := ((es.getD k .any).cellAt 0).getI
def dn (es : List PV) (k : Nat) (n : Int) : Int := if es.length ≤ k then 0 else dv es k % n
def da (es : List PV) (k : Nat) : Nat := if es.length ≤ k then k else k + 1
abbrev drw (f : Bool) (es : List PV) (k : Nat) : Row := r1 117 2 (.agg [.lst f 3 es, .val (.int .i64 (Int.ofNat k))])
/-- The number that is drawn; the first one as it is known. -/
def dnr (r : Int) (es : List PV) (k : Nat) (n : Int) : Int := bif decide (k = 0) then r else dn es k n
def ckc (r : Int) (es : List PV) (k : Nat) (n : Int) : Bool := decide (0 < n) && decide (n ≤ 4611686018427387904) && decide (k < 4611686018427387904) && decide (dnr r es k n = dn es k n)
def cNxt (r : Int) : List PV → List Row → Option (DT (PV × List Row))
  | [.ptr 0 1 0 0, .val (.int .i64 n)], [⟨[.agg [.lst f 3 es, .val (.int .i64 (.ofNat k))]], 2, 117, true, true, false, none⟩] =>
    some (.br (ckc r es k n) (.leaf (iv (dnr r es k n), [drw f es (da es k)])) .no)
  | _, _ => none
theorem qNxt (es : List PV) (k : Nat) (f : Bool) (n : Int) : runR Try.prog E38 60 0 101 [.ptr 0 1 0 0, iv n] [drw f es k] =
  bif decide (((k : Nat) : Int) ≥ ((es.length : Nat) : Int)) then some (iv 0, [drw f es k])
  else bif decide (0 ≤ W (W ((k : Int) + 1) - 1)) && decide (W (W ((k : Int) + 1) - 1) < ((es.length : Nat) : Int)) then
    bif decide (0 < n) && decide (n ≤ 4611686018427387904) then some (iv (dv es (W (W ((k : Int) + 1) - 1)).toNat % n), [r1 117 2 (.agg [.lst f 3 es, iv (W ((k : Int) + 1))])]) else none
  else none := by kernel_rfl
theorem eNxt : Enters Try.prog 101 := (runR_sound ok38 (n := 60) (ro := 0) (args := [.ptr 0 1 0 0, iv 1]) (H := [drw true [] 0]) (p := iv 0) (H' := [drw true [] 0]) (by kernel_rfl)).1
theorem oNxt (r : Int) (args : List PV) (H : List Row) (d : DT (PV × List Row)) (p : PV) (H' : List Row) (h : cNxt r args H = some d) (hd : d.run = some (p, H')) : RCall Try.prog 0 101 args H p H' := by
  unfold cNxt at h; split at h
  · rename_i n f es k
    cases h
    obtain ⟨hc, he⟩ := run_br hd
    cases he
    unfold ckc at hc
    simp only [Bool.and_eq_true, decide_eq_true_eq] at hc
    obtain ⟨⟨⟨h1, h2⟩, h3⟩, h4⟩ := hc
    refine (runR_sound ok38 (n := 60) ?_).2
    rw [qNxt, h4]
    have hw : W (W ((k : Int) + 1) - 1) = k := by rw [W_id (n := (k : Int) + 1) (by omega) (by omega), W_id (by omega) (by omega)]; omega
    have hw1 : W ((k : Int) + 1) = Int.ofNat (k + 1) := by rw [W_id (by omega) (by omega)]; rfl
    unfold dn da
    rcases Nat.lt_or_ge k es.length with hk | hk
    · have g1 : decide (((k : Nat) : Int) ≥ ((es.length : Nat) : Int)) = false := by simp; omega
      have g2 : (decide (0 ≤ (k : Int)) && decide ((k : Int) < ((es.length : Nat) : Int))) = true := by simp; omega
      rw [g1, hw, g2, hw1, if_neg (by omega), if_neg (by omega)]
      simp only [h1, h2, decide_true, Bool.and_true, cond_true, cond_false, Int.toNat_natCast]
    · have g1 : decide (((k : Nat) : Int) ≥ ((es.length : Nat) : Int)) = true := by simp; omega
      rw [g1, if_pos hk, if_pos hk]; rfl
  · cases h
noncomputable def EM (r : Int) : EnvK := E38.addR 101 (cNxt r)
theorem okM (r : Int) : EnvOK Try.prog (EM r).env := ok38.addR eNxt (oNxt r)
def pos (es : List PV) : Nat → Nat | 0 => 0 | j + 1 => da es (pos es j)
theorem pos_le (es : List PV) : ∀ j, pos es j ≤ j
  | 0 => Nat.le_refl _
  | j + 1 => by simp only [pos, da]; have := pos_le es j; split <;> omega
theorem dn_ge (es : List PV) (k : Nat) {n : Int} (h : 0 < n) : 0 ≤ dn es k n := by unfold dn; split; exact Int.le_refl _; exact Int.emod_nonneg _ (by omega)
theorem dn_lt (es : List PV) (k : Nat) {n : Int} (h : 0 < n) : dn es k n < n := by unfold dn; split; exact h; exact Int.emod_lt_of_pos _ h
/-- The j-th number that is drawn. -/
def dr (es : List PV) (j : Nat) (n : Int) : Int := dn es (pos es j) n
theorem da_pos {es : List PV} (h : 0 < es.length) (k : Nat) : da es k ≠ 0 := by unfold da; split <;> omega
theorem pos_zero {es : List PV} (h : 0 < es.length) (j : Nat) : pos es (j + 1) ≠ 0 := da_pos h _
theorem dnr_eq {r : Int} {es : List PV} (h : dr es 0 4 = r) (j : Nat) {n : Int} (hn : j = 0 → n = 4) : dnr r es (pos es j) n = dr es j n := by
  unfold dnr dr
  by_cases h0 : pos es j = 0
  · rw [decide_eq_true h0, cond_true, ← h]
    cases j with
    | zero => rw [hn rfl]; rfl
    | succ j =>
      have : es.length = 0 := by
        rcases Nat.eq_zero_or_pos es.length with g | g
        · exact g
        · exact absurd h0 (pos_zero g j)
      unfold dr dn; rw [if_pos (by omega), if_pos (by omega)]
  · rw [decide_eq_false h0]; rfl
theorem ckc_of {r : Int} {es : List PV} (h : dr es 0 4 = r) (j : Nat) {n : Int} (hn : j = 0 → n = 4) (h0 : 0 < n) (h1 : n ≤ 4611686018427387904) (hj : j < 1000) : ckc r es (pos es j) n = true := by
  unfold ckc
  have := pos_le es j
  simp only [Bool.and_eq_true, decide_eq_true_eq]
  exact ⟨⟨⟨h0, h1⟩, by omega⟩, dnr_eq h j hn⟩
/-- The columns of a made ring: where it is, the lower point, the upper one. -/
def mxF (g : Nat → Int → Int) : Nat → Int
  | 0 => W (g 2 8 - 4)
  | k + 1 => W (W (mxF g k + 1) + g (5 + 3 * k) 4)
def myF (g : Nat → Int → Int) (k : Nat) : Int := W (g (3 + 3 * k) 9 - 4)
def mhF (g : Nat → Int → Int) (k : Nat) : Int := W (W (myF g k + 1) + g (4 + 3 * k) 7)
def tp (t x y : Int) : PV := ptv (trx x y t) (tryy x y t)
def mdF (g : Nat → Int → Int) (n : Nat) : List PV := ((List.range n).map fun k => tp (g 1 4) (mxF g k) (myF g k)) ++ ((List.range n).reverse.map fun k => tp (g 1 4) (mxF g k) (mhF g k))
def gr (r : Int) (es : List PV) (j : Nat) (n : Int) : Int := dnr r es (pos es j) n
def ck (r : Int) (es : List PV) (j : Nat) (n : Int) (t : Option PV) : Option PV := bif ckc r es (pos es j) n then t else none
/-- The points of a made ring. -/
def madeL (es : List PV) : List PV := mdF (dr es) (2 + (dr es 0 4).toNat)

theorem qMade0 (f : Bool) (es : List PV) : runP Try.prog (EM 0) 100 55 [.lst f 3 es] = ck 0 es 0 4 (ck 0 es 1 4 (ck 0 es 2 8 (ck 0 es 3 9 (ck 0 es 4 7 (ck 0 es 5 4 (ck 0 es 6 9 (ck 0 es 7 7 (ck 0 es 8 4 (some (.lst false 23 (mdF (gr 0 es) 2))))))))))) := by kernel_rfl
theorem qMade1 (f : Bool) (es : List PV) : runP Try.prog (EM 1) 100 55 [.lst f 3 es] = ck 1 es 0 4 (ck 1 es 1 4 (ck 1 es 2 8 (ck 1 es 3 9 (ck 1 es 4 7 (ck 1 es 5 4 (ck 1 es 6 9 (ck 1 es 7 7 (ck 1 es 8 4 (ck 1 es 9 9 (ck 1 es 10 7 (ck 1 es 11 4 (some (.lst false 23 (mdF (gr 1 es) 3)))))))))))))) := by kernel_rfl
theorem qMade2 (f : Bool) (es : List PV) : runP Try.prog (EM 2) 100 55 [.lst f 3 es] = ck 2 es 0 4 (ck 2 es 1 4 (ck 2 es 2 8 (ck 2 es 3 9 (ck 2 es 4 7 (ck 2 es 5 4 (ck 2 es 6 9 (ck 2 es 7 7 (ck 2 es 8 4 (ck 2 es 9 9 (ck 2 es 10 7 (ck 2 es 11 4 (ck 2 es 12 9 (ck 2 es 13 7 (ck 2 es 14 4 (some (.lst false 23 (mdF (gr 2 es) 4))))))))))))))))) := by kernel_rfl
theorem qMade3 (f : Bool) (es : List PV) : runP Try.prog (EM 3) 100 55 [.lst f 3 es] = ck 3 es 0 4 (ck 3 es 1 4 (ck 3 es 2 8 (ck 3 es 3 9 (ck 3 es 4 7 (ck 3 es 5 4 (ck 3 es 6 9 (ck 3 es 7 7 (ck 3 es 8 4 (ck 3 es 9 9 (ck 3 es 10 7 (ck 3 es 11 4 (ck 3 es 12 9 (ck 3 es 13 7 (ck 3 es 14 4 (ck 3 es 15 9 (ck 3 es 16 7 (ck 3 es 17 4 (some (.lst false 23 (mdF (gr 3 es) 5)))))))))))))))))))) := by kernel_rfl
theorem mdF_congr {g h : Nat → Int → Int} (e : ∀ j n, (j = 0 → n = 4) → g j n = h j n) (n : Nat) : mdF g n = mdF h n := by
  have hx : ∀ k, mxF g k = mxF h k := fun k => by
    induction k with
    | zero => simp only [mxF]; rw [e 2 8 (by omega)]
    | succ k ih => simp only [mxF]; rw [ih, e _ 4 (by omega)]
  have hy : ∀ k, myF g k = myF h k := fun k => by unfold myF; rw [e _ 9 (by omega)]
  have hh : ∀ k, mhF g k = mhF h k := fun k => by unfold mhF; rw [hy, e _ 7 (by omega)]
  unfold mdF
  rw [e 1 4 (by omega)]
  simp only [hx, hy, hh]
theorem madeT_eq {r : Int} {es : List PV} (h : dr es 0 4 = r) (n : Nat) (hn : 2 + r.toNat = n) : mdF (gr r es) n = madeL es := by
  unfold madeL
  rw [h, hn]
  exact mdF_congr (fun j m hj => dnr_eq h j hj) n
theorem ck_of {r : Int} {es : List PV} (h : dr es 0 4 = r) (j : Nat) (n : Int) (t : Option PV) (hn : j = 0 → n = 4) (h0 : 0 < n) (h1 : n ≤ 1000) (hj : j < 1000) : ck r es j n t = t := by
  unfold ck; rw [ckc_of h j hn h0 (by omega) hj]; rfl
def cMade : List PV → Option PV | [.lst _ 3 es] => some (.lst false 23 (madeL es)) | _ => none
theorem oMade (args : List PV) (r : PV) (h : cMade args = some r) : Enters Try.prog 55 ∧ PCall Try.prog 55 args r := by
  unfold cMade at h; split at h
  · rename_i f es
    cases h
    have h1 := dn_ge es (pos es 0) (n := 4) (by omega)
    have h2 := dn_lt es (pos es 0) (n := 4) (by omega)
    have h4 : dr es 0 4 = 0 ∨ dr es 0 4 = 1 ∨ dr es 0 4 = 2 ∨ dr es 0 4 = 3 := by unfold dr; omega
    rcases h4 with h | h | h | h
    · exact runP_sound (okM 0) (n := 100) (by rw [qMade0, ck_of h 0 4 _ (by omega) (by omega) (by omega) (by omega), ck_of h 1 4 _ (by omega) (by omega) (by omega) (by omega), ck_of h 2 8 _ (by omega) (by omega) (by omega) (by omega), ck_of h 3 9 _ (by omega) (by omega) (by omega) (by omega), ck_of h 4 7 _ (by omega) (by omega) (by omega) (by omega), ck_of h 5 4 _ (by omega) (by omega) (by omega) (by omega), ck_of h 6 9 _ (by omega) (by omega) (by omega) (by omega), ck_of h 7 7 _ (by omega) (by omega) (by omega) (by omega), ck_of h 8 4 _ (by omega) (by omega) (by omega) (by omega), madeT_eq h 2 (by rfl)])
    · exact runP_sound (okM 1) (n := 100) (by rw [qMade1, ck_of h 0 4 _ (by omega) (by omega) (by omega) (by omega), ck_of h 1 4 _ (by omega) (by omega) (by omega) (by omega), ck_of h 2 8 _ (by omega) (by omega) (by omega) (by omega), ck_of h 3 9 _ (by omega) (by omega) (by omega) (by omega), ck_of h 4 7 _ (by omega) (by omega) (by omega) (by omega), ck_of h 5 4 _ (by omega) (by omega) (by omega) (by omega), ck_of h 6 9 _ (by omega) (by omega) (by omega) (by omega), ck_of h 7 7 _ (by omega) (by omega) (by omega) (by omega), ck_of h 8 4 _ (by omega) (by omega) (by omega) (by omega), ck_of h 9 9 _ (by omega) (by omega) (by omega) (by omega), ck_of h 10 7 _ (by omega) (by omega) (by omega) (by omega), ck_of h 11 4 _ (by omega) (by omega) (by omega) (by omega), madeT_eq h 3 (by rfl)])
    · exact runP_sound (okM 2) (n := 100) (by rw [qMade2, ck_of h 0 4 _ (by omega) (by omega) (by omega) (by omega), ck_of h 1 4 _ (by omega) (by omega) (by omega) (by omega), ck_of h 2 8 _ (by omega) (by omega) (by omega) (by omega), ck_of h 3 9 _ (by omega) (by omega) (by omega) (by omega), ck_of h 4 7 _ (by omega) (by omega) (by omega) (by omega), ck_of h 5 4 _ (by omega) (by omega) (by omega) (by omega), ck_of h 6 9 _ (by omega) (by omega) (by omega) (by omega), ck_of h 7 7 _ (by omega) (by omega) (by omega) (by omega), ck_of h 8 4 _ (by omega) (by omega) (by omega) (by omega), ck_of h 9 9 _ (by omega) (by omega) (by omega) (by omega), ck_of h 10 7 _ (by omega) (by omega) (by omega) (by omega), ck_of h 11 4 _ (by omega) (by omega) (by omega) (by omega), ck_of h 12 9 _ (by omega) (by omega) (by omega) (by omega), ck_of h 13 7 _ (by omega) (by omega) (by omega) (by omega), ck_of h 14 4 _ (by omega) (by omega) (by omega) (by omega), madeT_eq h 4 (by rfl)])
    · exact runP_sound (okM 3) (n := 100) (by rw [qMade3, ck_of h 0 4 _ (by omega) (by omega) (by omega) (by omega), ck_of h 1 4 _ (by omega) (by omega) (by omega) (by omega), ck_of h 2 8 _ (by omega) (by omega) (by omega) (by omega), ck_of h 3 9 _ (by omega) (by omega) (by omega) (by omega), ck_of h 4 7 _ (by omega) (by omega) (by omega) (by omega), ck_of h 5 4 _ (by omega) (by omega) (by omega) (by omega), ck_of h 6 9 _ (by omega) (by omega) (by omega) (by omega), ck_of h 7 7 _ (by omega) (by omega) (by omega) (by omega), ck_of h 8 4 _ (by omega) (by omega) (by omega) (by omega), ck_of h 9 9 _ (by omega) (by omega) (by omega) (by omega), ck_of h 10 7 _ (by omega) (by omega) (by omega) (by omega), ck_of h 11 4 _ (by omega) (by omega) (by omega) (by omega), ck_of h 12 9 _ (by omega) (by omega) (by omega) (by omega), ck_of h 13 7 _ (by omega) (by omega) (by omega) (by omega), ck_of h 14 4 _ (by omega) (by omega) (by omega) (by omega), ck_of h 15 9 _ (by omega) (by omega) (by omega) (by omega), ck_of h 16 7 _ (by omega) (by omega) (by omega) (by omega), ck_of h 17 4 _ (by omega) (by omega) (by omega) (by omega), madeT_eq h 5 (by rfl)])
  · cases h
noncomputable def E39 : EnvK := E38.addO 55 cMade
theorem ok39 : EnvOK Try.prog E39.env := ok38.addO oMade
theorem madeL_len (es : List PV) : 4 ≤ (madeL es).length ∧ (madeL es).length ≤ 10 := by
  have h1 := dn_ge es (pos es 0) (n := 4) (by omega)
  have h2 := dn_lt es (pos es 0) (n := 4) (by omega)
  unfold madeL mdF dr
  simp only [List.length_append, List.length_map, List.length_range, List.length_reverse]
  omega
end Go.Hg
/- Geometry: Within, both. -/
namespace Go.Hg
open Go.Hx Go.Proofs
def dt (a b c d : Int) : Int := W (W (a * c) + W (b * d))
def crW4 (a b c d : Int) : Int := W (W (a * d) - W (b * c))
def nearT {α : Type} (a b c d x y n : Int) (k : Bool → α) : α :=
  bif decide (dt (W (x - a)) (W (y - b)) (W (c - a)) (W (d - b)) ≤ 0) then k (decide (W (4 * dt (W (x - a)) (W (y - b)) (W (x - a)) (W (y - b))) ≤ n))
  else bif decide (dt (W (x - a)) (W (y - b)) (W (c - a)) (W (d - b)) ≥ dt (W (c - a)) (W (d - b)) (W (c - a)) (W (d - b))) then k (decide (W (4 * dt (W (x - c)) (W (y - d)) (W (x - c)) (W (y - d))) ≤ n))
  else k (decide (sg2 (W (4 * crW4 (W (c - a)) (W (d - b)) (W (x - a)) (W (y - b)))) (crW4 (W (c - a)) (W (d - b)) (W (x - a)) (W (y - b))) n (dt (W (c - a)) (W (d - b)) (W (c - a)) (W (d - b))) ≤ 0))
def nearB (a b c d x y n : Int) : Bool := nearT a b c d x y n id
theorem nearT_eq {α : Type} (a b c d x y n : Int) (k : Bool → α) : nearT a b c d x y n k = k (nearB a b c d x y n) := by
  unfold nearB nearT
  cases decide (dt (W (x - a)) (W (y - b)) (W (c - a)) (W (d - b)) ≤ 0) <;> cases decide (dt (W (x - a)) (W (y - b)) (W (c - a)) (W (d - b)) ≥ dt (W (c - a)) (W (d - b)) (W (c - a)) (W (d - b))) <;> rfl
theorem qNear (a b c d x y n : Int) : runP Try.prog E39 60 121 [ptv a b, ptv c d, ptv x y, iv n] = nearT a b c d x y n (fun v => some (bv v)) := by kernel_rfl
def cNear : List PV → Option PV
  | [.agg [.val (.int .i64 a), .val (.int .i64 b)], .agg [.val (.int .i64 c), .val (.int .i64 d)], .agg [.val (.int .i64 x), .val (.int .i64 y)], .val (.int .i64 n)] => some (bv (nearB a b c d x y n))
  | _ => none
theorem oNear (args : List PV) (r : PV) (h : cNear args = some r) : Enters Try.prog 121 ∧ PCall Try.prog 121 args r := by
  unfold cNear at h; split at h
  · rename_i a b c d x y n; cases h; exact runP_sound ok39 ((qNear a b c d x y n).trans (nearT_eq a b c d x y n _))
  · cases h
noncomputable def E40 : EnvK := (E39.addO 121 cNear).addV 71 4 [4, 5, 6, 25]
theorem ok40 : EnvOK Try.prog E40.env := (ok39.addO oNear).addV 71 4 [4, 5, 6, 25]
def nrq (es : List PV) (i x y n : Int) : Bool := nearB (qX es i) (qY es i) (qX es (i + 1)) (qY es (i + 1)) x y n
/-- Some segment from i on is near. -/
def nrA (es : List PV) (x y n i : Int) : Nat → Bool
  | 0 => false
  | m + 1 => nrq es i x y n || nrA es x y n (i + 1) m
noncomputable def lrT (st : LSt) : Row := lrow 71 Try.f71 4 (tm 78 [(4, .ptr 0 1 0 0), (5, .ptr 1 1 0 0), (6, .ptr 2 1 0 0), (25, sgf 4)]) st
def shT : S1 := ⟨25, [(0, .yld 5), (1, .ptr 4 1 0 0), (3, I64)], [.one 23 2 (.agg [I64, I64]), .one 3 1 I64, .one 4 1 .bool, .many 23 2, .one 53 1 (.lst 23), .raw]⟩
abbrev lT (i x y n : Int) (res : Bool) (nl : Bool) (es3 : List PV) (f : Bool) (es : List PV) (r : Row) : LS := ([.i i], [.i x, .i y, .i n, .b res, .l nl es3, .l f es, .r r])
noncomputable abbrev hT (x y n : Int) (res : Bool) (nl : Bool) (es3 : List PV) (f : Bool) (es : List PV) (r : Row) : List Row := (shT.put (lT 0 x y n res nl es3 f es r)).2
theorem qT (i x y n : Int) (res : Bool) (nl : Bool) (es3 : List PV) (f : Bool) (es : List PV) : runB Try.prog E40 60 152 (lpb Try.f152 1) [0, 1, 3] [] (shT.put (lT i x y n res nl es3 f es (lrT .ready))).1 (shT.put (lT i x y n res nl es3 f es (lrT .ready))).2 =
  bif decide (W (i + 1) < (es.length : Int)) then bif inr es i then bif inr es (W (i + 1)) then
    nearT (qX es i) (qY es i) (qX es (W (i + 1))) (qY es (W (i + 1))) x y n (fun v => bif v then some (.ret, tm 25 [], hT x y n true nl es3 f es (lrT (.done .ret))) else some (.normal, shT.put (lT (W (i + 1)) x y n res nl es3 f es (lrT .ready))))
  else none else none else some (.exit 0, tm 25 [], hT x y n res nl es3 f es (lrT .ready)) := by kernel_rfl
def shU : S1 := ⟨37, [(0, .lst 23), (2, I64), (4, .ptr 0 1 0 0), (8, I64)], [.one 23 2 (.agg [I64, I64])]⟩
theorem qU (f : Bool) (es : List PV) (n i x y : Int) : runB Try.prog E40 60 72 (lpb Try.f72 5) [0, 2, 4, 8] [6] (shU.put ([.l f es, .i n, .i i], [.i x, .i y])).1 (shU.put ([.l f es, .i n, .i i], [.i x, .i y])).2 =
  bif decide (W (i + 1) < (es.length : Int)) then bif inr es i then bif inr es (W (i + 1)) then
    bif nearB (qX es i) (qY es i) (qX es (W (i + 1))) (qY es (W (i + 1))) x y n then some (.ret, tm 37 [(6, bv true)], (shU.put ([.l f es, .i n, .i i], [.i x, .i y])).2) else some (.normal, shU.put ([.l f es, .i n, .i (W (i + 1))], [.i x, .i y]))
  else none else none else some (.exit 0, tm 37 [], (shU.put ([.l f es, .i n, .i i], [.i x, .i y])).2) := by kernel_rfl
end Go.Hg
/- Geometry: contracts: Within, both. -/
namespace Go.Hg
open Go.Hx Go.Proofs
noncomputable def pT : LS → Bool
  | ([.i i], [.i x, .i y, .i n, .b res, .l nl es3, .l f es, .r r]) => decide (0 ≤ i) && decide (i ≤ (es.length : Int)) && big es && same r (lrT .ready)
  | _ => false
noncomputable def fT : LS → DT (PX × List PV × List Row)
  | ([.i i], [.i x, .i y, .i n, .b res, .l nl es3, .l f es, .r r]) => .br (nrA es x y n i ((es.length : Int) - (i + 1)).toNat) (.leaf (.ret, tm 25 [], hT x y n true nl es3 f es (lrT (.done .ret)))) (.leaf (.exit 0, tm 25 [], hT x y n res nl es3 f es r))
  | _ => .no
def mT : LS → Nat
  | ([.i i], [.i x, .i y, .i n, .b res, .l nl es3, .l f es, .r r]) => ((es.length : Int) - (i + 1)).toNat
  | _ => 0
theorem sT : ∀ s r, pT s = true → (fT s).run = some r → r.1 ≠ .normal ∧ (runB Try.prog E40 60 152 (lpb Try.f152 1) [0, 1, 3] [] (shT.put s).1 (shT.put s).2 = some r ∨
      ∃ s', runB Try.prog E40 60 152 (lpb Try.f152 1) [0, 1, 3] [] (shT.put s).1 (shT.put s).2 = some (.normal, shT.put s') ∧ pT s' = true ∧ mT s' < mT s ∧ (fT s').run = some r) := by
  intro s r hp hr
  unfold pT at hp; split at hp
  · rename_i i x y n res nl es3 f es r0
    simp only [Bool.and_eq_true, decide_eq_true_eq, same_iff] at hp
    obtain ⟨⟨⟨h1, h2⟩, h3⟩, rfl⟩ := hp
    have hr' := run_br2 hr
    refine ⟨by rw [hr']; cases nrA es x y n i ((es.length : Int) - (i + 1)).toNat <;> simp, ?_⟩
    rw [qT]
    have hw := W_id (n := i + 1) (by omega) (by omega)
    rw [hw]
    by_cases hi : i + 1 < (es.length : Int)
    · rw [decide_eq_true hi, cond_true, inr_of h1 (by omega), inr_of (by omega) hi]
      simp only [cond_true, nearT_eq]
      obtain ⟨m, hm⟩ : ∃ m, ((es.length : Int) - (i + 1)).toNat = m + 1 := ⟨((es.length : Int) - (i + 1)).toNat - 1, by omega⟩
      rw [hm] at hr'
      simp only [nrA, nrq] at hr'
      cases hE : nearB (qX es i) (qY es i) (qX es (i + 1)) (qY es (i + 1)) x y n with
      | true =>
        rw [hE] at hr'
        exact .inl (by rw [hr']; rfl)
      | false =>
        rw [hE] at hr'
        refine .inr ⟨lT (i + 1) x y n res nl es3 f es (lrT .ready), rfl, by simp [pT, same_self]; omega, by simp only [mT]; omega, ?_⟩
        rw [hr']
        simp only [fT]
        rw [show ((es.length : Int) - (i + 1 + 1)).toNat = m by omega]
        simp only [Bool.false_or]
        cases nrA es x y n (i + 1) m <;> rfl
    · rw [decide_eq_false hi]
      rw [show ((es.length : Int) - (i + 1)).toNat = 0 by omega] at hr'
      exact .inl (by rw [hr']; rfl)
  · cases hp
noncomputable def E40a : EnvK := E40.addW 152 1 [0, 1, 3] [] shT pT fT
theorem ok40a : EnvOK Try.prog E40a.env :=
  ok40.addW (n := 60) Try.func152 (show Try.f152.body = some (bod Try.f152) by kernel_rfl) (show (loops (bod Try.f152)).filter (fun b => rid b == 1) = [lpb Try.f152 1] by kernel_rfl) [0, 1, 3] [] [] shT mT sT
noncomputable def pU : LS → Bool
  | ([.l f es, .i n, .i i], [.i x, .i y]) => decide (0 ≤ i) && decide (i ≤ (es.length : Int)) && big es
  | _ => false
noncomputable def fU : LS → DT (PX × List PV × List Row)
  | ([.l f es, .i n, .i i], [.i x, .i y]) => .br (nrA es x y n i ((es.length : Int) - (i + 1)).toNat) (.leaf (.ret, tm 37 [(6, bv true)], (shU.put ([.l f es, .i n, .i i], [.i x, .i y])).2)) (.leaf (.exit 0, tm 37 [], (shU.put ([.l f es, .i n, .i i], [.i x, .i y])).2))
  | _ => .no
def mU : LS → Nat
  | ([.l f es, .i n, .i i], [.i x, .i y]) => ((es.length : Int) - (i + 1)).toNat
  | _ => 0
theorem sU : ∀ s r, pU s = true → (fU s).run = some r → r.1 ≠ .normal ∧ (runB Try.prog E40 60 72 (lpb Try.f72 5) [0, 2, 4, 8] [6] (shU.put s).1 (shU.put s).2 = some r ∨
      ∃ s', runB Try.prog E40 60 72 (lpb Try.f72 5) [0, 2, 4, 8] [6] (shU.put s).1 (shU.put s).2 = some (.normal, shU.put s') ∧ pU s' = true ∧ mU s' < mU s ∧ (fU s').run = some r) := by
  intro s r hp hr
  unfold pU at hp; split at hp
  · rename_i f es n i x y
    simp only [Bool.and_eq_true, decide_eq_true_eq, same_iff] at hp
    obtain ⟨⟨h1, h2⟩, h3⟩ := hp
    have hr' := run_br2 hr
    refine ⟨by rw [hr']; cases nrA es x y n i ((es.length : Int) - (i + 1)).toNat <;> simp, ?_⟩
    rw [qU]
    have hw := W_id (n := i + 1) (by omega) (by omega)
    rw [hw]
    by_cases hi : i + 1 < (es.length : Int)
    · rw [decide_eq_true hi, cond_true, inr_of h1 (by omega), inr_of (by omega) hi]
      simp only [cond_true]
      obtain ⟨m, hm⟩ : ∃ m, ((es.length : Int) - (i + 1)).toNat = m + 1 := ⟨((es.length : Int) - (i + 1)).toNat - 1, by omega⟩
      rw [hm] at hr'
      simp only [nrA, nrq] at hr'
      cases hE : nearB (qX es i) (qY es i) (qX es (i + 1)) (qY es (i + 1)) x y n with
      | true =>
        rw [hE] at hr'
        exact .inl (by rw [hr']; rfl)
      | false =>
        rw [hE] at hr'
        refine .inr ⟨([.l f es, .i n, .i (i + 1)], [.i x, .i y]), rfl, by simp [pU, same_self]; omega, by simp only [mU]; omega, ?_⟩
        rw [hr']
        simp only [fU]
        rw [show ((es.length : Int) - (i + 1 + 1)).toNat = m by omega]
        simp only [Bool.false_or]
        cases nrA es x y n (i + 1) m <;> rfl
    · rw [decide_eq_false hi]
      rw [show ((es.length : Int) - (i + 1)).toNat = 0 by omega] at hr'
      exact .inl (by rw [hr']; rfl)
  · cases hp
noncomputable def E40b : EnvK := E40.addW 72 5 [0, 2, 4, 8] [] shU pU fU
theorem ok40b : EnvOK Try.prog E40b.env :=
  ok40.addW (n := 60) Try.func72 (show Try.f72.body = some (bod Try.f72) by kernel_rfl) (show (loops (bod Try.f72)).filter (fun b => rid b == 5) = [lpb Try.f72 5] by kernel_rfl) [0, 2, 4, 8] [6] [] shU mU sU
/-- P5.3. -/
def wit (es : List PV) (x y n : Int) : Bool := fin es && right x y && nrA es x y n 0 (es.length - 1)
noncomputable def witT (f : Bool) (es : List PV) (x y n : Int) : Option PV := bif pT (lT 0 x y n false false [ptv x y] f es (lrT .ready)) then bif nrA es x y n 0 ((es.length : Int) - (0 + 1)).toNat then some (bv true) else some (bv false) else none
theorem fin_one (x y : Int) : fin [ptv x y] = right x y := by
  show (right x y && true) = right x y; simp
theorem qWit (f : Bool) (es : List PV) (x y n : Int) : runP Try.prog E40a 60 71 [.lst f 23 es, ptv x y, iv n] =
  bif big es then bif !fin es then some (bv false) else bif !fin [ptv x y] then some (bv false) else witT f es x y n else none := by kernel_rfl
theorem qRWit (f : Bool) (es : List PV) (x y n : Int) : runP Try.prog E40b 60 72 [.lst f 23 es, ptv x y, iv n] =
  bif !right x y then some (bv false) else bif big es then bif !fin es then some (bv false) else bif pU ([.l f es, .i n, .i 0], [.i x, .i y]) then bif nrA es x y n 0 ((es.length : Int) - (0 + 1)).toNat then some (bv true) else some (bv false) else none else none := by kernel_rfl
theorem qWit' (f : Bool) (es : List PV) (x y n : Int) (h : big es = true) : runP Try.prog E40a 60 71 [.lst f 23 es, ptv x y, iv n] = some (bv (wit es x y n)) := by
  have h' : es.length ≤ 1000000 := by simpa using h
  rw [qWit, h, fin_one]; unfold witT wit
  rw [show pT (lT 0 x y n false false [ptv x y] f es (lrT .ready)) = true by simp [pT, same_self]; omega, show ((es.length : Int) - (0 + 1)).toNat = es.length - 1 by omega]
  cases fin es <;> cases right x y <;> cases nrA es x y n 0 (es.length - 1) <;> rfl
theorem qRWit' (f : Bool) (es : List PV) (x y n : Int) (h : big es = true) : runP Try.prog E40b 60 72 [.lst f 23 es, ptv x y, iv n] = some (bv (wit es x y n)) := by
  have h' : es.length ≤ 1000000 := by simpa using h
  rw [qRWit, h]; unfold wit
  rw [show pU ([.l f es, .i n, .i 0], [.i x, .i y]) = true by simp [pU]; omega, show ((es.length : Int) - (0 + 1)).toNat = es.length - 1 by omega]
  cases fin es <;> cases right x y <;> cases nrA es x y n 0 (es.length - 1) <;> rfl
def cWit : List PV → Option (DT PV) | [.lst _ 23 es, .agg [.val (.int .i64 x), .val (.int .i64 y)], .val (.int .i64 n)] => some (.br (big es) (.leaf (bv (wit es x y n))) .no) | _ => none
theorem eWit : Enters Try.prog 71 := (runP_sound ok40a (qWit' true [] 0 0 0 rfl)).1
theorem eRWit : Enters Try.prog 72 := (runP_sound ok40b (qRWit' true [] 0 0 0 rfl)).1
theorem oWit (args : List PV) (d : DT PV) (r : PV) (h : cWit args = some d) (hr : d.run = some r) : PCall Try.prog 71 args r := by
  unfold cWit at h; split at h
  · rename_i f es x y n; cases h; obtain ⟨h1, rfl⟩ := run_br hr; exact (runP_sound ok40a (qWit' f es x y n h1)).2
  · cases h
theorem oRWit (args : List PV) (d : DT PV) (r : PV) (h : cWit args = some d) (hr : d.run = some r) : PCall Try.prog 72 args r := by
  unfold cWit at h; split at h
  · rename_i f es x y n; cases h; obtain ⟨h1, rfl⟩ := run_br hr; exact (runP_sound ok40b (qRWit' f es x y n h1)).2
  · cases h
noncomputable def E41 : EnvK := (E39.addF 71 cWit).addF 72 cWit
theorem ok41 : EnvOK Try.prog E41.env := (ok39.addF eWit oWit).addF eRWit oRWit
end Go.Hg
/- Geometry: made lists of points. -/
namespace Go.Hg
open Go.Hx Go.Proofs
/-- The number at a place, the place being any number. -/
def dI (es : List PV) (a n : Int) : Int := if (es.length : Int) ≤ a then 0 else dv es a.toNat % n
def aI (es : List PV) (a : Int) : Int := if (es.length : Int) ≤ a then a else a + 1
abbrev drI (f : Bool) (es : List PV) (a : Int) : Row := r1 117 2 (.agg [.lst f 3 es, iv a])
def okA (a n : Int) : Bool := decide (0 ≤ a) && decide (a < 4611686018427387904) && decide (0 < n) && decide (n ≤ 4611686018427387904)
def cNxI : List PV → List Row → Option (DT (PV × List Row))
  | [.ptr 0 1 0 0, .val (.int .i64 n)], [⟨[.agg [.lst f 3 es, .val (.int .i64 a)]], 2, 117, true, true, false, none⟩] =>
    some (.br (okA a n) (.leaf (iv (dI es a n), [drI f es (aI es a)])) .no)
  | _, _ => none
theorem qNxI (es : List PV) (a : Int) (f : Bool) (n : Int) : runR Try.prog E38 60 0 101 [.ptr 0 1 0 0, iv n] [drI f es a] =
  bif decide (a ≥ ((es.length : Nat) : Int)) then some (iv 0, [drI f es a])
  else bif decide (0 ≤ W (W (a + 1) - 1)) && decide (W (W (a + 1) - 1) < ((es.length : Nat) : Int)) then
    bif decide (0 < n) && decide (n ≤ 4611686018427387904) then some (iv (dv es (W (W (a + 1) - 1)).toNat % n), [drI f es (W (a + 1))]) else none
  else none := by kernel_rfl
theorem oNxI (args : List PV) (H : List Row) (d : DT (PV × List Row)) (p : PV) (H' : List Row) (h : cNxI args H = some d) (hd : d.run = some (p, H')) : RCall Try.prog 0 101 args H p H' := by
  unfold cNxI at h; split at h
  · rename_i n f es a
    cases h
    obtain ⟨hc, he⟩ := run_br hd
    cases he
    unfold okA at hc
    simp only [Bool.and_eq_true, decide_eq_true_eq] at hc
    obtain ⟨⟨⟨h0, h3⟩, h1⟩, h2⟩ := hc
    refine (runR_sound ok38 (n := 60) ?_).2
    rw [qNxI]
    have hw1 : W (a + 1) = a + 1 := W_id (by omega) (by omega)
    have hw : W (W (a + 1) - 1) = a := by rw [hw1, W_id (by omega) (by omega)]; omega
    unfold dI aI
    by_cases hk : (es.length : Int) ≤ a
    · have g1 : decide (a ≥ ((es.length : Nat) : Int)) = true := by simp; omega
      rw [g1, if_pos hk, if_pos hk]; rfl
    · have g1 : decide (a ≥ ((es.length : Nat) : Int)) = false := by simp; omega
      have g2 : (decide (0 ≤ a) && decide (a < ((es.length : Nat) : Int))) = true := by simp; omega
      rw [g1, hw, g2, hw1, if_neg (by omega), if_neg (by omega)]
      simp only [h1, h2, decide_true, Bool.and_true, cond_true, cond_false]
  · cases h
noncomputable def E42 : EnvK := (E41.addR 101 cNxI).addN 69 6 [(5, 23, 2)]
theorem ok42 : EnvOK Try.prog E42.env := (ok41.addR eNxt oNxI).addN 69 6 [(5, 23, 2)]
def shG : S1 := ⟨64, [(3, .ptr 0 1 0 0), (4, I64), (5, .sl 2), (6, .ptr 1 1 0 0), (7, I64)], [.one 117 2 (.agg [.lst 3, I64]), .one 23 2 (.agg [I64, I64]), .many 23 2]⟩
abbrev lG (many : Int) (n l : Nat) (k : Int) (f : Bool) (L : List PV) (a x y : Int) (nl : Bool) (es : List PV) : LS := ([.i many, .n n, .n l, .i k], [.l f L, .i a, .i x, .i y, .l nl es])
noncomputable abbrev hG (f : Bool) (L : List PV) (a x y : Int) (nl : Bool) (es : List PV) : List Row := (shG.put (lG 0 0 0 0 f L a x y nl es)).2
def room (es : List PV) (n l : Nat) : Bool := decide (es.length = n) && decide (n = l) && decide ((n + 1) * 16 ≤ 140737488355328)
theorem qG (many : Int) (n l : Nat) (k : Int) (f : Bool) (L : List PV) (a x y : Int) (nl : Bool) (es : List PV) : runB Try.prog E42 60 69 (lpb Try.f69 6) [3, 4, 5, 6, 7] [3, 4, 5] (shG.put (lG many n l k f L a x y nl es)).1 (shG.put (lG many n l k f L a x y nl es)).2 =
  bif decide (k < many) then bif room es n l then bif okA a 2 then bif dI L a 2 == 0 then
    bif okA (aI L a) 12 then some (.normal, shG.put (lG many (n + 1) (n + 1) (W (k + 1)) f L (aI L (aI L a)) (Int.tmod (W (W (x + 1) + dI L (aI L a) 12)) 13) y (nl && false) (es ++ [ptv x y]))) else none
  else bif okA (aI L a) 13 then bif okA (aI L (aI L a)) 12 then some (.normal, shG.put (lG many (n + 1) (n + 1) (W (k + 1)) f L (aI L (aI L (aI L a))) (dI L (aI L a) 13) (Int.tmod (W (W (y + 1) + dI L (aI L (aI L a)) 12)) 13) (nl && false) (es ++ [ptv x y]))) else none else none
  else none else none else some (.exit 0, tm 64 [(3, .ptr 0 1 0 0), (4, iv many), (5, .sl 2 n 0 l)], hG f L a x y nl es) := by kernel_rfl
end Go.Hg
/- Geometry: contracts: made lists of points. -/
namespace Go.Hg
open Go.Hx Go.Proofs
theorem dI_ge (es : List PV) (k : Int) {n : Int} (h : 0 < n) : 0 ≤ dI es k n := by unfold dI; split; exact Int.le_refl _; exact Int.emod_nonneg _ (by omega)
theorem dI_lt (es : List PV) (k : Int) {n : Int} (h : 0 < n) : dI es k n < n := by unfold dI; split; exact h; exact Int.emod_lt_of_pos _ h
theorem aI_le (es : List PV) (a : Int) : a ≤ aI es a ∧ aI es a ≤ a + 1 := by unfold aI; split <;> omega
abbrev T3 := Int × Int × Int
/-- One more point: where the numbers go on, and the next point. -/
def gstep (L : List PV) (s : T3) : T3 :=
  if dI L s.1 2 = 0 then (aI L (aI L s.1), Int.tmod (s.2.1 + 1 + dI L (aI L s.1) 12) 13, s.2.2)
  else (aI L (aI L (aI L s.1)), dI L (aI L s.1) 13, Int.tmod (s.2.2 + 1 + dI L (aI L (aI L s.1)) 12) 13)
def giter (L : List PV) : Nat → T3 → T3
  | 0, s => s
  | m + 1, s => giter L m (gstep L s)
def glist (L : List PV) : Nat → T3 → List PV
  | 0, _ => []
  | m + 1, s => ptv s.2.1 s.2.2 :: glist L m (gstep L s)
theorem glist_len (L : List PV) : ∀ (m : Nat) (s : T3), (glist L m s).length = m
  | 0, _ => rfl
  | m + 1, s => by simp [glist, glist_len L m]
def sp (s : T3) : Prop := (0 ≤ s.2.1 ∧ s.2.1 < 13) ∧ (0 ≤ s.2.2 ∧ s.2.2 < 13)
theorem gstep_sp {L : List PV} {s : T3} (h : sp s) : sp (gstep L s) := by
  obtain ⟨⟨h1, h2⟩, h3, h4⟩ := h
  unfold gstep
  have d1 := dI_ge L (aI L s.1) (n := 12) (by omega)
  have d2 := dI_ge L (aI L (aI L s.1)) (n := 12) (by omega)
  have d3 := dI_ge L (aI L s.1) (n := 13) (by omega)
  have d4 := dI_lt L (aI L s.1) (n := 13) (by omega)
  split
  · exact ⟨⟨Int.tmod_nonneg _ (by omega), Int.tmod_lt_of_pos _ (by omega)⟩, h3, h4⟩
  · exact ⟨⟨d3, d4⟩, Int.tmod_nonneg _ (by omega), Int.tmod_lt_of_pos _ (by omega)⟩
theorem gstep_at (L : List PV) (s : T3) : s.1 ≤ (gstep L s).1 ∧ (gstep L s).1 ≤ s.1 + 3 := by
  have h1 := aI_le L s.1
  have h2 := aI_le L (aI L s.1)
  have h3 := aI_le L (aI L (aI L s.1))
  unfold gstep
  split
  · show s.1 ≤ aI L (aI L s.1) ∧ aI L (aI L s.1) ≤ s.1 + 3; omega
  · show s.1 ≤ aI L (aI L (aI L s.1)) ∧ aI L (aI L (aI L s.1)) ≤ s.1 + 3; omega
theorem giter_at (L : List PV) : ∀ (m : Nat) (s : T3), s.1 ≤ (giter L m s).1 ∧ (giter L m s).1 ≤ s.1 + 3 * m
  | 0, s => by simp [giter]
  | m + 1, s => by
    have h1 := gstep_at L s
    have h2 := giter_at L m (gstep L s)
    simp only [giter]
    omega
def pG5 : LS → Bool
  | ([.i many, .n n, .n l, .i k], [.l _ _, .i a, .i x, .i y, .l _ es]) => decide (0 ≤ k) && decide (k ≤ many) && decide (many ≤ 6) && decide (n = es.length) && decide (l = n) && decide ((n : Int) ≤ k) && (decide (0 ≤ a) && decide (a ≤ 3 + 3 * k)) && (decide (0 ≤ x) && decide (x < 13) && (decide (0 ≤ y) && decide (y < 13)))
  | _ => false
noncomputable def fG5 : LS → DT (PX × List PV × List Row)
  | ([.i many, .n n, .n _, .i k], [.l f L, .i a, .i x, .i y, .l nl es]) => .leaf (.exit 0, tm 64 [(3, .ptr 0 1 0 0), (4, iv many), (5, .sl 2 (n + (many - k).toNat) 0 (n + (many - k).toNat))],
      hG f L (giter L (many - k).toNat (a, x, y)).1 (giter L (many - k).toNat (a, x, y)).2.1 (giter L (many - k).toNat (a, x, y)).2.2 (nl && decide ((many - k).toNat = 0)) (es ++ glist L (many - k).toNat (a, x, y)))
  | _ => .no
def mG5 : LS → Nat
  | ([.i many, .n _, .n _, .i k], [.l _ _, .i _, .i _, .i _, .l _ _]) => (many - k).toNat
  | _ => 0
theorem sG5 : ∀ s r, pG5 s = true → (fG5 s).run = some r → r.1 ≠ .normal ∧ (runB Try.prog E42 60 69 (lpb Try.f69 6) [3, 4, 5, 6, 7] [3, 4, 5] (shG.put s).1 (shG.put s).2 = some r ∨
      ∃ s', runB Try.prog E42 60 69 (lpb Try.f69 6) [3, 4, 5, 6, 7] [3, 4, 5] (shG.put s).1 (shG.put s).2 = some (.normal, shG.put s') ∧ pG5 s' = true ∧ mG5 s' < mG5 s ∧ (fG5 s').run = some r) := by
  intro s r hp hr
  unfold pG5 at hp; split at hp
  · rename_i many n l k f L a x y nl es
    simp only [Bool.and_eq_true, decide_eq_true_eq] at hp
    obtain ⟨⟨⟨⟨⟨⟨⟨h1, h2⟩, h3⟩, h4⟩, h5⟩, h6⟩, h7, h8⟩, ⟨h9, h10⟩, h11, h12⟩ := hp
    have hr' := (Option.some.inj hr).symm
    refine ⟨by rw [hr']; simp, ?_⟩
    rw [qG]
    subst h4 h5
    by_cases hi : k < many
    · have hw := W_id (n := k + 1) (by omega) (by omega)
      have hroom : room es es.length es.length = true := by unfold room; simp; omega
      have a1 := aI_le L a
      have a2 := aI_le L (aI L a)
      have a3 := aI_le L (aI L (aI L a))
      have d1 := dI_ge L (aI L a) (n := 12) (by omega)
      have d1' := dI_lt L (aI L a) (n := 12) (by omega)
      have d2 := dI_ge L (aI L (aI L a)) (n := 12) (by omega)
      have d2' := dI_lt L (aI L (aI L a)) (n := 12) (by omega)
      have d3 := dI_ge L (aI L a) (n := 13) (by omega)
      have d3' := dI_lt L (aI L a) (n := 13) (by omega)
      have ok : ∀ {b n : Int}, 0 ≤ b → b ≤ 1000 → 0 < n → n ≤ 1000 → okA b n = true := fun g1 g2 g3 g4 => by unfold okA; simp; omega
      have w1 : W (W (x + 1) + dI L (aI L a) 12) = x + 1 + dI L (aI L a) 12 := by rw [W_id (n := x + 1) (by omega) (by omega), W_id (by omega) (by omega)]
      have w2 : W (W (y + 1) + dI L (aI L (aI L a)) 12) = y + 1 + dI L (aI L (aI L a)) 12 := by rw [W_id (n := y + 1) (by omega) (by omega), W_id (by omega) (by omega)]
      rw [decide_eq_true hi, cond_true, hroom, hw, w1, w2, ok h7 (by omega) (by omega) (by omega), ok (b := aI L a) (n := 12) (by omega) (by omega) (by omega) (by omega), ok (b := aI L a) (n := 13) (by omega) (by omega) (by omega) (by omega), ok (b := aI L (aI L a)) (n := 12) (by omega) (by omega) (by omega) (by omega)]
      simp only [cond_true, Bool.and_false]
      obtain ⟨m, hm⟩ : ∃ m, (many - k).toNat = m + 1 := ⟨(many - k).toNat - 1, by omega⟩
      have hm2 : (many - (k + 1)).toNat = m := by omega
      have hg : gstep L (a, x, y) = bif dI L a 2 == 0 then (aI L (aI L a), Int.tmod (x + 1 + dI L (aI L a) 12) 13, y) else (aI L (aI L (aI L a)), dI L (aI L a) 13, Int.tmod (y + 1 + dI L (aI L (aI L a)) 12) 13) := by
        unfold gstep
        by_cases h0 : dI L a 2 = 0
        · rw [if_pos h0, show (dI L a 2 == 0) = true by simpa using h0]; rfl
        · rw [if_neg h0, show (dI L a 2 == 0) = false by simpa using h0]; rfl
      rw [hm] at hr'
      simp only [giter, glist, hg] at hr'
      right
      have t1 : ∀ z : Int, 0 ≤ z → 0 ≤ Int.tmod z 13 ∧ Int.tmod z 13 < 13 := fun z hz => ⟨Int.tmod_nonneg _ hz, Int.tmod_lt_of_pos _ (by omega)⟩
      have e1 := t1 (x + 1 + dI L (aI L a) 12) (by omega)
      have e2 := t1 (y + 1 + dI L (aI L (aI L a)) 12) (by omega)
      cases h0 : dI L a 2 == 0 with
      | true =>
        rw [h0] at hr'
        simp only [cond_true] at hr' ⊢
        refine ⟨lG many (es.length + 1) (es.length + 1) (k + 1) f L (aI L (aI L a)) (Int.tmod (x + 1 + dI L (aI L a) 12) 13) y false (es ++ [ptv x y]), rfl, by simp [pG5]; omega, by simp only [mG5]; omega, ?_⟩
        rw [hr']
        simp only [fG5, hm2, List.append_assoc, List.cons_append, List.nil_append, Bool.false_and]
        rw [show es.length + 1 + m = es.length + (m + 1) by omega]
        simp [DT.run]
      | false =>
        rw [h0] at hr'
        simp only [cond_false] at hr' ⊢
        refine ⟨lG many (es.length + 1) (es.length + 1) (k + 1) f L (aI L (aI L (aI L a))) (dI L (aI L a) 13) (Int.tmod (y + 1 + dI L (aI L (aI L a)) 12) 13) false (es ++ [ptv x y]), rfl, by simp [pG5]; omega, by simp only [mG5]; omega, ?_⟩
        rw [hr']
        simp only [fG5, hm2, List.append_assoc, List.cons_append, List.nil_append, Bool.false_and]
        rw [show es.length + 1 + m = es.length + (m + 1) by omega]
        simp [DT.run]
    · rw [decide_eq_false hi]
      rw [show (many - k).toNat = 0 by omega] at hr'
      exact .inl (by rw [hr']; simp [giter, glist])
  · cases hp
noncomputable def E42a : EnvK := E42.addW 69 6 [3, 4, 5, 6, 7] [] shG pG5 fG5
theorem ok42a : EnvOK Try.prog E42a.env :=
  ok42.addW (n := 60) Try.func69 (show Try.f69.body = some (bod Try.f69) by kernel_rfl) (show (loops (bod Try.f69)).filter (fun b => rid b == 6) = [lpb Try.f69 6] by kernel_rfl) [3, 4, 5, 6, 7] [3, 4, 5] [] shG mG5 sG5
end Go.Hg
/- Geometry: contracts: made lists of points, their value. -/
namespace Go.Hg
open Go.Hx Go.Proofs
def m5W (L : List PV) : Int := W (2 + dI L 0 5)
def s05 (L : List PV) : T3 := (aI L (aI L (aI L 0)), dI L (aI L 0) 13, dI L (aI L (aI L 0)) 13)
def g5W (L : List PV) : List PV := glist L (m5W L - 0).toNat (s05 L)
def e5W (L : List PV) : Int := (giter L (m5W L - 0).toNat (s05 L)).1
def r5 (g : List PV) (N : Nat) : Option PV := bif g.length == N then some (.lst false 23 ((g.drop 0).take N)) else none
def st5 (g : List PV) (m : Int) (N : Nat) : Option PV :=
  bif (g.length == N) && true then bif decide (0 < (N : Int)) then bif g.length == N then bif (g.length == N) && true then bif decide (0 ≤ W (m - 1)) && decide (W (m - 1) < (N : Int)) then
    bif (g.length == N) && true && true && true then r5 (g.set (0 + (W (m - 1)).toNat) (qp g 0)) N else none else none else none else none else none else none
theorem qMade5 (f : Bool) (L : List PV) : runP Try.prog E42a 60 69 [.lst f 3 L] =
  bif okA (aI L 0) 13 then bif okA (aI L (aI L 0)) 13 then bif pG5 (lG (m5W L) 0 0 0 f L (s05 L).1 (s05 L).2.1 (s05 L).2.2 true []) then
    bif decide (m5W L > 3) then bif okA (e5W L) 3 then bif dI L (e5W L) 3 == 0 then st5 (g5W L) (m5W L) (0 + (m5W L - 0).toNat) else r5 (g5W L) (0 + (m5W L - 0).toNat) else none
    else r5 (g5W L) (0 + (m5W L - 0).toNat) else none else none else none := by kernel_rfl
def mn5 (L : List PV) : Nat := 2 + (dI L 0 5).toNat
def g5 (L : List PV) : List PV := glist L (mn5 L) (s05 L)
def shut5 (L : List PV) : Bool := decide (mn5 L > 3) && (dI L (giter L (mn5 L) (s05 L)).1 3 == 0)
/-- The points of a made list. -/
def made5 (L : List PV) : List PV := bif shut5 L then (g5 L).set (mn5 L - 1) (qp (g5 L) 0) else g5 L
theorem mn5_le (L : List PV) : 2 ≤ mn5 L ∧ mn5 L ≤ 6 := by
  have h1 := dI_ge L 0 (n := 5) (by omega)
  have h2 := dI_lt L 0 (n := 5) (by omega)
  unfold mn5; omega
theorem qMade5' (f : Bool) (L : List PV) : runP Try.prog E42a 60 69 [.lst f 3 L] = some (.lst false 23 (made5 L)) := by
  rw [qMade5]
  have h1 := dI_ge L 0 (n := 5) (by omega)
  have h2 := dI_lt L 0 (n := 5) (by omega)
  have hn := mn5_le L
  have a1 := aI_le L 0
  have a2 := aI_le L (aI L 0)
  have a3 := aI_le L (aI L (aI L 0))
  have d1 := dI_ge L (aI L 0) (n := 13) (by omega)
  have d1' := dI_lt L (aI L 0) (n := 13) (by omega)
  have d2 := dI_ge L (aI L (aI L 0)) (n := 13) (by omega)
  have d2' := dI_lt L (aI L (aI L 0)) (n := 13) (by omega)
  have ok : ∀ {b n : Int}, 0 ≤ b → b ≤ 1000 → 0 < n → n ≤ 1000 → okA b n = true := fun g1 g2 g3 g4 => by unfold okA; simp; omega
  have hm : m5W L = (mn5 L : Int) := by unfold m5W mn5; rw [W_id (by omega) (by omega)]; omega
  have hN : 0 + (m5W L - 0).toNat = mn5 L := by omega
  have hN' : (m5W L - 0).toNat = mn5 L := by omega
  have hg : g5W L = g5 L := by unfold g5W g5; rw [hN']
  have he : e5W L = (giter L (mn5 L) (s05 L)).1 := by unfold e5W; rw [hN']
  have hl : (g5 L).length = mn5 L := glist_len L _ _
  have hat := giter_at L (mn5 L) (s05 L)
  have hs : (s05 L).1 = aI L (aI L (aI L 0)) := rfl
  have hp : pG5 (lG (m5W L) 0 0 0 f L (s05 L).1 (s05 L).2.1 (s05 L).2.2 true []) = true := by
    rw [hm]
    show pG5 ([.i (mn5 L : Int), .n 0, .n 0, .i 0], [.l f L, .i (aI L (aI L (aI L 0))), .i (dI L (aI L 0) 13), .i (dI L (aI L (aI L 0)) 13), .l true []]) = true
    simp only [pG5, Bool.and_eq_true, decide_eq_true_eq, List.length_nil]
    refine ⟨⟨⟨⟨⟨⟨⟨?_, ?_⟩, ?_⟩, ?_⟩, ?_⟩, ?_⟩, ?_, ?_⟩, ⟨?_, ?_⟩, ?_, ?_⟩ <;> first | trivial | omega
  have r5_eq : ∀ g : List PV, g.length = mn5 L → r5 g (mn5 L) = some (.lst false 23 g) := by
    intro g h
    unfold r5
    rw [h, List.drop_zero, ← h, List.take_length]
    simp
  rw [ok (b := aI L 0) (n := 13) (by omega) (by omega) (by omega) (by omega), ok (b := aI L (aI L 0)) (n := 13) (by omega) (by omega) (by omega) (by omega), hp, he, hN, hg, ok (b := (giter L (mn5 L) (s05 L)).1) (n := 3) (by omega) (by omega) (by omega) (by omega)]
  simp only [cond_true]
  rw [r5_eq _ hl]
  unfold made5 shut5
  by_cases h3 : mn5 L > 3
  · rw [show decide (m5W L > 3) = true by simp; omega, show decide (mn5 L > 3) = true by simp; omega]
    cases hc : dI L (giter L (mn5 L) (s05 L)).1 3 == 0 with
    | false => rfl
    | true =>
      simp only [cond_true, Bool.and_self]
      unfold st5
      have hw : W (m5W L - 1) = (mn5 L : Int) - 1 := by rw [hm, W_id (by omega) (by omega)]
      rw [hl, hw, show ((mn5 L == mn5 L) && true) = true by simp, show (mn5 L == mn5 L) = true by simp, show decide (0 < (mn5 L : Int)) = true by simp; omega, show (decide (0 ≤ (mn5 L : Int) - 1) && decide ((mn5 L : Int) - 1 < (mn5 L : Int))) = true by simp; omega]
      simp only [cond_true, Bool.and_self]
      rw [show 0 + ((mn5 L : Int) - 1).toNat = mn5 L - 1 by omega]
      exact r5_eq _ (by rw [List.length_set]; exact hl)
  · rw [show decide (m5W L > 3) = false by simp; omega, show decide (mn5 L > 3) = false by simp; omega]
    rfl
theorem made5_len (L : List PV) : 2 ≤ (made5 L).length ∧ (made5 L).length ≤ 6 := by
  have hn := mn5_le L
  have hl : (g5 L).length = mn5 L := glist_len L _ _
  unfold made5
  cases shut5 L <;> simp only [cond_true, cond_false, List.length_set] <;> omega
def cMade5 : List PV → Option PV | [.lst _ 3 L] => some (.lst false 23 (made5 L)) | _ => none
theorem oMade5 (args : List PV) (r : PV) (h : cMade5 args = some r) : Enters Try.prog 69 ∧ PCall Try.prog 69 args r := by
  unfold cMade5 at h; split at h
  · rename_i f L; cases h; exact runP_sound ok42a (qMade5' f L)
  · cases h
noncomputable def E43 : EnvK := E41.addO 69 cMade5
theorem ok43 : EnvOK Try.prog E43.env := ok41.addO oMade5
end Go.Hg
/- Geometry: the sanity of chapter 05. -/
namespace Go.Hg
open Go.Hx Go.Proofs
noncomputable def E44 : EnvK := (E43.addK 119).addK 149
theorem ok44 : EnvOK Try.prog E44.env := (ok43.addK 119).addK 149
theorem qSan5 : runP Try.prog E44 100 68 [] = some (bv true) := by kernel_rfl
end Go.Hg
/- Geometry: LineWithins answers true. -/
namespace Go.Hg
open Go.Hx Go.Proofs
def cSan5 : List PV → Option PV | [] => some (bv true) | _ => none
theorem oSan5 (args : List PV) (r : PV) (h : cSan5 args = some r) : Enters Try.prog 68 ∧ PCall Try.prog 68 args r := by
  unfold cSan5 at h; split at h
  · cases h; exact runP_sound ok44 (n := 100) qSan5
  · cases h
noncomputable def E45 : EnvK := E44.addO 68 cSan5
theorem ok45 : EnvOK Try.prog E45.env := ok44.addO oSan5
def mn8 (es : List PV) : Int := if 8 < ((es.length : Nat) : Int) then 8 else ((es.length : Nat) : Int)
def few (es : List PV) : List PV := es.take (mn8 es).toNat
def cFew : List PV → Option PV | [.lst f 23 es] => some (.lst (f && false) 23 (few es)) | _ => none
theorem qFew (f : Bool) (es : List PV) : runP Try.prog E44 60 73 [.lst f 23 es] = bif decide (0 ≤ mn8 es) && decide (mn8 es ≤ (es.length : Int)) then some (.lst (f && false) 23 (few es)) else none := by kernel_rfl
theorem mn8_ok (es : List PV) : (decide (0 ≤ mn8 es) && decide (mn8 es ≤ ((es.length : Nat) : Int))) = true := by unfold mn8; simp; split <;> omega
theorem few_len (es : List PV) : (few es).length ≤ 8 := by unfold few mn8; rw [List.length_take]; split <;> omega
theorem oFew (args : List PV) (r : PV) (h : cFew args = some r) : Enters Try.prog 73 ∧ PCall Try.prog 73 args r := by
  unfold cFew at h; split at h
  · rename_i f es; cases h; exact runP_sound ok44 (n := 60) (by rw [qFew, mn8_ok]; rfl)
  · cases h
noncomputable def E46 : EnvK := E45.addO 73 cFew
theorem ok46 : EnvOK Try.prog E46.env := ok45.addO oFew
def wi (es : List PV) (x y n : Int) (k : Option PV) : Option PV := bif big es then bif big es then bif wit es x y n != wit es x y n then some (bv false) else k else none else none
def wi4 (A R : List PV) (x y n : Int) (k : Option PV) : Option PV := wi A (Int.tmod x 20) (Int.tmod y 20) n (wi A x y n (wi (few R) x y n (wi (few R) (Int.tmod x 20) (Int.tmod y 20) n k)))
theorem q17 (f g : Bool) (L R : List PV) (x y n : Int) : runP Try.prog E46 100 16 [.lst f 3 L, .lst g 23 R, .agg [iv x, iv y, iv n]] =
  wi4 (made5 L) R x y n (wi4 (made5 L) R x y (Int.tmod n 2000) (some (bv true))) := by kernel_rfl
theorem wi_eq {es : List PV} (h : es.length ≤ 1000000) (x y n : Int) (k : Option PV) : wi es x y n k = k := by
  unfold wi; rw [show big es = true by simpa using h]; simp
theorem law17 (f g : Bool) (L R : List PV) (x y n : Int) : Enters Try.prog 16 ∧ PCall Try.prog 16 [.lst f 3 L, .lst g 23 R, .agg [iv x, iv y, iv n]] (bv true) := by
  refine runP_sound ok46 (n := 100) ?_
  have h1 := (made5_len L).2
  have h2 := few_len R
  have h3 : (made5 L).length ≤ 1000000 := by omega
  have h4 : (few R).length ≤ 1000000 := by omega
  rw [q17]
  unfold wi4
  simp only [wi_eq h3, wi_eq h4]
end Go.Hg
/- Hx: what a reader reads of an argument is a value of the machine. -/
namespace Go.Hx
open Go.ChangeShapes Go.WideShapes Go.RowKit

/-- Every integer fits its kind. -/
inductive Fit : PV → Prop
  | int {k : IntKind} {n : Int} (h : (Lit.int k n).wf = true) : Fit (.val (.int k n))
  | bool {b : Bool} : Fit (.val (.bool b))
  | str {s : ByteArray} (h : s.size ≤ maxLen) : Fit (.val (.string s))
  | lst {f : Bool} {t : TypeId} {es : List PV} (hl : es.length ≤ maxLen) (h : ∀ e, e ∈ es → ∀ c, c ∈ e.cells → Fit c) : Fit (.lst f t es)

/-- A world in which nothing is one's own. -/
def Ctx.of (w : World) : Ctx := { ρ := fun _ => none, H := [], w := w }
theorem of_rh (P : Program) (w : World) : RH P (Ctx.of w) :=
  ⟨fun _ _ _ h => (by cases h), fun _ _ h => (by cases h), fun _ _ _ h => (by cases h), Nat.le_refl _, fun _ _ h => (by cases h), fun _ (h : False) => h.elim, fun _ _ _ _ h => (by cases h)⟩
theorem of_ban (w : World) (b : Nat) : ¬ (Ctx.of w).ban b := by
  rintro (⟨i, hi⟩ | hf)
  · cases hi
  · exact hf

theorem wtcs_append : ∀ {k1 k2 : List Kind} {p1 p2 : List PV}, wtcs k1 p1 = true → wtcs k2 p2 = true → wtcs (k1 ++ k2) (p1 ++ p2) = true
  | [], _, [], _, _, h => h
  | [], _, _ :: _, _, h, _ => by simp [wtcs] at h
  | _ :: _, _, [], _, h, _ => by simp [wtcs] at h
  | k :: ks, k2, p :: ps, p2, h, g => by
    simp only [wtcs, Bool.and_eq_true, List.cons_append] at h ⊢
    exact ⟨h.1, wtcs_append h.2 g⟩

/-- Cells that are read as PVs. -/
def CellsOk (P : Program) (w : World) (ks : List Kind) (cs : List Value) (ps : List PV) : Prop :=
  ps.length = cs.length ∧ wtcs ks ps = true ∧ (∀ (j : Nat) p v, ps[j]? = some p → cs[j]? = some v → RV P (Ctx.of w) p v) ∧ ∀ p, p ∈ ps → Fit p
theorem CellsOk.app {P : Program} {w : World} {k1 k2 : List Kind} {c1 c2 : List Value} {p1 p2 : List PV} (h : CellsOk P w k1 c1 p1) (g : CellsOk P w k2 c2 p2) : CellsOk P w (k1 ++ k2) (c1 ++ c2) (p1 ++ p2) := by
  refine ⟨by simp [h.1, g.1], wtcs_append h.2.1 g.2.1, fun j p v hp hv => ?_, fun p hp => ?_⟩
  · rw [List.getElem?_append] at hp hv
    rw [← h.1] at hv
    split at hp
    · rename_i hj; rw [if_pos hj] at hv; exact h.2.2.1 j p v hp hv
    · rename_i hj; rw [if_neg hj] at hv; exact g.2.2.1 _ p v hp hv
  · rcases List.mem_append.1 hp with hp | hp
    · exact h.2.2.2 p hp
    · exact g.2.2.2 p hp

/-- Segments, one behind the other. -/
def cont : List (Nat × Nat × List Kind) → Nat → Nat → Bool
  | [], o, n => o == n
  | (o', s, ks) :: l, o, n => o' == o && ks.length == s && cont l (o + s) n
theorem segs_ok {P : Program} {w : World} {cs : List Value} : ∀ (l : List (Nat × Nat × List Kind)) (o : Nat), cont l o cs.length = true → (∀ x, x ∈ l → ∃ ps, CellsOk P w x.2.2 ((cs.drop x.1).take x.2.1) ps) →
    ∃ ps, CellsOk P w (l.flatMap fun x => x.2.2) (cs.drop o) ps
  | [], o, h, _ => by
    simp only [cont, beq_iff_eq] at h
    subst h
    exact ⟨[], by simp, rfl, fun j p v hp => (by simp at hp), fun p hp => (by cases hp)⟩
  | (o', s, ks) :: l, o, h, hx => by
    simp only [cont, Bool.and_eq_true, beq_iff_eq] at h
    obtain ⟨⟨rfl, hs⟩, hc⟩ := h
    obtain ⟨p1, h1⟩ := hx (o', s, ks) (by simp)
    obtain ⟨p2, h2⟩ := segs_ok l (o' + s) hc fun x hm => hx x (by simp [hm])
    refine ⟨p1 ++ p2, ?_⟩
    have hsplit : cs.drop o' = (cs.drop o').take s ++ cs.drop (o' + s) := by
      rw [← List.drop_drop]; exact (List.take_append_drop s (cs.drop o')).symm
    rw [hsplit]
    exact h1.app h2

/-- Types that the machine takes in: numbers, texts, structs and arrays of these, and slices. -/
def flatB (P : Program) : Nat → Nat → TypeId → Bool
  | 0, _, _ => false
  | _ + 1, 0, _ => false
  | n + 1, d + 1, t =>
    match P.underlying t with
    | some (.int _) => true
    | some .bool => true
    | some .string => true
    | some (.slice e) => flatB P n 12 e && decide (0 < P.cellsOf e) && (kinds P e).length == P.cellsOf e
    | some (.struct fs) => fs.toList.all (fun f => flatB P n d f.type) && cont (fs.toList.map fun f => (f.offset, P.cellsOf f.type, kindsAt P d f.type)) 0 (P.cellsOf t)
    | some (.array m e) => flatB P n d e && cont ((List.range m).map fun i => (i * P.cellsOf e, P.cellsOf e, kindsAt P d e)) 0 (P.cellsOf t)
    | _ => false

/-- An element, of its cells. -/
def mkE (P : Program) (t : TypeId) (ps : List PV) : PV := if isAggT P t then .agg ps else ps.getD 0 .any
theorem mkE_cells {P : Program} {t : TypeId} {ks : List Kind} {ps : List PV} (h : wtcs ks ps = true) (hl : ks.length = P.cellsOf t) (h1 : isAggT P t = false → P.cellsOf t = 1) : (mkE P t ps).cells = ps := by
  unfold mkE
  split
  · rfl
  · rename_i ha
    have hl1 := h1 (by simpa using ha)
    have hp := wtcs_length h
    match ps, hp with
    | [p], _ =>
      match ks, h with
      | [k], h =>
        simp only [wtcs, Bool.and_true] at h
        show PV.cells p = [p]
        unfold wtc at h
        split at h <;> first | rfl | cases h
    | [], hp => simp at hp; omega
    | _ :: _ :: _, hp => simp at hp; omega

theorem cells?_get {w : World} {a : Addr} {n : Nat} {cs : List Value} (h : w.cells? 0 a n = some cs) : cs.length = n ∧ ∀ (x : Nat) v, cs[x]? = some v → w.cell? (a.add x) = some v := by
  obtain ⟨h1, h2, h3⟩ := World.cells?_some h
  refine ⟨by simpa using h2, fun x v hx => ?_⟩
  have hlt : x < cs.length := (List.getElem?_eq_some_iff.1 hx).1
  have := h3 x (by omega)
  rw [this, ← hx]

section
variable {H : Type} {enc : TypeId × Value → H} {P : Program} {w : World} {sp : Nat → Bool} {held : Bool}
theorem trod_int1 {k : IntKind} {t : TypeId} (hu : P.underlying t = some (.int k)) {fuel : Nat} {cs : List Value} {x : DataW H × List MemPlace} (hx : DataW.trod enc P w 0 sp held fuel t cs = some x) : ∃ n, cs = [.int k n] ∧ (Lit.int k n).wf = true := by
  cases fuel with
  | zero => simp [DataW.trod] at hx
  | succ m =>
    unfold DataW.trod at hx
    rw [hu] at hx
    split at hx <;> simp_all
theorem trod_bool1 {t : TypeId} (hu : P.underlying t = some .bool) {fuel : Nat} {cs : List Value} {x : DataW H × List MemPlace} (hx : DataW.trod enc P w 0 sp held fuel t cs = some x) : ∃ b, cs = [.bool b] := by
  cases fuel with
  | zero => simp [DataW.trod] at hx
  | succ m =>
    unfold DataW.trod at hx
    rw [hu] at hx
    split at hx <;> simp_all
theorem trod_string1 {t : TypeId} (hu : P.underlying t = some .string) {fuel : Nat} {cs : List Value} {x : DataW H × List MemPlace} (hx : DataW.trod enc P w 0 sp held fuel t cs = some x) : ∃ s : ByteArray, cs = [.string s] ∧ s.size ≤ maxLen := by
  cases fuel with
  | zero => simp [DataW.trod] at hx
  | succ m =>
    unfold DataW.trod at hx
    rw [hu] at hx
    split at hx <;> simp_all
theorem trod_cells : ∀ (n d : Nat) (t : TypeId), flatB P n d t = true → ∀ (fuel : Nat) (cs : List Value) (x : DataW H × List MemPlace), DataW.trod enc P w 0 sp held fuel t cs = some x → ∃ ps, CellsOk P w (kindsAt P d t) cs ps
  | 0, _, _, h => fun _ _ _ _ => by simp [flatB] at h
  | n + 1, 0, _, h => fun _ _ _ _ => by simp [flatB] at h
  | n + 1, d + 1, t, h => by
    intro fuel cs x hx
    have scalar : ∀ {p : PV} {v : Value} {k : Kind}, cs = [v] → kindsAt P (d + 1) t = [k] → wtc k p = true → RV P (Ctx.of w) p v → Fit p → ∃ ps, CellsOk P w (kindsAt P (d + 1) t) cs ps := by
      intro p v k hc hk hw hr hf
      subst hc
      rw [hk]
      exact ⟨[p], rfl, by simp [wtcs, hw], fun j q u h1 h2 => by
        match j with
        | 0 => simp at h1 h2; subst h1; subst h2; exact hr
        | j + 1 => simp at h1
        , fun q hq => (by simp at hq; subst hq; exact hf)⟩
    unfold flatB at h
    split at h
    · rename_i k hu
      obtain ⟨n, hc, hwf⟩ := trod_int1 hu hx
      exact scalar (k := .int k) hc (by simp [kindsAt, hu]) (by simp [wtc]) .val (.int hwf)
    · rename_i hu
      obtain ⟨b, hc⟩ := trod_bool1 hu hx
      exact scalar (k := .bool) hc (by simp [kindsAt, hu]) rfl .val .bool
    · rename_i hu
      obtain ⟨b, hc, hs⟩ := trod_string1 hu hx
      exact scalar (k := .str) hc (by simp [kindsAt, hu]) rfl .val (.str hs)
    · rename_i e hu
      simp only [Bool.and_eq_true, decide_eq_true_eq, beq_iff_eq] at h
      obtain ⟨⟨he, hpos⟩, hlen⟩ := h
      have hk : kindsAt P (d + 1) t = [.sl e] := by simp [kindsAt, hu]
      rcases DataW.trod_slice hu hx with ⟨rfl, _⟩ | ⟨a, len, cap, elems, rest, m, _, rfl, _, _, hl, hm, hlen2, hel, _, _⟩
      · refine scalar rfl hk (p := .lst false e []) (by simp [wtc]) ?_ (.lst (Nat.zero_le _) fun e' he' => by cases he')
        exact .lst (es := []) 0 0 (fun _ _ => undef) (Nat.le_refl _) (fun h => by cases h) (fun h => by simp at h) (fun x e' j p h => by simp at h) (fun x e' j p h => by simp at h) (fun e' h => by cases h)
      · -- the elements
        have one1 : isAggT P e = false → P.cellsOf e = 1 := by
          intro ha
          have : ∀ D, flatB P n 12 e = true → isAggT P e = false → (kindsAt P 12 e).length = D → D = 1 := by
            intro D hf ha hD
            cases n with
            | zero => simp [flatB] at hf
            | succ n' =>
              unfold flatB at hf
              unfold isAggT at ha
              split at hf <;> rename_i hu2 <;> simp_all [kindsAt]
          exact this _ he ha (by rw [← hlen]; rfl)
        have each : ∀ i, i < len → ∃ (cs' : List Value) (ps : List PV), w.cells? 0 (a.add (i * P.cellsOf e)) (P.cellsOf e) = some cs' ∧ CellsOk P w (kindsAt P 12 e) cs' ps := by
          intro i hi
          have h1 := hel i hi
          have h2 : elems[i]? = some (elems[i]'(by omega)) := List.getElem?_eq_getElem _
          rw [h2] at h1
          obtain ⟨cs', g1, g2⟩ := Option.bind_eq_some_iff.1 h1
          obtain ⟨ps, g3⟩ := trod_cells n 12 e he _ _ _ g2
          exact ⟨cs', ps, g1, g3⟩
        have pick : ∃ (F : Nat → List Value) (G : Nat → List PV), ∀ i, i < len → w.cells? 0 (a.add (i * P.cellsOf e)) (P.cellsOf e) = some (F i) ∧ CellsOk P w (kindsAt P 12 e) (F i) (G i) := by
          have : ∀ i, ∃ y : List Value × List PV, i < len → w.cells? 0 (a.add (i * P.cellsOf e)) (P.cellsOf e) = some y.1 ∧ CellsOk P w (kindsAt P 12 e) y.1 y.2 := by
            intro i
            by_cases hi : i < len
            · obtain ⟨c, p, g1, g2⟩ := each i hi; exact ⟨(c, p), fun _ => ⟨g1, g2⟩⟩
            · exact ⟨([], []), fun h => absurd h hi⟩
          obtain ⟨f, hf⟩ := Classical.axiomOfChoice this
          exact ⟨fun i => (f i).1, fun i => (f i).2, hf⟩
        obtain ⟨F, G, hFG⟩ := pick
        have hcells : ∀ i, i < len → (mkE P e (G i)).cells = G i := fun i hi => mkE_cells (hFG i hi).2.2.1 hlen one1
        have hget : ∀ (i : Nat) q, ((List.range len).map fun i => mkE P e (G i))[i]? = some q → i < len ∧ q = mkE P e (G i) := by
          intro i q hq
          simp only [List.getElem?_map, Option.map_eq_some_iff] at hq
          obtain ⟨j, hj, rfl⟩ := hq
          have hjl : i < len := by
            rcases Nat.lt_or_ge i len with h | h
            · exact h
            · rw [List.getElem?_eq_none (by simpa using h)] at hj; cases hj
          rw [List.getElem?_range hjl] at hj
          cases hj
          exact ⟨hjl, rfl⟩
        have hspot : 0 < len → a.spot = none := by
          intro h0
          obtain ⟨g1, g2⟩ := hFG 0 h0
          obtain ⟨q1, q2⟩ := cells?_get g1
          have hc0 : (F 0)[0]? = some ((F 0)[0]'(by omega)) := List.getElem?_eq_getElem _
          have hz := q2 0 _ hc0
          rw [Nat.zero_mul, show (a.add 0).add 0 = a from rfl] at hz
          exact World.cell?_spot hz
        have hcell : ∀ (i x : Nat) v, i < len → (F i)[x]? = some v → w.cell? ⟨a.block, a.off + i * P.cellsOf e + x, none⟩ = some v := by
          intro i x v hi hv
          have hs := hspot (by omega)
          have := (cells?_get (hFG i hi).1).2 x v hv
          obtain ⟨b, off, spot⟩ := a
          simp only at hs
          subst hs
          have ha : ((⟨b, off, none⟩ : Addr).add (i * P.cellsOf e)).add x = ⟨b, off + i * P.cellsOf e + x, none⟩ := by
            unfold Addr.add
            split <;> split <;> simp_all
          rw [ha] at this
          exact this
        refine scalar rfl hk (p := .lst false e ((List.range len).map fun i => mkE P e (G i))) (by simp [wtc]) ?_ (.lst (by simp; omega) fun e' he' c hc => ?_)
        · have hRV : RV P (Ctx.of w) (.lst false e ((List.range len).map fun i => mkE P e (G i))) (.slice (some a) ((List.range len).map fun i => mkE P e (G i)).length cap) := by
            refine .lst a.block a.off (fun i j => (F i).getD j undef) (by simpa using hl) (fun h => by cases h) (fun h0 => ?_) (fun i q j p hq hj => ?_) (fun i q j p hq hj => ?_) (fun q hq => ?_)
            · have h0' : 0 < len := by simpa using h0
              have hs := hspot h0'
              refine ⟨by obtain ⟨b, off, spot⟩ := a; simp only at hs; subst hs; rfl, of_ban w _, ?_⟩
              obtain ⟨g1, g2⟩ := hFG 0 h0'
              have hc0 : (F 0)[0]? = some ((F 0)[0]'(by rw [(cells?_get g1).1]; omega)) := List.getElem?_eq_getElem _
              have := hcell 0 0 _ h0' hc0
              simp only [World.cell?] at this
              split at this
              · rename_i hb; exact (Array.getElem?_eq_some_iff.1 hb).1
              · cases this
            · obtain ⟨hi, rfl⟩ := hget i q hq
              rw [hcells i hi] at hj
              have hjl : j < (F i).length := by rw [← (hFG i hi).2.1]; exact (List.getElem?_eq_some_iff.1 hj).1
              have hv : (F i)[j]? = some ((F i)[j]) := List.getElem?_eq_getElem hjl
              show w.cell? _ = _
              rw [hcell i j _ hi hv]
              simp [List.getD, hv]
            · obtain ⟨hi, rfl⟩ := hget i q hq
              rw [hcells i hi] at hj
              have hjl : j < (F i).length := by rw [← (hFG i hi).2.1]; exact (List.getElem?_eq_some_iff.1 hj).1
              have hv : (F i)[j]? = some ((F i)[j]) := List.getElem?_eq_getElem hjl
              have := (hFG i hi).2.2.2.1 j p _ hj hv
              simpa [List.getD, hv] using this
            · obtain ⟨i, hiq⟩ := List.getElem?_of_mem hq
              obtain ⟨hi, rfl⟩ := hget i q hiq
              simp only [wt, Bool.and_eq_true, beq_iff_eq]
              exact ⟨by rw [hcells i hi]; exact (hFG i hi).2.2.1, hlen⟩
          simpa using hRV
        · obtain ⟨i, hiq⟩ := List.getElem?_of_mem he'
          obtain ⟨hi, rfl⟩ := hget i e' hiq
          rw [hcells i hi] at hc
          exact (hFG i hi).2.2.2.2 c hc
    · rename_i fs hu
      simp only [Bool.and_eq_true, List.all_eq_true] at h
      obtain ⟨xs, m, _, _, hl, hxs, hf⟩ := DataW.trod_struct hu hx
      have := segs_ok (P := P) (w := w) (cs := cs) (fs.toList.map fun f => (f.offset, P.cellsOf f.type, kindsAt P d f.type)) 0 (by rw [hl]; exact h.2) fun y hy => ?_
      · obtain ⟨ps, hp⟩ := this
        refine ⟨ps, ?_⟩
        have hk : kindsAt P (d + 1) t = (fs.toList.map fun f => (f.offset, P.cellsOf f.type, kindsAt P d f.type)).flatMap fun x => x.2.2 := by
          simp only [kindsAt, hu, List.flatMap_map]
        rw [hk]
        simpa using hp
      · simp only [List.mem_map] at hy
        obtain ⟨f, hfm, rfl⟩ := hy
        obtain ⟨i, hi⟩ := List.getElem?_of_mem hfm
        have hfi : fs[i]? = some f := by simpa using hi
        have h1 := hf i f hfi
        have hil : i < xs.length := by rw [hxs]; exact (Array.getElem?_eq_some_iff.1 hfi).1
        rw [List.getElem?_eq_getElem hil] at h1
        exact trod_cells n d f.type (h.1 f hfm) _ _ _ h1
    · rename_i m e hu
      simp only [Bool.and_eq_true] at h
      obtain ⟨xs, mm, _, _, hl, hxs, hf⟩ := DataW.trod_array hu hx
      have := segs_ok (P := P) (w := w) (cs := cs) ((List.range m).map fun i => (i * P.cellsOf e, P.cellsOf e, kindsAt P d e)) 0 (by rw [hl]; exact h.2) fun y hy => ?_
      · obtain ⟨ps, hp⟩ := this
        refine ⟨ps, ?_⟩
        have hk : kindsAt P (d + 1) t = ((List.range m).map fun i => (i * P.cellsOf e, P.cellsOf e, kindsAt P d e)).flatMap fun x => x.2.2 := by
          simp only [kindsAt, hu, List.flatMap_map]
          rw [List.flatten_eq_flatMap]
          clear hp hf hxs hx
          have : ∀ (l : List Nat) (k : List Kind), (List.replicate l.length k).flatMap id = l.flatMap fun _ => k := by
            intro l k
            induction l with
            | nil => rfl
            | cons a l ih => simp only [List.length_cons, List.replicate_succ, List.flatMap_cons, id, ih]
          have h2 := this (List.range m) (kindsAt P d e)
          rwa [List.length_range] at h2
        rw [hk]
        simpa using hp
      · simp only [List.mem_map, List.mem_range] at hy
        obtain ⟨i, hi, rfl⟩ := hy
        have h1 := hf i hi
        rw [List.getElem?_eq_getElem (by rw [hxs]; exact hi)] at h1
        exact trod_cells n d e h.1 _ _ _ h1
    · cases h
end
section
variable {H : Type} {enc : TypeId × Value → H} {P : Program} {w : World} {sp : Nat → Bool} {held : Bool} {base : Nat}
/-- An argument, as the machine takes it. -/
theorem arg_rv {t : TypeId} {v : Value} {d : DataW H} {p : List MemPlace} (hval : Value.okWide P w .any base t v) (h : DataW.Trod enc P w 0 sp held t v d p) (hf : flatB P 20 12 t = true) :
    ∃ ps, wtcs (kinds P t) ps = true ∧ (∀ p, p ∈ ps → Fit p) ∧ RV P (Ctx.of w) (mkE P t ps) v := by
  have hd := h
  obtain ⟨fuel, hx⟩ := h
  obtain ⟨ps, h1, h2, h3, h4⟩ := trod_cells 20 12 t hf _ _ _ hx
  refine ⟨ps, h2, h4, ?_⟩
  have scalar : v.cells.toList = [v] → isAggT P t = false → RV P (Ctx.of w) (mkE P t ps) v := by
    intro hc ha
    rw [hc] at h1 h3
    match ps, h1 with
    | [q], _ =>
      have := h3 0 q v rfl rfl
      simpa [mkE, ha] using this
  unfold flatB at hf
  split at hf
  · rename_i k hu
    obtain ⟨n, rfl, _⟩ := open_int hu hval hd
    exact scalar rfl (by simp [isAggT, hu])
  · rename_i hu
    obtain ⟨b, rfl, _⟩ := open_bool hu hval hd
    exact scalar rfl (by simp [isAggT, hu])
  · rename_i hu
    obtain ⟨b, rfl⟩ := okWide_string hu hval
    exact scalar rfl (by simp [isAggT, hu])
  · rename_i e hu
    obtain ⟨a, len, cap, rfl⟩ := okWide_slice hu hval
    exact scalar rfl (by simp [isAggT, hu])
  · rename_i fs hu
    obtain ⟨cs, rfl, hl⟩ := okWide_struct hu hval
    have ha : isAggT P t = true := by simp [isAggT, hu]
    unfold mkE
    rw [if_pos ha]
    exact .agg (by simpa [Value.cells] using h1.symm) fun j c u g1 g2 => h3 j c u g1 (by simpa [Value.cells] using g2)
  · rename_i m e hu
    unfold Value.okWide at hval
    rw [hu] at hval
    obtain ⟨cs, rfl, hl, _⟩ := hval
    have ha : isAggT P t = true := by simp [isAggT, hu]
    unfold mkE
    rw [if_pos ha]
    exact .agg (by simpa [Value.cells] using h1.symm) fun j c u g1 g2 => h3 j c u g1 (by simpa [Value.cells] using g2)
  · cases hf
end
theorem Same.below {w w' : World} (h : Same w w') : Below w.heap.size w w' := ⟨h.os, h.tape, h.output, h.size, h.block⟩
/-- The law's call: true, and nothing that was there has turned. -/
theorem law_calls {P : Program} {k : FuncId} {args : List PV} {Vs : Array Value} {w : World} (h : PCall P k args (.val (.bool true))) (hv : Cs P (Ctx.of w) args Vs) : Calls P k Vs w fun e w' => e = .returned (.bool true) ∧ Below w.heap.size w w' := by
  refine (h (Ctx.of w) (of_rh P w) Vs hv).mono ?_
  rintro e w' ⟨V, rfl, hs, hrv⟩
  cases hrv
  exact ⟨rfl, hs.below⟩
end Go.Hx
/- Geometry: the frames of the laws: their arguments. -/
namespace Go.Proofs.Ytneklpbkfmljfaa
open Go.ChangeShapes Go.WideShapes Go.ChangeAt Go.RowKit Go.Hx Go.Hg

theorem own : ownKnob Try.prog.godebug = none := by kernel_rfl
theorem laidOut : laidOutB Try.prog = true := by kernel_rfl
theorem wt_nil {ps : List PV} (h : wtcs [] ps = true) : ps = [] := by
  cases ps with
  | nil => rfl
  | cons p ps => simp [wtcs] at h
theorem wtc_int {k : IntKind} {p : PV} (h : wtc (.int k) p = true) : ∃ n, p = .val (.int k n) := by
  cases p with
  | val v => cases v <;> simp_all [wtc]
  | lst f t es => simp_all [wtc]
  | _ => simp [wtc] at h
theorem wt_int {k : IntKind} {ks : List Kind} {ps : List PV} (h : wtcs ((.int k) :: ks) ps = true) : ∃ n qs, ps = .val (.int k n) :: qs ∧ wtcs ks qs = true := by
  cases ps with
  | nil => simp [wtcs] at h
  | cons p ps =>
    simp only [wtcs, Bool.and_eq_true] at h
    obtain ⟨n, rfl⟩ := wtc_int h.1
    exact ⟨n, ps, rfl, h.2⟩
theorem wtc_bool {p : PV} (h : wtc (.bool) p = true) : ∃ b, p = .val (.bool b) := by
  cases p with
  | val v => cases v <;> simp_all [wtc]
  | lst f t es => simp_all [wtc]
  | _ => simp [wtc] at h
theorem wt_bool {ks : List Kind} {ps : List PV} (h : wtcs ((.bool) :: ks) ps = true) : ∃ b qs, ps = .val (.bool b) :: qs ∧ wtcs ks qs = true := by
  cases ps with
  | nil => simp [wtcs] at h
  | cons p ps =>
    simp only [wtcs, Bool.and_eq_true] at h
    obtain ⟨b, rfl⟩ := wtc_bool h.1
    exact ⟨b, ps, rfl, h.2⟩
theorem wtc_str {p : PV} (h : wtc (.str) p = true) : ∃ s, p = .val (.string s) := by
  cases p with
  | val v => cases v <;> simp_all [wtc]
  | lst f t es => simp_all [wtc]
  | _ => simp [wtc] at h
theorem wt_str {ks : List Kind} {ps : List PV} (h : wtcs ((.str) :: ks) ps = true) : ∃ s qs, ps = .val (.string s) :: qs ∧ wtcs ks qs = true := by
  cases ps with
  | nil => simp [wtcs] at h
  | cons p ps =>
    simp only [wtcs, Bool.and_eq_true] at h
    obtain ⟨s, rfl⟩ := wtc_str h.1
    exact ⟨s, ps, rfl, h.2⟩
theorem wtc_sl {e : TypeId} {p : PV} (h : wtc (.sl e) p = true) : ∃ f es, p = .lst f e es := by
  cases p with
  | val v => cases v <;> simp [wtc] at h
  | lst f t es =>
    have : e = t := by simpa [wtc] using h
    subst this
    exact ⟨f, es, rfl⟩
  | _ => simp [wtc] at h
theorem wt_sl {e : TypeId} {ks : List Kind} {ps : List PV} (h : wtcs (.sl e :: ks) ps = true) : ∃ f es qs, ps = .lst f e es :: qs ∧ wtcs ks qs = true := by
  cases ps with
  | nil => simp [wtcs] at h
  | cons p ps =>
    simp only [wtcs, Bool.and_eq_true] at h
    obtain ⟨f, es, rfl⟩ := wtc_sl h.1
    exact ⟨f, es, ps, rfl, h.2⟩
theorem fit_i64 {n : Int} (h : Fit (.val (.int .i64 n))) : -9223372036854775808 ≤ n ∧ n ≤ 9223372036854775807 := by
  cases h with
  | int h => exact bounds_i64 h
theorem fit_u8 {n : Int} (h : Fit (.val (.int .u8 n))) : 0 ≤ n ∧ n ≤ 255 := by
  cases h with
  | int h => exact bounds_u8 h
theorem fit_u16 {n : Int} (h : Fit (.val (.int .u16 n))) : 0 ≤ n ∧ n ≤ 65535 := by
  cases h with
  | int h => exact bounds_u8 h
theorem rv_agg {t : TypeId} {ps : List PV} {W : World} {v : Value} (h : RV Try.prog (Ctx.of W) (mkE Try.prog t ps) v) (ha : isAggT Try.prog t = true) : RV Try.prog (Ctx.of W) (.agg ps) v := by
  unfold mkE at h
  rwa [if_pos ha] at h
theorem rv_one {t : TypeId} {p : PV} {W : World} {v : Value} (h : RV Try.prog (Ctx.of W) (mkE Try.prog t [p]) v) (ha : isAggT Try.prog t = false) : RV Try.prog (Ctx.of W) p v := by
  unfold mkE at h
  rwa [if_neg (by simp [ha])] at h
theorem cs_one {W : World} {p : PV} {v : Value} (h1 : RV Try.prog (Ctx.of W) p v) : Cs Try.prog (Ctx.of W) [p] #[v] := by
  refine ⟨rfl, fun j c x a b => ?_⟩
  match j with
  | 0 => simp at a b; subst a; subst b; exact h1
  | j + 1 => simp at a
theorem cs_four {W : World} {p q s t : PV} {v u x y : Value} (h1 : RV Try.prog (Ctx.of W) p v) (h2 : RV Try.prog (Ctx.of W) q u) (h3 : RV Try.prog (Ctx.of W) s x) (h4 : RV Try.prog (Ctx.of W) t y) : Cs Try.prog (Ctx.of W) [p, q, s, t] #[v, u, x, y] := by
  refine ⟨rfl, fun j c z a b => ?_⟩
  match j with
  | 0 => simp at a b; subst a; subst b; exact h1
  | 1 => simp at a b; subst a; subst b; exact h2
  | 2 => simp at a b; subst a; subst b; exact h3
  | 3 => simp at a b; subst a; subst b; exact h4
  | j + 4 => simp at a
theorem cs_two {W : World} {p q : PV} {v u : Value} (h1 : RV Try.prog (Ctx.of W) p v) (h2 : RV Try.prog (Ctx.of W) q u) : Cs Try.prog (Ctx.of W) [p, q] #[v, u] := by
  refine ⟨rfl, fun j c x a b => ?_⟩
  match j with
  | 0 => simp at a b; subst a; subst b; exact h1
  | 1 => simp at a b; subst a; subst b; exact h2
  | j + 2 => simp at a
theorem cs_three {W : World} {p q s : PV} {v u x : Value} (h1 : RV Try.prog (Ctx.of W) p v) (h2 : RV Try.prog (Ctx.of W) q u) (h3 : RV Try.prog (Ctx.of W) s x) : Cs Try.prog (Ctx.of W) [p, q, s] #[v, u, x] := by
  refine ⟨rfl, fun j c y a b => ?_⟩
  match j with
  | 0 => simp at a b; subst a; subst b; exact h1
  | 1 => simp at a b; subst a; subst b; exact h2
  | 2 => simp at a b; subst a; subst b; exact h3
  | j + 3 => simp at a
end Go.Proofs.Ytneklpbkfmljfaa
