/- Geometry: plain laws: turns, moves and order change nothing. -/
import Derived.Test.YtneklpbkfmljfaaHgT
namespace Go.Hg
open Go.Hx Go.Proofs
def bx (a b c d e f : Int) : Bool := btwn a c e && btwn b d f
theorem kb_box {a b c d e f : Int} (h1 : bd a b) (h2 : bd c d) (h3 : bd e f) (hc : crs a b c d e f = 0) : kb (key a b) (key c d) (key e f) = bx a b c d e f := by
  have main : ∀ {a b c d : Int}, bd a b → bd c d → crs a b c d e f = 0 → (a < c ∨ a = c ∧ b ≤ d) → (kb (key a b) (key c d) (key e f) = true ↔ bx a b c d e f = true) := by
    intro a b c d h1 h2 hc ho
    have hb := between_lex (a := a) (b := b) (c := c) (d := d) (e := e) (f := f) (by unfold crs at hc; omega) ho
    rw [kb_iff]
    unfold bx
    rw [Bool.and_eq_true, btwn_iff, btwn_iff]
    rw [key_lt h3 h1, key_lt h2 h3] at hb
    have hle : key a b ≤ key c d := by unfold key; omega
    constructor
    · intro h; have := hb.1 (by omega); omega
    · intro h; have := hb.2 (by omega); omega
  rw [Bool.eq_iff_iff]
  rcases Int.lt_trichotomy a c with g | g | g
  · exact main h1 h2 hc (.inl g)
  · rcases Int.le_total b d with g2 | g2
    · exact main h1 h2 hc (.inr ⟨g, g2⟩)
    · have := main h2 h1 (by unfold crs at hc ⊢; grind) (.inr ⟨g.symm, g2⟩)
      rw [kb_iff] at this ⊢
      unfold bx at this ⊢
      rw [Bool.and_eq_true, btwn_iff, btwn_iff] at this ⊢
      omega
  · have := main h2 h1 (by unfold crs at hc ⊢; grind) (.inl g)
    rw [kb_iff] at this ⊢
    unfold bx at this ⊢
    rw [Bool.and_eq_true, btwn_iff, btwn_iff] at this ⊢
    omega
def eqP (a b c d : Int) : Bool := decide (a = c ∧ b = d)
/-- Meet of segments on one line, by what stands between what. -/
theorem fl_bx {a b c d e f g h : Int} (h1 : bd a b) (h2 : bd c d) (h3 : bd e f) (h4 : bd g h) (k1 : crs a b c d e f = 0) (k2 : crs a b c d g h = 0) (k3 : crs e f g h a b = 0) (k4 : crs e f g h c d = 0) :
    fl a b c d e f g h = flS (bx a b c d e f) (bx a b c d g h) (bx e f g h a b) (bx e f g h c d) (eqP e f g h) (eqP a b c d) (eqP e f a b) (eqP e f c d) (eqP g h a b) (eqP g h c d) := by
  rw [fl_key h1 h2 h3 h4, flk_char, kb_box h1 h2 h3 k1, kb_box h1 h2 h4 k2, kb_box h3 h4 h1 k3, kb_box h3 h4 h2 k4]
  unfold eqP
  rw [decide_eq_decide.2 (key_eq h3 h4), decide_eq_decide.2 (key_eq h1 h2), decide_eq_decide.2 (key_eq h3 h1), decide_eq_decide.2 (key_eq h3 h2), decide_eq_decide.2 (key_eq h4 h1), decide_eq_decide.2 (key_eq h4 h2)]
theorem sd_of {a b c d e f : Int} (h1 : bd a b) (h2 : bd c d) (h3 : bd e f) : sd a b c d e f = sgn (crs a b c d e f) := by
  unfold sd; rw [bd_iff.2 h1, bd_iff.2 h2, bd_iff.2 h3]; rfl
theorem mt_of {a b c d e f g h : Int} (h1 : bd a b) (h2 : bd c d) (h3 : bd e f) (h4 : bd g h) :
    mt a b c d e f g h = bif (sgn (crs a b c d e f) == 0) && (sgn (crs a b c d g h) == 0) && (sgn (crs e f g h a b) == 0) && (sgn (crs e f g h c d) == 0) then
      flS (bx a b c d e f) (bx a b c d g h) (bx e f g h a b) (bx e f g h c d) (eqP e f g h) (eqP a b c d) (eqP e f a b) (eqP e f c d) (eqP g h a b) (eqP g h c d)
    else nfl (sgn (crs a b c d e f)) (sgn (crs a b c d g h)) (sgn (crs e f g h a b)) (sgn (crs e f g h c d)) := by
  unfold mt
  rw [bd_iff.2 h1, bd_iff.2 h2, bd_iff.2 h3, bd_iff.2 h4, sd_of h1 h2 h3, sd_of h1 h2 h4, sd_of h3 h4 h1, sd_of h3 h4 h2]
  simp only [Bool.and_self, cond_true]
  cases hz : (sgn (crs a b c d e f) == 0) && (sgn (crs a b c d g h) == 0) && (sgn (crs e f g h a b) == 0) && (sgn (crs e f g h c d) == 0) with
  | false => rfl
  | true =>
    simp only [Bool.and_eq_true, beq_iff_eq, sgn_zero] at hz
    exact fl_bx h1 h2 h3 h4 hz.1.1.1 hz.1.1.2 hz.1.2 hz.2
theorem on_of {a b c d e f : Int} (h1 : bd a b) (h2 : bd c d) (h3 : bd e f) : onX a b c d e f = (bx a b c d e f && (sgn (crs a b c d e f) == 0)) := by
  unfold onX bx; rw [bd_iff.2 h1, bd_iff.2 h2, bd_iff.2 h3, sd_of h1 h2 h3]; simp
/-- A map of points that keeps what matters. -/
structure Keeps (X Y : Int → Int → Int) : Prop where
  crs : ∀ a b c d e f, crs (X a b) (Y a b) (X c d) (Y c d) (X e f) (Y e f) = crs a b c d e f
  bx : ∀ a b c d e f, bx (X a b) (Y a b) (X c d) (Y c d) (X e f) (Y e f) = bx a b c d e f
  eq : ∀ a b c d, eqP (X a b) (Y a b) (X c d) (Y c d) = eqP a b c d
theorem btwn_neg (a c e : Int) : btwn (0 - a) (0 - c) (0 - e) = btwn a c e := by rw [Bool.eq_iff_iff, btwn_iff, btwn_iff]; omega
theorem btwn_add (a c e u : Int) : btwn (a + u) (c + u) (e + u) = btwn a c e := by rw [Bool.eq_iff_iff, btwn_iff, btwn_iff]; omega
theorem keeps_shift (u v : Int) : Keeps (fun x _ => x + u) (fun _ y => y + v) where
  crs a b c d e f := by unfold Hg.crs; grind
  bx a b c d e f := by unfold Hg.bx; rw [btwn_add, btwn_add]
  eq a b c d := by unfold eqP; exact decide_eq_decide.2 (by omega)
theorem keeps_q1 : Keeps (fun _ y => 0 - y) (fun x _ => x) where
  crs a b c d e f := by unfold Hg.crs; grind
  bx a b c d e f := by unfold Hg.bx; rw [btwn_neg, Bool.and_comm]
  eq a b c d := by unfold eqP; exact decide_eq_decide.2 (by omega)
theorem keeps_q2 : Keeps (fun x _ => 0 - x) (fun _ y => 0 - y) where
  crs a b c d e f := by unfold Hg.crs; grind
  bx a b c d e f := by unfold Hg.bx; rw [btwn_neg, btwn_neg]
  eq a b c d := by unfold eqP; exact decide_eq_decide.2 (by omega)
theorem keeps_q3 : Keeps (fun _ y => y) (fun x _ => 0 - x) where
  crs a b c d e f := by unfold Hg.crs; grind
  bx a b c d e f := by unfold Hg.bx; rw [btwn_neg, Bool.and_comm]
  eq a b c d := by unfold eqP; exact decide_eq_decide.2 (by omega)
theorem keeps_id : Keeps (fun x _ => x) (fun _ y => y) := ⟨fun _ _ _ _ _ _ => rfl, fun _ _ _ _ _ _ => rfl, fun _ _ _ _ => rfl⟩
theorem Keeps.comp {X Y X' Y' : Int → Int → Int} (h : Keeps X Y) (k : Keeps X' Y') : Keeps (fun a b => X' (X a b) (Y a b)) (fun a b => Y' (X a b) (Y a b)) where
  crs a b c d e f := by rw [k.crs, h.crs]
  bx a b c d e f := by rw [k.bx, h.bx]
  eq a b c d := by rw [k.eq, h.eq]
theorem Keeps.sd {X Y : Int → Int → Int} (h : Keeps X Y) {a b c d e f : Int} (h1 : bd a b) (h2 : bd c d) (h3 : bd e f) (k1 : bd (X a b) (Y a b)) (k2 : bd (X c d) (Y c d)) (k3 : bd (X e f) (Y e f)) : sd (X a b) (Y a b) (X c d) (Y c d) (X e f) (Y e f) = sd a b c d e f := by
  rw [sd_of h1 h2 h3, sd_of k1 k2 k3, h.crs]
theorem Keeps.on {X Y : Int → Int → Int} (h : Keeps X Y) {a b c d e f : Int} (h1 : bd a b) (h2 : bd c d) (h3 : bd e f) (k1 : bd (X a b) (Y a b)) (k2 : bd (X c d) (Y c d)) (k3 : bd (X e f) (Y e f)) : onX (X a b) (Y a b) (X c d) (Y c d) (X e f) (Y e f) = onX a b c d e f := by
  rw [on_of h1 h2 h3, on_of k1 k2 k3, h.crs, h.bx]
theorem Keeps.mt {X Y : Int → Int → Int} (hK : Keeps X Y) {a b c d e f g h : Int} (h1 : bd a b) (h2 : bd c d) (h3 : bd e f) (h4 : bd g h) (k1 : bd (X a b) (Y a b)) (k2 : bd (X c d) (Y c d)) (k3 : bd (X e f) (Y e f)) (k4 : bd (X g h) (Y g h)) :
    mt (X a b) (Y a b) (X c d) (Y c d) (X e f) (Y e f) (X g h) (Y g h) = mt a b c d e f g h := by
  rw [mt_of h1 h2 h3 h4, mt_of k1 k2 k3 k4]
  simp only [hK.crs, hK.bx, hK.eq]
theorem sgn_neg (n : Int) : sgn (-n) = -sgn n := by unfold sgn; (repeat' split) <;> omega
theorem sd_swap (a b c d e f : Int) : sd c d a b e f = -sd a b c d e f := by
  unfold sd
  rw [show crs c d a b e f = -crs a b c d e f by unfold crs; grind, sgn_neg, Bool.and_comm (bdd c d)]
  cases bdd a b && bdd c d && bdd e f <;> simp
theorem sd_turn (a b c d e f : Int) : sd c d e f a b = sd a b c d e f := by
  unfold sd
  rw [show crs c d e f a b = crs a b c d e f by unfold crs; grind, show (bdd c d && bdd e f && bdd a b) = (bdd a b && bdd c d && bdd e f) by cases bdd a b <;> cases bdd c d <;> cases bdd e f <;> rfl]
theorem sgnz_neg (n : Int) : (sgn (-n) == 0) = (sgn n == 0) := by rw [sgn_neg]; unfold sgn; (repeat' split) <;> rfl
theorem mt_swap3 {a b c d e f g h : Int} (h1 : bd a b) (h2 : bd c d) (h3 : bd e f) (h4 : bd g h) : mt e f g h a b c d = mt a b c d e f g h := by
  unfold mt
  rw [bd_iff.2 h1, bd_iff.2 h2, bd_iff.2 h3, bd_iff.2 h4, fl_key h1 h2 h3 h4, fl_key h3 h4 h1 h2, flk_swap3]
  unfold nfl
  rw [Bool.or_comm]
  cases sd a b c d e f == 0 <;> cases sd a b c d g h == 0 <;> cases sd e f g h a b == 0 <;> cases sd e f g h c d == 0 <;> rfl
theorem neg_mul (s t : Int) : decide (-s * -t > 0) = decide (s * t > 0) := by rw [Int.neg_mul_neg]
theorem mul_cm (s t : Int) : decide (s * t > 0) = decide (t * s > 0) := by rw [Int.mul_comm]
theorem beq_neg0 (s : Int) : (-s == 0) = (s == 0) := by rw [Bool.eq_iff_iff, beq_iff_eq, beq_iff_eq]; omega
theorem mt_swap1 {a b c d e f g h : Int} (h1 : bd a b) (h2 : bd c d) (h3 : bd e f) (h4 : bd g h) : mt c d a b e f g h = mt a b c d e f g h := by
  unfold mt
  rw [bd_iff.2 h1, bd_iff.2 h2, bd_iff.2 h3, bd_iff.2 h4, fl_key h1 h2 h3 h4, fl_key h2 h1 h3 h4, flk_swap1, sd_swap a b c d e f, sd_swap a b c d g h]
  unfold nfl
  rw [neg_mul, mul_cm (sd e f g h c d), beq_neg0, beq_neg0]
  cases sd a b c d e f == 0 <;> cases sd a b c d g h == 0 <;> cases sd e f g h a b == 0 <;> cases sd e f g h c d == 0 <;> rfl
theorem mt_swap2 {a b c d e f g h : Int} (h1 : bd a b) (h2 : bd c d) (h3 : bd e f) (h4 : bd g h) : mt a b c d g h e f = mt a b c d e f g h := by
  rw [mt_swap3 h4 h3 h1 h2, mt_swap1 h3 h4 h1 h2, mt_swap3 h1 h2 h3 h4]
end Go.Hg
