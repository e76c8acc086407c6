/- Geometry: Meet of the reference; On. -/
import Derived.Test.YtneklpbkfmljfaaHgH
namespace Go.Hg
open Go.Hx Go.Proofs
def cmpT (tx ty fx fy : Int) : Option PV := bif lessP tx ty fx fy then some (iv 0) else bif (tx == fx) && ((ty == fy) && true) then some (iv 1) else some (iv 2)
def nfT (s1 s2 s3 s4 : Int) (eA eC oA oC : Bool) : Option PV :=
  bif decide (W (s1 * s2) > 0) then some (iv 0) else bif decide (W (s3 * s4) > 0) then some (iv 0) else
  bif eA then bif !oA then some (iv 0) else bif eC then bif !oC then some (iv 0) else some (iv 1) else some (iv 1)
  else bif eC then bif !oC then some (iv 0) else some (iv 1) else some (iv 1)
def flT (a b c d e f g h : Int) : Option PV :=
  let lx := ifI (lessP c d a b) c a; let ly := ifI (lessP c d a b) d b; let hx := ifI (lessP c d a b) a c; let hy := ifI (lessP c d a b) b d
  let mx := ifI (lessP g h e f) g e; let my := ifI (lessP g h e f) h f; let nx := ifI (lessP g h e f) e g; let ny := ifI (lessP g h e f) f h
  bif lessP lx ly mx my then bif lessP nx ny hx hy then cmpT nx ny mx my else cmpT hx hy mx my
  else bif lessP nx ny hx hy then cmpT nx ny lx ly else cmpT hx hy lx ly
def nfA (a b c d e f g h : Int) : Option PV :=
  nfT (sd a b c d e f) (sd a b c d g h) (sd e f g h a b) (sd e f g h c d) ((a == c) && ((b == d) && true)) ((e == g) && ((f == h) && true)) (onX e f g h a b) (onX a b c d e f)
theorem qRMeet (a b c d e f g h : Int) : runP Try.prog E9 60 28 [ptv a b, ptv c d, ptv e f, ptv g h] =
    bif !bdd a b then some (iv 0) else bif !bdd c d then some (iv 0) else bif !bdd e f then some (iv 0) else bif !bdd g h then some (iv 0) else
    bif sd a b c d e f == 0 then bif sd a b c d g h == 0 then bif sd e f g h a b == 0 then bif !(sd e f g h c d == 0) then nfA a b c d e f g h else flT a b c d e f g h
    else nfA a b c d e f g h else nfA a b c d e f g h else nfA a b c d e f g h := by kernel_rfl
theorem cmpT_eq (tx ty fx fy : Int) : cmpT tx ty fx fy = some (iv (1 + cmp2 tx ty fx fy)) := by
  unfold cmpT
  have h1 := cmp2_lt_iff tx ty fx fy
  have h2 := cmp2_gt_iff tx ty fx fy
  have h3 := cmp2_range tx ty fx fy
  cases hl : lessP tx ty fx fy with
  | true =>
    have := h1.2 (lessP_iff.1 hl)
    rw [show cmp2 tx ty fx fy = -1 by omega]; rfl
  | false =>
    have hn : ¬ (tx < fx ∨ tx = fx ∧ ty < fy) := fun h => by rw [lessP_iff.2 h] at hl; cases hl
    by_cases he : tx = fx ∧ ty = fy
    · obtain ⟨rfl, rfl⟩ := he
      rw [show cmp2 tx ty tx ty = 0 by omega]
      simp
    · have hc : ((tx == fx) && ((ty == fy) && true)) = false := by
        rw [Bool.and_true, Bool.and_eq_false_iff]
        by_cases hx : tx = fx
        · exact .inr (by simp; exact fun hy => he ⟨hx, hy⟩)
        · exact .inl (by simpa using hx)
      rw [hc, show cmp2 tx ty fx fy = 1 by omega]; rfl
theorem flT_eq (a b c d e f g h : Int) : flT a b c d e f g h = some (iv (fl a b c d e f g h)) := by
  unfold flT fl
  simp only [cmpT_eq]
  cases lessP (ifI (lessP c d a b) c a) (ifI (lessP c d a b) d b) (ifI (lessP g h e f) g e) (ifI (lessP g h e f) h f) <;>
    cases lessP (ifI (lessP g h e f) e g) (ifI (lessP g h e f) f h) (ifI (lessP c d a b) a c) (ifI (lessP c d a b) b d) <;> rfl
theorem sd_same (a b e f : Int) : sd a b a b e f = 0 := by
  unfold sd
  rw [show crs a b a b e f = 0 by unfold crs; rw [Int.sub_self, Int.sub_self, Int.zero_mul, Int.zero_mul]; rfl]
  cases bdd a b && bdd a b && bdd e f <;> rfl
theorem nfA_eq {a b c d e f g h : Int} (hn : ¬ (sd a b c d e f = 0 ∧ sd a b c d g h = 0 ∧ sd e f g h a b = 0 ∧ sd e f g h c d = 0)) :
    nfA a b c d e f g h = some (iv (nfl (sd a b c d e f) (sd a b c d g h) (sd e f g h a b) (sd e f g h c d))) := by
  have r1 := sd_range a b c d e f
  have r2 := sd_range a b c d g h
  have r3 := sd_range e f g h a b
  have r4 := sd_range e f g h c d
  have hA : a = c ∧ b = d → sd a b c d e f = 0 ∧ sd a b c d g h = 0 ∧ sd e f g h a b = sd e f g h c d := by
    rintro ⟨rfl, rfl⟩; exact ⟨sd_same _ _ _ _, sd_same _ _ _ _, rfl⟩
  have hC : e = g ∧ f = h → sd e f g h a b = 0 ∧ sd e f g h c d = 0 ∧ sd a b c d e f = sd a b c d g h := by
    rintro ⟨rfl, rfl⟩; exact ⟨sd_same _ _ _ _, sd_same _ _ _ _, rfl⟩
  unfold nfA nfT nfl
  rw [W_s r1 r2, W_s r3 r4]
  generalize sd a b c d e f = s1 at *
  generalize sd a b c d g h = s2 at *
  generalize sd e f g h a b = s3 at *
  generalize sd e f g h c d = s4 at *
  have sq : ∀ s : Int, -1 ≤ s ∧ s ≤ 1 → s ≠ 0 → s * s > 0 := fun s h1 h2 => by
    have : s = -1 ∨ s = 1 := by omega
    rcases this with e | e <;> rw [e] <;> decide
  by_cases p1 : s1 * s2 > 0
  · rw [decide_eq_true p1]; rfl
  · rw [decide_eq_false p1]
    by_cases p2 : s3 * s4 > 0
    · rw [decide_eq_true p2]; rfl
    · rw [decide_eq_false p2]
      have eA : ((a == c) && ((b == d) && true)) = false := by
        cases hh : ((a == c) && ((b == d) && true)) with
        | false => rfl
        | true =>
          exfalso
          simp only [Bool.and_true, Bool.and_eq_true, beq_iff_eq] at hh
          obtain ⟨k1, k2, k3⟩ := hA hh
          have : s4 ≠ 0 := fun e => hn ⟨k1, k2, k3.trans e, e⟩
          exact p2 (by rw [k3]; exact sq s4 r4 this)
      have eC : ((e == g) && ((f == h) && true)) = false := by
        cases hh : ((e == g) && ((f == h) && true)) with
        | false => rfl
        | true =>
          exfalso
          simp only [Bool.and_true, Bool.and_eq_true, beq_iff_eq] at hh
          obtain ⟨k1, k2, k3⟩ := hC hh
          have : s2 ≠ 0 := fun e => hn ⟨k3.trans e, e, k1, k2⟩
          exact p1 (by rw [k3]; exact sq s2 r2 this)
      rw [eA, eC]; rfl
theorem oRMeet (args : List PV) (r : PV) (h : cMeet args = some r) : Enters Try.prog 28 ∧ PCall Try.prog 28 args r := by
  unfold cMeet at h; split at h
  · rename_i a b c d e f g h'; cases h
    refine runP_sound ok9 (n := 60) ?_
    rw [qRMeet, flT_eq]
    unfold mt
    cases hb : bdd a b && bdd c d && bdd e f && bdd g h' with
    | false =>
      revert hb
      cases bdd a b <;> cases bdd c d <;> cases bdd e f <;> cases bdd g h' <;> intro hb <;> first | rfl | cases hb
    | true =>
      simp only [Bool.and_eq_true] at hb
      obtain ⟨⟨⟨b1, b2⟩, b3⟩, b4⟩ := hb
      rw [b1, b2, b3, b4]
      by_cases hz : sd a b c d e f = 0 ∧ sd a b c d g h' = 0 ∧ sd e f g h' a b = 0 ∧ sd e f g h' c d = 0
      · obtain ⟨z1, z2, z3, z4⟩ := hz
        rw [z1, z2, z3, z4]; rfl
      · rw [nfA_eq hz]
        by_cases z1 : sd a b c d e f = 0
        · by_cases z2 : sd a b c d g h' = 0
          · by_cases z3 : sd e f g h' a b = 0
            · have z4 : sd e f g h' c d ≠ 0 := fun z4 => hz ⟨z1, z2, z3, z4⟩
              rw [show (sd e f g h' c d == 0) = false by simpa using z4, z1, z2, z3]; rfl
            · rw [show (sd e f g h' a b == 0) = false by simpa using z3, z1, z2]; rfl
          · rw [show (sd a b c d g h' == 0) = false by simpa using z2, z1]; rfl
        · rw [show (sd a b c d e f == 0) = false by simpa using z1]; rfl
  · cases h
/-! On. -/
theorem between_lex {a b c d e f : Int} (hc : (c - a) * (f - b) = (d - b) * (e - a)) (ho : a < c ∨ a = c ∧ b ≤ d) :
    (¬ (e < a ∨ e = a ∧ f < b) ∧ ¬ (c < e ∨ c = e ∧ d < f)) ↔ (a ≤ e ∧ e ≤ c) ∧ (b ≤ f ∧ f ≤ d ∨ d ≤ f ∧ f ≤ b) := by
  rcases ho with ho | ⟨ho, hb⟩
  · have hk : 0 < c - a := by omega
    constructor
    · rintro ⟨h1, h2⟩
      have he : 0 ≤ e - a ∧ e - a ≤ c - a := by omega
      refine ⟨by omega, ?_⟩
      by_cases hd : b ≤ d
      · left
        have p1 : 0 ≤ (d - b) * (e - a) := Int.mul_nonneg (by omega) he.1
        have p2 : (d - b) * (e - a) ≤ (d - b) * (c - a) := Int.mul_le_mul_of_nonneg_left he.2 (by omega)
        rw [← hc] at p1 p2
        rw [Int.mul_comm (d - b)] at p2
        have q1 : 0 ≤ f - b := by
          rcases Int.lt_or_le (f - b) 0 with q | q
          · have := Int.mul_neg_of_pos_of_neg hk q; omega
          · exact q
        have q2 := Int.le_of_mul_le_mul_left p2 hk
        omega
      · right
        have p1 : 0 ≤ (b - d) * (e - a) := Int.mul_nonneg (by omega) he.1
        have p2 : (b - d) * (e - a) ≤ (b - d) * (c - a) := Int.mul_le_mul_of_nonneg_left he.2 (by omega)
        have e1 : (b - d) * (e - a) = (c - a) * (b - f) := by grind
        rw [e1] at p1 p2
        rw [Int.mul_comm (b - d)] at p2
        have q1 : 0 ≤ b - f := by
          rcases Int.lt_or_le (b - f) 0 with q | q
          · have := Int.mul_neg_of_pos_of_neg hk q; omega
          · exact q
        have q2 := Int.le_of_mul_le_mul_left p2 hk
        omega
    · rintro ⟨h1, h2⟩
      refine ⟨?_, ?_⟩
      · rintro (g | ⟨g1, g2⟩)
        · omega
        · subst g1
          rw [Int.sub_self, Int.mul_zero] at hc
          rcases Int.mul_eq_zero.1 hc with g | g <;> omega
      · rintro (g | ⟨g1, g2⟩)
        · omega
        · subst g1
          have : (c - a) * (f - d) = 0 := by grind
          rcases Int.mul_eq_zero.1 this with g | g <;> omega
  · subst ho
    constructor
    · rintro ⟨h1, h2⟩; omega
    · rintro ⟨h1, h2⟩; omega
theorem btwn_iff {a c e : Int} : btwn a c e = true ↔ (a ≤ e ∧ e ≤ c ∨ c ≤ e ∧ e ≤ a) := by
  unfold btwn
  simp only [Bool.and_eq_true, decide_eq_true_eq]
  split <;> split <;> omega
theorem fl_on {a b c d e f : Int} (hc : crs a b c d e f = 0) : (fl a b c d e f e f == 1) = (btwn a c e && btwn b d f) := by
  have key : ∀ {a b c d : Int}, crs a b c d e f = 0 → (a < c ∨ a = c ∧ b ≤ d) → ((1 + cmp2 (ifI (lessP e f c d) e c) (ifI (lessP e f c d) f d) (ifI (lessP a b e f) e a) (ifI (lessP a b e f) f b) == 1) = (btwn a c e && btwn b d f)) := by
    intro a b c d hc ho
    have hb := between_lex (a := a) (b := b) (c := c) (d := d) (e := e) (f := f) (by unfold crs at hc; omega) ho
    have ht : (btwn a c e && btwn b d f) = true ↔ (a ≤ e ∧ e ≤ c) ∧ (b ≤ f ∧ f ≤ d ∨ d ≤ f ∧ f ≤ b) := by
      rw [Bool.and_eq_true, btwn_iff, btwn_iff]; omega
    rw [Bool.eq_iff_iff, ht, ← hb, beq_iff_eq]
    have z : ∀ x y z w : Int, 1 + cmp2 x y z w = 1 ↔ x = z ∧ y = w := by
      intro x y z w
      have h1 := cmp2_lt_iff x y z w
      have h2 := cmp2_gt_iff x y z w
      omega
    rw [z]
    cases h1 : lessP e f c d with
    | true =>
      have k1 := lessP_iff.1 h1
      cases h2 : lessP a b e f with
      | true =>
        have k2 := lessP_iff.1 h2
        simp only [ifI, cond_true, and_self, true_iff]; omega
      | false =>
        have k2 : ¬ (a < e ∨ a = e ∧ b < f) := fun h => by rw [lessP_iff.2 h] at h2; cases h2
        simp only [ifI, cond_true, cond_false]; omega
    | false =>
      have k1 : ¬ (e < c ∨ e = c ∧ f < d) := fun h => by rw [lessP_iff.2 h] at h1; cases h1
      cases h2 : lessP a b e f with
      | true =>
        have k2 := lessP_iff.1 h2
        simp only [ifI, cond_true, cond_false]; omega
      | false =>
        have k2 : ¬ (a < e ∨ a = e ∧ b < f) := fun h => by rw [lessP_iff.2 h] at h2; cases h2
        simp only [ifI, cond_false]; omega
  unfold fl
  have hs : lessP e f e f = false := by
    cases h : lessP e f e f with
    | false => rfl
    | true => have := lessP_iff.1 h; omega
  simp only [hs]
  cases h1 : lessP c d a b with
  | true =>
    have k1 := lessP_iff.1 h1
    have := key (a := c) (b := d) (c := a) (d := b) (by unfold crs at hc ⊢; grind) (by omega)
    have e1 : (btwn c a e && btwn d b f) = (btwn a c e && btwn b d f) := by
      rw [Bool.eq_iff_iff, Bool.and_eq_true, Bool.and_eq_true, btwn_iff, btwn_iff, btwn_iff, btwn_iff]; omega
    rw [e1] at this
    exact this
  | false =>
    have k1 : ¬ (c < a ∨ c = a ∧ d < b) := fun h => by rw [lessP_iff.2 h] at h1; cases h1
    exact key (a := a) (b := b) (c := c) (d := d) hc (by omega)
theorem mt_on (a b c d e f : Int) : (mt a b c d e f e f == 1) = onX a b c d e f := by
  unfold mt onX
  cases h1 : bdd a b with
  | false => rfl
  | true =>
    cases h2 : bdd c d with
    | false => rfl
    | true =>
      cases h3 : bdd e f with
      | false => rfl
      | true =>
        simp only [Bool.and_self, cond_true, Bool.true_and, sd_same]
        by_cases hz : sd a b c d e f = 0
        · rw [hz]
          have hc : crs a b c d e f = 0 := by
            unfold sd at hz
            rw [h1, h2, h3] at hz
            exact sgn_zero.1 hz
          simp only [beq_self_eq_true, Bool.and_self, cond_true, Bool.and_true]
          exact fl_on hc
        · rw [show (sd a b c d e f == 0) = false by simpa using hz]
          simp only [Bool.false_and, cond_false, Bool.and_false]
          have r := sd_range a b c d e f
          have : sd a b c d e f = -1 ∨ sd a b c d e f = 1 := by omega
          rcases this with e | e <;> rw [e] <;> rfl
def E10 : EnvK := E9 |>.addO 27 cMeet |>.addO 28 cMeet
theorem ok10 : EnvOK Try.prog E10.env := (ok9.addO oMeet).addO oRMeet
theorem oOn (args : List PV) (r : PV) (h : cOn args = some r) : Enters Try.prog 25 ∧ PCall Try.prog 25 args r := by
  unfold cOn at h; split at h
  · cases h
    rw [← mt_on]
    exact runP_sound ok10 (n := 60) (by kernel_rfl)
  · cases h
def E11 : EnvK := E10 |>.addO 25 cOn
theorem ok11 : EnvOK Try.prog E11.env := ok10.addO oOn
end Go.Hg
