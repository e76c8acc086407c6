/- Geometry: PointLattice answers true. -/
import Derived.Test.YtneklpbkfmljfaaHgL4
namespace Go.Hg
open Go.Hx Go.Proofs
theorem cnt_ex {p : Int → Bool} : ∀ (n : Nat) (j : Int), (1 ≤ cnt p n j → ∃ k, j ≤ k ∧ k < j + n ∧ p k = true) ∧ (2 ≤ cnt p n j → ∃ k l, j ≤ k ∧ k < l ∧ l < j + n ∧ p k = true ∧ p l = true)
  | 0, j => ⟨fun h => by simp [cnt] at h, fun h => by simp [cnt] at h⟩
  | n + 1, j => by
    obtain ⟨h1, h2⟩ := cnt_ex n (j + 1) (p := p)
    constructor
    · intro h
      simp only [cnt] at h
      cases hp : p j with
      | true => exact ⟨j, by omega, by omega, hp⟩
      | false =>
        rw [hp] at h
        simp only [cond_false, Int.zero_add] at h
        obtain ⟨k, g1, g2, g3⟩ := h1 h
        exact ⟨k, by omega, by omega, g3⟩
    · intro h
      simp only [cnt] at h
      cases hp : p j with
      | true =>
        rw [hp] at h
        simp only [cond_true] at h
        obtain ⟨k, g1, g2, g3⟩ := h1 (by omega)
        exact ⟨j, k, by omega, by omega, by omega, hp, g3⟩
      | false =>
        rw [hp] at h
        simp only [cond_false, Int.zero_add] at h
        obtain ⟨k, l, g1, g2, g3, g4, g5⟩ := h2 h
        exact ⟨k, l, by omega, by omega, by omega, g4, g5⟩
theorem cnt_pos {p : Int → Bool} : ∀ (n : Nat) (j k : Int), j ≤ k → k < j + n → p k = true → 1 ≤ cnt p n j
  | 0, j, k, h1, h2, _ => by omega
  | n + 1, j, k, h1, h2, h => by
    have hr := cnt_range p n (j + 1)
    simp only [cnt]
    by_cases hk : k = j
    · subst hk; rw [h]; simp only [cond_true]; omega
    · have := cnt_pos n (j + 1) k (by omega) (by omega) h
      cases p j <;> simp only [cond_true, cond_false] <;> omega
theorem cnt2_nn (r : R8) : ∀ (n : Nat) (i : Int), 0 ≤ cnt2 r n i
  | 0, _ => by simp [cnt2]
  | n + 1, i => by
    have h1 := cnt_range (both r i) 25 (-12)
    have h2 := cnt2_nn r n (i + 1)
    simp only [cnt2]; omega
def lat (r : R8) (i k : Int) : Prop := (-12 ≤ k ∧ k ≤ 12) ∧ both r i k = true
theorem cnt2_ex {r : R8} : ∀ (n : Nat) (i : Int), (1 ≤ cnt2 r n i → ∃ j k, i ≤ j ∧ j < i + n ∧ lat r j k) ∧ (2 ≤ cnt2 r n i → ∃ j k j' k', i ≤ j ∧ j < i + n ∧ i ≤ j' ∧ j' < i + n ∧ lat r j k ∧ lat r j' k' ∧ ¬ (j = j' ∧ k = k'))
  | 0, i => ⟨fun h => by simp [cnt2] at h, fun h => by simp [cnt2] at h⟩
  | n + 1, i => by
    obtain ⟨h1, h2⟩ := cnt2_ex n (i + 1) (r := r)
    obtain ⟨c1, c2⟩ := cnt_ex (p := both r i) 25 (-12)
    have n1 := (cnt_range (both r i) 25 (-12)).1
    have n2 := cnt2_nn r n (i + 1)
    constructor
    · intro h
      simp only [cnt2] at h
      by_cases g : 1 ≤ cnt (both r i) 25 (-12)
      · obtain ⟨k, g1, g2, g3⟩ := c1 g
        exact ⟨i, k, by omega, by omega, ⟨by omega, by omega⟩, g3⟩
      · obtain ⟨j, k, g1, g2, g3⟩ := h1 (by omega)
        exact ⟨j, k, by omega, by omega, g3⟩
    · intro h
      simp only [cnt2] at h
      by_cases g : 2 ≤ cnt (both r i) 25 (-12)
      · obtain ⟨k, l, g1, g2, g3, g4, g5⟩ := c2 g
        exact ⟨i, k, i, l, by omega, by omega, by omega, by omega, ⟨⟨by omega, by omega⟩, g4⟩, ⟨⟨by omega, by omega⟩, g5⟩, by omega⟩
      · by_cases g' : 1 ≤ cnt (both r i) 25 (-12)
        · obtain ⟨k, g1, g2, g3⟩ := c1 g'
          obtain ⟨j, l, g4, g5, g6⟩ := h1 (by omega)
          exact ⟨i, k, j, l, by omega, by omega, by omega, by omega, ⟨⟨by omega, by omega⟩, g3⟩, g6, by omega⟩
        · obtain ⟨j, k, j', k', g1, g2, g3, g4, g5, g6, g7⟩ := h2 (by omega)
          exact ⟨j, k, j', k', by omega, by omega, by omega, by omega, g5, g6, g7⟩
theorem cnt2_pos {r : R8} : ∀ (n : Nat) (i j k : Int), i ≤ j → j < i + n → lat r j k → 1 ≤ cnt2 r n i
  | 0, i, j, k, h1, h2, _ => by omega
  | n + 1, i, j, k, h1, h2, h => by
    have n1 := (cnt_range (both r i) 25 (-12)).1
    have n2 := cnt2_nn r n (i + 1)
    simp only [cnt2]
    by_cases hj : j = i
    · subst hj
      have := cnt_pos (p := both r j) 25 (-12) k h.1.1 (by have := h.1; omega) h.2
      omega
    · have := cnt2_pos n (i + 1) j k (by omega) (by omega) h
      omega
theorem fin4_true {r : R8} (hr : sm8 r = true) : fin4 r (cnt2 r 25 (-12)) = some (bv true) := by
  unfold sm8 at hr
  simp only [Bool.and_eq_true] at hr
  obtain ⟨⟨⟨h1, h2⟩, h3⟩, h4⟩ := hr
  obtain ⟨b1, _, r1, r2⟩ := sm_bd h1
  obtain ⟨b2, _, r3, r4⟩ := sm_bd h2
  obtain ⟨b3, _, r5, r6⟩ := sm_bd h3
  obtain ⟨b4, _, r7, r8⟩ := sm_bd h4
  have hm := mt_range r.a r.b r.c r.d r.e r.f r.g r.h
  have hb : ∀ {i k : Int}, -12 ≤ i → i < -12 + (25 : Nat) → lat r i k → bd i k ∧ onX r.a r.b r.c r.d i k = true ∧ onX r.e r.f r.g r.h i k = true := by
    intro i k g1 g2 g3
    have g4 := g3.2
    unfold both at g4
    rw [Bool.and_eq_true] at g4
    have := g3.1
    exact ⟨by unfold bd; omega, g4.1, g4.2⟩
  obtain ⟨x1, x2⟩ := cnt2_ex (r := r) 25 (-12)
  have hN := cnt2_nn r 25 (-12)
  have m1 : 1 ≤ cnt2 r 25 (-12) → 1 ≤ mt r.a r.b r.c r.d r.e r.f r.g r.h := by
    intro h
    obtain ⟨i, k, g1, g2, g3⟩ := x1 h
    obtain ⟨b5, o1, o2⟩ := hb g1 g2 g3
    exact mt_meet b1 b2 b3 b4 b5 o1 o2
  have m2 : 2 ≤ cnt2 r 25 (-12) → mt r.a r.b r.c r.d r.e r.f r.g r.h = 2 := by
    intro h
    obtain ⟨i, k, i', k', g1, g2, g3, g4, g5, g6, g7⟩ := x2 h
    obtain ⟨b5, o1, o2⟩ := hb g1 g2 g5
    obtain ⟨b6, o3, o4⟩ := hb g3 g4 g6
    exact mt_two b1 b2 b3 b4 b5 b6 o1 o2 o3 o4 g7
  have m3 : mt r.a r.b r.c r.d r.e r.f r.g r.h = 2 → 1 ≤ cnt2 r 25 (-12) := by
    intro h
    have put : ∀ {i k : Int}, (-12 ≤ i ∧ i ≤ 12) → (-12 ≤ k ∧ k ≤ 12) → onX r.a r.b r.c r.d i k = true → onX r.e r.f r.g r.h i k = true → 1 ≤ cnt2 r 25 (-12) := by
      intro i k hi hk o1 o2
      exact cnt2_pos 25 (-12) i k (by omega) (by omega) ⟨hk, by unfold both; rw [o1, o2]; rfl⟩
    rcases mt_end b1 b2 b3 b4 h with o | o | o | o
    · exact put r5 r6 o (on_self1 b3 b4)
    · exact put r7 r8 o (on_self2 b3 b4)
    · exact put r1 r2 (on_self1 b1 b2) o
    · exact put r3 r4 (on_self2 b1 b2) o
  unfold fin4
  dsimp only
  rw [on_self1 b1 b2, on_self2 b1 b2]
  generalize mt r.a r.b r.c r.d r.e r.f r.g r.h = m at *
  generalize cnt2 r 25 (-12) = N at *
  rw [decide_eq_true (show m ≥ 0 by omega), decide_eq_true (show m ≤ 2 by omega), decide_eq_true (show m ≥ (if 2 < N then 2 else N) by split <;> omega)]
  by_cases h : m < 2
  · rw [decide_eq_true h]; rfl
  · rw [decide_eq_false h, decide_eq_true (show N > 0 by have := m3 (by omega); omega)]; rfl
theorem law4 (a b c d e f g h : Int) : Enters Try.prog 4 ∧ PCall Try.prog 4 [.agg [iv a, iv b, iv c, iv d, iv e, iv f, iv g, iv h]] (bv true) := by
  refine runP_sound ok26 (n := 60) ?_
  have hs : sm8 ⟨sm a, sm b, sm c, sm d, sm e, sm f, sm g, sm h⟩ = true := by
    have i2 : ∀ x y : Int, inB2 12 (sm x) (sm y) = true := fun x y => inB2_iff.2 ⟨sm_range x, sm_range y⟩
    unfold sm8; dsimp only; rw [i2, i2, i2, i2]; rfl
  have hp : p4o ⟨true, 0, -12, 0, ⟨a, b, c, d, e, f, g, h⟩, ⟨sm a, sm b, sm c, sm d, sm e, sm f, sm g, sm h⟩⟩ = true := by
    simp only [p4o, Bool.and_eq_true, decide_eq_true_eq]
    exact ⟨⟨hs, by omega⟩, by omega, by omega⟩
  rw [q4, hp, Int.zero_add, show (13 - -12 : Int).toNat = 25 from rfl, fin4_true hs]
  rfl
end Go.Hg
