/- Geometry: contracts: the sign of a difference of products. -/
import Derived.Test.YtneklpbkfmljfaaHgB
namespace Go.Hg
open Go.Hx Go.Proofs
def cSg2 : List PV → Option PV | [.val (.int .i64 a), .val (.int .i64 b), .val (.int .i64 c), .val (.int .i64 d)] => some (iv (sg2 a b c d)) | _ => none
theorem sgn_mul (a b : Int) : W (sgn a * sgn b) = sgn a * sgn b ∧ -1 ≤ sgn a * sgn b ∧ sgn a * sgn b ≤ 1 := by
  have h1 := sgn_range a
  have h2 := sgn_range b
  have h : -1 ≤ sgn a * sgn b ∧ sgn a * sgn b ≤ 1 := by
    have : sgn a = -1 ∨ sgn a = 0 ∨ sgn a = 1 := by omega
    rcases this with e | e | e <;> rw [e] <;> omega
  exact ⟨W_id (by omega) (by omega), h⟩
theorem W_sub1 {s t : Int} (h1 : -1 ≤ s ∧ s ≤ 1) (h2 : -1 ≤ t ∧ t ≤ 1) : W (s - t) = s - t := W_id (by omega) (by omega)
theorem oSg2 (args : List PV) (r : PV) (h : cSg2 args = some r) : Enters Try.prog 79 ∧ PCall Try.prog 79 args r := by
  unfold cSg2 at h; split at h
  · rename_i a b c d; cases h
    have e : (bif W (sgn a * sgn b) != W (sgn c * sgn d) then some (iv (sgn (W (W (sgn a * sgn b) - W (sgn c * sgn d))))) else some (iv (W (W (sgn a * sgn b) * cmp2 (hiP (sz a * sz b)) (U (sz a * sz b)) (hiP (sz c * sz d)) (U (sz c * sz d)))))) = some (iv (sg2 a b c d)) := by
      obtain ⟨e1, h1⟩ := sgn_mul a b
      obtain ⟨e2, h2⟩ := sgn_mul c d
      rw [e1, e2, cmp2_eq, W_sub1 h1 h2]
      unfold sg2
      generalize sgn a * sgn b = s at *
      generalize sgn c * sgn d = t at *
      by_cases hst : s = t
      · rw [if_pos hst, show (s != t) = false by simpa using hst]
        have hm : W (s * sgn (sz a * sz b - sz c * sz d)) = s * sgn (sz a * sz b - sz c * sz d) := by
          have h3 := sgn_range (sz a * sz b - sz c * sz d)
          generalize sgn (sz a * sz b - sz c * sz d) = q at *
          have hs : s = -1 ∨ s = 0 ∨ s = 1 := by omega
          rcases hs with e | e | e <;> rw [e] <;> exact W_id (by omega) (by omega)
        rw [hm]; rfl
      · rw [if_neg hst, show (s != t) = true by simpa using hst]; rfl
    refine runP_sound ok2 (n := 60) (Eq.trans ?_ e); kernel_rfl
  · cases h
theorem oRSg2 (args : List PV) (r : PV) (h : cSg2 args = some r) : Enters Try.prog 81 ∧ PCall Try.prog 81 args r := by
  unfold cSg2 at h; split at h
  · rename_i a b c d; cases h
    have e : (bif W (sgn a * sgn b) != W (sgn c * sgn d) then some (iv (sgn (W (W (sgn a * sgn b) - W (sgn c * sgn d))))) else
        bif decide (mulhi2 (sz a) (sz b) > mulhi2 (sz c) (sz d)) then some (iv (W (sgn a * sgn b))) else bif decide (mulhi2 (sz a) (sz b) < mulhi2 (sz c) (sz d)) then some (iv (W (0 - W (sgn a * sgn b)))) else
        bif decide (U (sz a * sz b) > U (sz c * sz d)) then some (iv (W (sgn a * sgn b))) else bif decide (U (sz a * sz b) < U (sz c * sz d)) then some (iv (W (0 - W (sgn a * sgn b)))) else some (iv 0)) = some (iv (sg2 a b c d)) := by
      obtain ⟨e1, h1⟩ := sgn_mul a b
      obtain ⟨e2, h2⟩ := sgn_mul c d
      rw [e1, e2, W_sub1 h1 h2, (mulhi_eq (sz_range a) (sz_range b)).2, (mulhi_eq (sz_range c) (sz_range d)).2]
      unfold sg2
      generalize sgn a * sgn b = s at *
      generalize sgn c * sgn d = t at *
      have hp : ∀ x y : Int, 0 ≤ sz x * sz y := fun x y => Int.mul_nonneg (sz_range x).1 (sz_range y).1
      have p1 := hp a b
      have p2 := hp c d
      generalize sz a * sz b = p at *
      generalize sz c * sz d = q at *
      by_cases hst : s = t
      · rw [if_pos hst, show (s != t) = false by simpa using hst, W_id (n := 0 - s) (by omega) (by omega)]
        have d1 : hiP p > hiP q ∨ hiP p < hiP q ∨ hiP p = hiP q := by omega
        have c0 : ∀ {b : Bool} {x y : Option PV}, b = true → (bif b then x else y) = x := fun h => by rw [h]; rfl
        have c1 : ∀ {b : Bool} {x y : Option PV}, b = false → (bif b then x else y) = y := fun h => by rw [h]; rfl
        rw [c1 rfl]
        have sp : ∀ z : Int, 0 < z → s * sgn z = s := fun z h => by unfold sgn; rw [if_neg (by omega), if_pos h]; omega
        have sn : ∀ z : Int, z < 0 → s * sgn z = 0 - s := fun z h => by unfold sgn; rw [if_pos h]; omega
        have hh1 : hiP p > hiP q → 0 < p - q := by unfold hiP; omega
        have hh2 : hiP p < hiP q → p - q < 0 := by unfold hiP; omega
        rcases d1 with g | g | g
        · rw [c0 (decide_eq_true g), sp _ (hh1 g)]
        · rw [c1 (decide_eq_false (by omega)), c0 (decide_eq_true g), sn _ (hh2 g)]
        · rw [c1 (decide_eq_false (by omega)), c1 (decide_eq_false (by omega))]
          have d2 : U p > U q ∨ U p < U q ∨ U p = U q := by omega
          have k1 : U p > U q → 0 < p - q := by rw [U_eq, U_eq]; unfold hiP at g; omega
          have k2 : U p < U q → p - q < 0 := by rw [U_eq, U_eq]; unfold hiP at g; omega
          have k3 : U p = U q → p - q = 0 := by rw [U_eq, U_eq]; unfold hiP at g; omega
          rcases d2 with g2 | g2 | g2
          · rw [c0 (decide_eq_true g2), sp _ (k1 g2)]
          · rw [c1 (decide_eq_false (by omega)), c0 (decide_eq_true g2), sn _ (k2 g2)]
          · rw [c1 (decide_eq_false (by omega)), c1 (decide_eq_false (by omega)), k3 g2]
            show some (iv 0) = some (iv (s * 0)); rw [Int.mul_zero]
      · rw [if_neg hst, show (s != t) = true by simpa using hst]; rfl
    refine runP_sound ok2 (n := 60) (Eq.trans ?_ e); kernel_rfl
  · cases h
def E3 : EnvK := E2 |>.addO 79 cSg2 |>.addO 81 cSg2
theorem ok3 : EnvOK Try.prog E3.env := (ok2.addO oSg2).addO oRSg2
end Go.Hg
