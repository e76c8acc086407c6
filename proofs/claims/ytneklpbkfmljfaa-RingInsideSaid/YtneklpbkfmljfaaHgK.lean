/- Geometry: contracts: SpotSide. -/
import Derived.Test.YtneklpbkfmljfaaHgJ
namespace Go.Hg
open Go.Hx Go.Proofs
/-- Is a spot bounded? -/
def spOK (x y d : Int) : Bool := decide (1 ≤ d) && decide (d ≤ 4194304) && inB2 137438953472 x y
def crsS (a b c d e f g h i : Int) : Int := (d * c - a * f) * (h * c - b * i) - (e * c - b * f) * (g * c - a * i)
/-- P4.7. -/
def ssd (a b c d e f g h i : Int) : Int := bif spOK a b c && spOK d e f && spOK g h i then sgn (crsS a b c d e f g h i) else 0
def cSsd : List PV → Option PV
  | [.agg [.val (.int .i64 a), .val (.int .i64 b), .val (.int .i64 c)], .agg [.val (.int .i64 d), .val (.int .i64 e), .val (.int .i64 f)], .agg [.val (.int .i64 g), .val (.int .i64 h), .val (.int .i64 i)]] => some (iv (ssd a b c d e f g h i))
  | _ => none
def rawS (a b c d e f g h i : Int) : Int := sg2 (W (W (d * c) - W (a * f))) (W (W (h * c) - W (b * i))) (W (W (e * c) - W (b * f))) (W (W (g * c) - W (a * i)))
theorem mul_bd {a b A B : Int} (ha : -A ≤ a ∧ a ≤ A) (hb : -B ≤ b ∧ b ≤ B) : -(A * B) ≤ a * b ∧ a * b ≤ A * B := by
  have hA : 0 ≤ A := by omega
  have hB : 0 ≤ B := by omega
  have h : (a * b).natAbs ≤ (A * B).natAbs := by
    rw [Int.natAbs_mul, Int.natAbs_mul]
    exact Nat.mul_le_mul (by omega) (by omega)
  have := Int.mul_nonneg hA hB
  omega
theorem spOK_iff {x y d : Int} : spOK x y d = true ↔ (1 ≤ d ∧ d ≤ 4194304) ∧ ((-137438953472 ≤ x ∧ x ≤ 137438953472) ∧ (-137438953472 ≤ y ∧ y ≤ 137438953472)) := by
  unfold spOK
  rw [Bool.and_eq_true, Bool.and_eq_true, decide_eq_true_iff, decide_eq_true_iff, inB2_iff]
theorem rawS_eq {a b c d e f g h i : Int} (h1 : spOK a b c = true) (h2 : spOK d e f = true) (h3 : spOK g h i = true) : rawS a b c d e f g h i = sgn (crsS a b c d e f g h i) := by
  obtain ⟨k1, k2, k3⟩ := spOK_iff.1 h1
  obtain ⟨k4, k5, k6⟩ := spOK_iff.1 h2
  obtain ⟨k7, k8, k9⟩ := spOK_iff.1 h3
  have m : ∀ {x z : Int}, (-137438953472 ≤ x ∧ x ≤ 137438953472) → (1 ≤ z ∧ z ≤ 4194304) → -576460752303423488 ≤ x * z ∧ x * z ≤ 576460752303423488 := fun hx hz => mul_bd (A := 137438953472) (B := 4194304) hx (by omega)
  have p1 := m k5 k1
  have p2 := m k2 k4
  have p3 := m k9 k1
  have p4 := m k3 k7
  have p5 := m k6 k1
  have p6 := m k3 k4
  have p7 := m k8 k1
  have p8 := m k2 k7
  unfold rawS crsS
  rw [W_id (n := d * c) (by omega) (by omega), W_id (n := a * f) (by omega) (by omega), W_id (n := h * c) (by omega) (by omega), W_id (n := b * i) (by omega) (by omega),
    W_id (n := e * c) (by omega) (by omega), W_id (n := b * f) (by omega) (by omega), W_id (n := g * c) (by omega) (by omega), W_id (n := a * i) (by omega) (by omega),
    W_id (n := d * c - a * f) (by omega) (by omega), W_id (n := h * c - b * i) (by omega) (by omega), W_id (n := e * c - b * f) (by omega) (by omega), W_id (n := g * c - a * i) (by omega) (by omega)]
  exact sg2_eq (by omega) (by omega) (by omega) (by omega)
theorem spOK_wi (x y d : Int) : spOK x y d = (!decide (d < 1) && !decide (d > 4194304) && wi2 137438953472 x y) := by
  unfold spOK inB2
  rw [← wi2_eq (by omega)]
  rw [show decide (1 ≤ d) = !decide (d < 1) by rw [Bool.eq_iff_iff]; simp, show decide (d ≤ 4194304) = !decide (d > 4194304) by rw [Bool.eq_iff_iff]; simp]
theorem ssd_raw (a b c d e f g h i : Int) : ssd a b c d e f g h i = bif spOK a b c && spOK d e f && spOK g h i then rawS a b c d e f g h i else 0 := by
  unfold ssd
  cases h1 : spOK a b c
  · rfl
  · cases h2 : spOK d e f
    · rfl
    · cases h3 : spOK g h i
      · rfl
      · rw [rawS_eq h1 h2 h3]
theorem oSsd (args : List PV) (r : PV) (h : cSsd args = some r) : Enters Try.prog 33 ∧ PCall Try.prog 33 args r := by
  unfold cSsd at h; split at h
  · rename_i a b c d e f g h' i; cases h
    have q : (bif decide (c < 1) then some (iv 0) else bif decide (c > 4194304) then some (iv 0) else bif !wi2 137438953472 a b then some (iv 0) else
        bif decide (f < 1) then some (iv 0) else bif decide (f > 4194304) then some (iv 0) else bif !wi2 137438953472 d e then some (iv 0) else
        bif decide (i < 1) then some (iv 0) else bif decide (i > 4194304) then some (iv 0) else bif !wi2 137438953472 g h' then some (iv 0) else some (iv (rawS a b c d e f g h' i))) = some (iv (ssd a b c d e f g h' i)) := by
      rw [ssd_raw, spOK_wi, spOK_wi, spOK_wi]
      cases decide (c < 1) <;> cases decide (c > 4194304) <;> cases wi2 137438953472 a b <;> cases decide (f < 1) <;> cases decide (f > 4194304) <;> cases wi2 137438953472 d e <;> cases decide (i < 1) <;> cases decide (i > 4194304) <;> cases wi2 137438953472 g h' <;> rfl
    refine runP_sound ok12 (n := 60) (Eq.trans ?_ q); kernel_rfl
  · cases h
def cFar : List PV → Option PV | [.agg [.val (.int .i64 a), .val (.int .i64 b), .val (.int .i64 c)]] => some (bv (!spOK a b c)) | _ => none
theorem oFar (args : List PV) (r : PV) (h : cFar args = some r) : Enters Try.prog 95 ∧ PCall Try.prog 95 args r := by
  unfold cFar at h; split at h
  · rename_i a b c; cases h
    have q : (bif decide (1 ≤ c) then bif !decide (c ≤ 4194304) then some (bv true) else bif decide (-137438953472 ≤ a) then bif !decide (a ≤ 137438953472) then some (bv true) else bif decide (-137438953472 ≤ b) then some (bv (!decide (b ≤ 137438953472))) else some (bv true) else some (bv true) else some (bv true)) = some (bv (!spOK a b c)) := by
      unfold spOK inB2 inB
      cases decide (1 ≤ c) <;> cases decide (c ≤ 4194304) <;> cases decide (-137438953472 ≤ a) <;> cases decide (a ≤ 137438953472) <;> cases decide (-137438953472 ≤ b) <;> rfl
    refine runP_sound ok12 (n := 60) (Eq.trans ?_ q); kernel_rfl
  · cases h
def E13 : EnvK := (E12.addO 33 cSsd).addO 95 cFar
theorem ok13 : EnvOK Try.prog E13.env := (ok12.addO oSsd).addO oFar
theorem oRSsd (args : List PV) (r : PV) (h : cSsd args = some r) : Enters Try.prog 34 ∧ PCall Try.prog 34 args r := by
  unfold cSsd at h; split at h
  · rename_i a b c d e f g h' i; cases h
    have q : (bif !spOK a b c then some (iv 0) else bif !spOK d e f then some (iv 0) else bif !spOK g h' i then some (iv 0) else some (iv (rawS a b c d e f g h' i))) = some (iv (ssd a b c d e f g h' i)) := by
      rw [ssd_raw]
      cases spOK a b c <;> cases spOK d e f <;> cases spOK g h' i <;> rfl
    refine runP_sound ok13 (n := 60) (Eq.trans ?_ q); kernel_rfl
  · cases h
end Go.Hg
