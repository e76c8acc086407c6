/- Geometry: numbers: signs, products of two words. -/
import Derived.Test.YtneklpbkfmljfaaProg
import Derived.Test.YtneklpbkfmljfaaPart4
import Derived.KernelRfl
import Derived.WalkSmall
import Derived.WalkKit
namespace Go.Hg
open Go.Hx Go.Proofs
abbrev iv (n : Int) : PV := PV.val (.int .i64 n)
abbrev uv (n : Int) : PV := PV.val (.int .u64 n)
abbrev bv (b : Bool) : PV := PV.val (.bool b)
abbrev ptv (x y : Int) : PV := .agg [iv x, iv y]
abbrev spv (x y d : Int) : PV := .agg [iv x, iv y, iv d]
abbrev rcv (a b c d : Int) : PV := .agg [iv a, iv b, iv c, iv d]
abbrev W (n : Int) : Int := IntKind.wrap .i64 n
abbrev U (n : Int) : Int := IntKind.wrap .u64 n
theorem W_eq (n : Int) : W n = (n + 9223372036854775808) % 18446744073709551616 - 9223372036854775808 := by
  show (if (true && decide (n % (2 ^ 64 : Int) ≥ (2 ^ 63 : Int))) = true then n % (2 ^ 64 : Int) - (2 ^ 64 : Int) else n % (2 ^ 64 : Int)) = _
  simp only [Bool.true_and, decide_eq_true_eq]
  split <;> omega
theorem W_id {n : Int} (h1 : -9223372036854775808 ≤ n) (h2 : n < 9223372036854775808) : W n = n := by rw [W_eq]; omega
theorem W_range (n : Int) : -9223372036854775808 ≤ W n ∧ W n < 9223372036854775808 := by rw [W_eq]; omega
theorem U_eq (n : Int) : U n = n % 18446744073709551616 := by
  show (if (false && decide (n % (2 ^ 64 : Int) ≥ (2 ^ 63 : Int))) = true then n % (2 ^ 64 : Int) - (2 ^ 64 : Int) else n % (2 ^ 64 : Int)) = _
  simp
theorem U_id {n : Int} (h1 : 0 ≤ n) (h2 : n < 18446744073709551616) : U n = n := by rw [U_eq]; omega
theorem U_range (n : Int) : 0 ≤ U n ∧ U n < 18446744073709551616 := by rw [U_eq]; omega

/-! Signs. -/
def sgn (n : Int) : Int := if n < 0 then -1 else if n > 0 then 1 else 0
theorem sgn_range (n : Int) : -1 ≤ sgn n ∧ sgn n ≤ 1 := by unfold sgn; split <;> (try split) <;> omega
/-- A number without its sign, as the code has it. -/
def sz (n : Int) : Int := if n < 0 then U (0 - U n) else U n
theorem sz_range (n : Int) : 0 ≤ sz n ∧ sz n < 18446744073709551616 := by unfold sz; split <;> exact U_range _
theorem sz_id {n : Int} (h1 : -9223372036854775808 ≤ n) (h2 : n < 9223372036854775808) : sz n = n.natAbs := by
  unfold sz
  split
  · rw [U_eq, U_eq]; omega
  · rw [U_eq]; omega
theorem and_low {n : Int} (h1 : 0 ≤ n) (h2 : n < 18446744073709551616) : bits .and .u64 n 4294967295 = n % 4294967296 := by
  have h := bits_and_u64_nat n.toNat 4294967295 (by omega) (by omega)
  rw [Int.toNat_of_nonneg h1] at h
  refine h.trans ?_
  have : n.toNat &&& 4294967295 = n.toNat % 4294967296 := Nat.and_two_pow_sub_one_eq_mod n.toNat 32
  rw [this]; omega
/-- The high word of a product. -/
def hiP (p : Int) : Int := p / 18446744073709551616
def mulhi (a b : Int) : Int := U ((U ((U ((Int.fdiv a 4294967296) * (Int.fdiv b 4294967296))) + (Int.fdiv (U ((U ((Int.fdiv a 4294967296) * (bits .and .u64 b 4294967295))) + (Int.fdiv (U ((bits .and .u64 a 4294967295) * (bits .and .u64 b 4294967295))) 4294967296))) 4294967296))) + (Int.fdiv (U ((bits .and .u64 (U ((U ((Int.fdiv a 4294967296) * (bits .and .u64 b 4294967295))) + (Int.fdiv (U ((bits .and .u64 a 4294967295) * (bits .and .u64 b 4294967295))) 4294967296))) 4294967295) + (U ((bits .and .u64 a 4294967295) * (Int.fdiv b 4294967296))))) 4294967296))
def mulhi2 (a b : Int) : Int := U ((U ((U ((Int.fdiv a 4294967296) * (Int.fdiv b 4294967296))) + (Int.fdiv (U ((U ((Int.fdiv a 4294967296) * (bits .and .u64 b 4294967295))) + (Int.fdiv (U ((bits .and .u64 a 4294967295) * (bits .and .u64 b 4294967295))) 4294967296))) 4294967296))) + (Int.fdiv (U ((U ((bits .and .u64 a 4294967295) * (Int.fdiv b 4294967296))) + (bits .and .u64 (U ((U ((Int.fdiv a 4294967296) * (bits .and .u64 b 4294967295))) + (Int.fdiv (U ((bits .and .u64 a 4294967295) * (bits .and .u64 b 4294967295))) 4294967296))) 4294967295))) 4294967296))
theorem mul_lt32 {a b : Int} (ha : 0 ≤ a) (hb : 0 ≤ b) (ha' : a ≤ 4294967295) (hb' : b ≤ 4294967295) : 0 ≤ a * b ∧ a * b ≤ 18446744065119617025 :=
  ⟨Int.mul_nonneg ha hb, Int.le_trans (Int.mul_le_mul ha' hb' hb (by omega)) (by decide)⟩
theorem mulhi_eq {a b : Int} (ha : 0 ≤ a ∧ a < 18446744073709551616) (hb : 0 ≤ b ∧ b < 18446744073709551616) : mulhi a b = hiP (a * b) ∧ mulhi2 a b = hiP (a * b) := by
  have fd : ∀ x : Int, Int.fdiv x 4294967296 = x / 4294967296 := fun x => Int.fdiv_eq_ediv_of_nonneg x (by omega)
  unfold mulhi mulhi2 hiP
  rw [and_low ha.1 ha.2, and_low hb.1 hb.2]
  simp only [fd]
  have ea : a = (a / 4294967296) * 4294967296 + a % 4294967296 := by omega
  have eb : b = (b / 4294967296) * 4294967296 + b % 4294967296 := by omega
  generalize hA1 : a / 4294967296 = A1 at *
  generalize hA0 : a % 4294967296 = A0 at *
  generalize hB1 : b / 4294967296 = B1 at *
  generalize hB0 : b % 4294967296 = B0 at *
  have rA1 : 0 ≤ A1 ∧ A1 ≤ 4294967295 := by omega
  have rA0 : 0 ≤ A0 ∧ A0 ≤ 4294967295 := by omega
  have rB1 : 0 ≤ B1 ∧ B1 ≤ 4294967295 := by omega
  have rB0 : 0 ≤ B0 ∧ B0 ≤ 4294967295 := by omega
  have m11 := mul_lt32 rA1.1 rB1.1 rA1.2 rB1.2
  have m10 := mul_lt32 rA1.1 rB0.1 rA1.2 rB0.2
  have m01 := mul_lt32 rA0.1 rB1.1 rA0.2 rB1.2
  have m00 := mul_lt32 rA0.1 rB0.1 rA0.2 rB0.2
  have ep : a * b = A1 * B1 * 18446744073709551616 + (A1 * B0 + A0 * B1) * 4294967296 + A0 * B0 := by rw [ea, eb]; grind
  rw [ep]
  generalize A1 * B1 = p11 at *
  generalize A1 * B0 = p10 at *
  generalize A0 * B1 = p01 at *
  generalize A0 * B0 = p00 at *
  clear ea eb ep hA1 hA0 hB1 hB0 rA1 rA0 rB1 rB0 ha hb
  rw [U_id (n := p11) (by omega) (by omega), U_id (n := p10) (by omega) (by omega), U_id (n := p01) (by omega) (by omega), U_id (n := p00) (by omega) (by omega)]
  rw [U_id (n := p10 + p00 / 4294967296) (by omega) (by omega)]
  rw [and_low (n := p10 + p00 / 4294967296) (by omega) (by omega)]
  rw [U_id (n := (p10 + p00 / 4294967296) % 4294967296 + p01) (by omega) (by omega), U_id (n := p01 + (p10 + p00 / 4294967296) % 4294967296) (by omega) (by omega)]
  rw [U_id (n := p11 + (p10 + p00 / 4294967296) / 4294967296) (by omega) (by omega)]
  constructor
  · rw [U_id (by omega) (by omega)]; omega
  · rw [U_id (by omega) (by omega)]; omega
/-- The sign of a b - c d, as the code finds it. -/
def sg2 (a b c d : Int) : Int := if sgn a * sgn b = sgn c * sgn d then sgn a * sgn b * sgn (sz a * sz b - sz c * sz d) else sgn (sgn a * sgn b - sgn c * sgn d)
/-- It is the sign. -/
theorem sg2_eq {a b c d : Int} (ha : -9223372036854775808 ≤ a ∧ a < 9223372036854775808) (hb : -9223372036854775808 ≤ b ∧ b < 9223372036854775808) (hc : -9223372036854775808 ≤ c ∧ c < 9223372036854775808) (hd : -9223372036854775808 ≤ d ∧ d < 9223372036854775808) : sg2 a b c d = sgn (a * b - c * d) := by
  have pos : ∀ x y : Int, 0 < x → 0 < y → 0 < x * y := fun x y => Int.mul_pos
  have key : ∀ x y : Int, (x = 0 ∨ y = 0 → x * y = 0 ∧ sgn x * sgn y = 0) ∧ (0 < x ∧ 0 < y ∨ x < 0 ∧ y < 0 → 0 < x * y ∧ sgn x * sgn y = 1 ∧ (x.natAbs : Int) * y.natAbs = x * y) ∧ (0 < x ∧ y < 0 ∨ x < 0 ∧ 0 < y → x * y < 0 ∧ sgn x * sgn y = -1 ∧ (x.natAbs : Int) * y.natAbs = -(x * y)) := by
    intro x y
    have sp : ∀ z : Int, 0 < z → sgn z = 1 := fun z h => by unfold sgn; rw [if_neg (by omega), if_pos h]
    have sn : ∀ z : Int, z < 0 → sgn z = -1 := fun z h => by unfold sgn; rw [if_pos h]
    have np : ∀ z : Int, 0 < z → (z.natAbs : Int) = z := fun z h => by omega
    have nn : ∀ z : Int, z < 0 → (z.natAbs : Int) = -z := fun z h => by omega
    refine ⟨?_, ?_, ?_⟩
    · rintro (rfl | rfl)
      · simp [sgn]
      · simp [sgn]
    · rintro (⟨h1, h2⟩ | ⟨h1, h2⟩)
      · rw [sp x h1, sp y h2, np x h1, np y h2]; exact ⟨Int.mul_pos h1 h2, rfl, rfl⟩
      · rw [sn x h1, sn y h2, nn x h1, nn y h2]; exact ⟨Int.mul_pos_of_neg_of_neg h1 h2, rfl, by grind⟩
    · rintro (⟨h1, h2⟩ | ⟨h1, h2⟩)
      · rw [sp x h1, sn y h2, np x h1, nn y h2]; exact ⟨Int.mul_neg_of_pos_of_neg h1 h2, rfl, by grind⟩
      · rw [sn x h1, sp y h2, nn x h1, np y h2]; exact ⟨Int.mul_neg_of_neg_of_pos h1 h2, rfl, by grind⟩
  have cs : ∀ x y : Int, (x = 0 ∨ y = 0) ∨ (0 < x ∧ 0 < y ∨ x < 0 ∧ y < 0) ∨ (0 < x ∧ y < 0 ∨ x < 0 ∧ 0 < y) := by intro x y; omega
  unfold sg2
  rw [sz_id ha.1 ha.2, sz_id hb.1 hb.2, sz_id hc.1 hc.2, sz_id hd.1 hd.2]
  have s0 : sgn 0 = 0 := rfl
  rcases cs a b with h1 | h1 | h1 <;> rcases cs c d with h2 | h2 | h2
  · obtain ⟨e1, e2⟩ := (key a b).1 h1; obtain ⟨e3, e4⟩ := (key c d).1 h2
    rw [e1, e2, e3, e4]; simp [sgn]
  · obtain ⟨e1, e2⟩ := (key a b).1 h1; obtain ⟨e3, e4, e5⟩ := (key c d).2.1 h2
    rw [e1, e2, e4, if_neg (by omega)]; unfold sgn; rw [if_pos (by omega), if_pos (by omega)]
  · obtain ⟨e1, e2⟩ := (key a b).1 h1; obtain ⟨e3, e4, e5⟩ := (key c d).2.2 h2
    rw [e1, e2, e4, if_neg (by omega)]; unfold sgn; rw [if_neg (by omega), if_pos (by omega), if_neg (by omega), if_pos (by omega)]
  · obtain ⟨e1, e2, e0⟩ := (key a b).2.1 h1; obtain ⟨e3, e4⟩ := (key c d).1 h2
    rw [e3, e2, e4, if_neg (by omega)]; unfold sgn; rw [if_neg (by omega), if_pos (by omega), if_neg (by omega), if_pos (by omega)]
  · obtain ⟨e1, e2, e0⟩ := (key a b).2.1 h1; obtain ⟨e3, e4, e5⟩ := (key c d).2.1 h2
    rw [e2, e4, e0, e5, if_pos rfl, Int.one_mul]
  · obtain ⟨e1, e2, e0⟩ := (key a b).2.1 h1; obtain ⟨e3, e4, e5⟩ := (key c d).2.2 h2
    rw [e2, e4, if_neg (by omega)]; unfold sgn; rw [if_neg (by omega), if_pos (by omega), if_neg (by omega), if_pos (by omega)]
  · obtain ⟨e1, e2, e0⟩ := (key a b).2.2 h1; obtain ⟨e3, e4⟩ := (key c d).1 h2
    rw [e3, e2, e4, if_neg (by omega)]; unfold sgn; rw [if_pos (by omega), if_pos (by omega)]
  · obtain ⟨e1, e2, e0⟩ := (key a b).2.2 h1; obtain ⟨e3, e4, e5⟩ := (key c d).2.1 h2
    rw [e2, e4, if_neg (by omega)]; unfold sgn; rw [if_pos (by omega), if_pos (by omega)]
  · obtain ⟨e1, e2, e0⟩ := (key a b).2.2 h1; obtain ⟨e3, e4, e5⟩ := (key c d).2.2 h2
    rw [e2, e4, e0, e5, if_pos rfl]; unfold sgn
    split <;> split <;> (try split) <;> (try split) <;> omega
end Go.Hg
/- Geometry: contracts of the functions of exact numbers. -/
namespace Go.Hg
open Go.Hx Go.Proofs
def cCmpI : List PV → Option PV | [.val (.int .i64 a), .val (.int .i64 b)] => some (iv (sgn (a - b))) | _ => none
def cCmpU : List PV → Option PV | [.val (.int .u64 a), .val (.int .u64 b)] => some (iv (sgn (a - b))) | _ => none
theorem cmp_tree (a b : Int) : (bif a != a then (bif b != b then some (iv 0) else some (iv (-1))) else bif b != b then some (iv 1) else bif decide (a < b) then some (iv (-1)) else bif decide (a > b) then some (iv 1) else some (iv 0)) = some (iv (sgn (a - b))) := by
  simp only [bne_self_eq_false, cond_false]
  unfold sgn
  by_cases h : a < b
  · rw [decide_eq_true h, if_pos (by omega)]; rfl
  · rw [decide_eq_false h, if_neg (by omega)]
    by_cases h2 : a > b
    · rw [decide_eq_true h2, if_pos (by omega)]; rfl
    · rw [decide_eq_false h2, if_neg (by omega)]; rfl
theorem oCmpI (args : List PV) (r : PV) (h : cCmpI args = some r) : Enters Try.prog 138 ∧ PCall Try.prog 138 args r := by
  unfold cCmpI at h; split at h
  · rename_i a b; cases h
    refine runP_sound envOK_zero (n := 60) (Eq.trans ?_ (cmp_tree a b)); kernel_rfl
  · cases h
theorem oCmpU (args : List PV) (r : PV) (h : cCmpU args = some r) : Enters Try.prog 157 ∧ PCall Try.prog 157 args r := by
  unfold cCmpU at h; split at h
  · rename_i a b; cases h
    refine runP_sound envOK_zero (n := 60) (Eq.trans ?_ (cmp_tree a b)); kernel_rfl
  · cases h
def cSgn : List PV → Option PV | [.val (.int .i64 a)] => some (iv (sgn a)) | _ => none
theorem oRSign (args : List PV) (r : PV) (h : cSgn args = some r) : Enters Try.prog 133 ∧ PCall Try.prog 133 args r := by
  unfold cSgn at h; split at h
  · rename_i a; cases h
    have e : (bif decide (a > 0) then some (iv 1) else bif decide (a < 0) then some (iv (-1)) else some (iv 0)) = some (iv (sgn a)) := by
      unfold sgn
      by_cases h : a < 0
      · rw [decide_eq_false (show ¬ a > 0 by omega), decide_eq_true h, if_pos h]; rfl
      · rw [if_neg h, decide_eq_false h]
        by_cases h2 : a > 0
        · rw [decide_eq_true h2, if_pos h2]; rfl
        · rw [decide_eq_false h2, if_neg h2]; rfl
    refine runP_sound envOK_zero (n := 60) (Eq.trans ?_ e); kernel_rfl
  · cases h
def cSz : List PV → Option PV | [.val (.int .i64 a)] => some (uv (sz a)) | _ => none
theorem sz_tree (a : Int) : (bif decide (a < 0) then some (uv (U (0 - U a))) else some (uv (U a))) = some (uv (sz a)) := by
  unfold sz
  by_cases h : a < 0
  · rw [decide_eq_true h, if_pos h]; rfl
  · rw [decide_eq_false h, if_neg h]; rfl
theorem oSize (args : List PV) (r : PV) (h : cSz args = some r) : Enters Try.prog 139 ∧ PCall Try.prog 139 args r := by
  unfold cSz at h; split at h
  · rename_i a; cases h
    refine runP_sound envOK_zero (n := 60) (Eq.trans ?_ (sz_tree a)); kernel_rfl
  · cases h
theorem oRSize (args : List PV) (r : PV) (h : cSz args = some r) : Enters Try.prog 96 ∧ PCall Try.prog 96 args r := by
  unfold cSz at h; split at h
  · rename_i a; cases h
    refine runP_sound envOK_zero (n := 60) (Eq.trans ?_ (sz_tree a)); kernel_rfl
  · cases h
def cMul : List PV → Option PV | [.val (.int .u64 a), .val (.int .u64 b)] => some (.tup [uv (mulhi a b), uv (U (a * b))]) | _ => none
theorem oMul (args : List PV) (r : PV) (h : cMul args = some r) : Enters Try.prog 156 ∧ PCall Try.prog 156 args r := by
  unfold cMul at h; split at h
  · cases h; exact runP_sound envOK_zero (n := 60) (by kernel_rfl)
  · cases h
def cProd : List PV → Option PV | [.val (.int .u64 a), .val (.int .u64 b)] => some (.agg [uv (mulhi2 a b), uv (U (a * b))]) | _ => none
theorem oProd (args : List PV) (r : PV) (h : cProd args = some r) : Enters Try.prog 134 ∧ PCall Try.prog 134 args r := by
  unfold cProd at h; split at h
  · cases h; exact runP_sound envOK_zero (n := 60) (by kernel_rfl)
  · cases h
def E1 : EnvK := ({} : EnvK) |>.addO 138 cCmpI |>.addO 157 cCmpU |>.addO 133 cSgn |>.addO 139 cSz |>.addO 96 cSz |>.addO 156 cMul |>.addO 134 cProd
theorem ok1 : EnvOK Try.prog E1.env := ((((((envOK_zero.addO oCmpI).addO oCmpU).addO oRSign).addO oSize).addO oRSize).addO oMul).addO oProd
theorem sgn_sub0 (a : Int) : sgn (a - 0) = sgn a := by rw [Int.sub_zero]
theorem oSign (args : List PV) (r : PV) (h : cSgn args = some r) : Enters Try.prog 130 ∧ PCall Try.prog 130 args r := by
  unfold cSgn at h; split at h
  · rename_i a; cases h
    rw [← sgn_sub0]
    exact runP_sound ok1 (n := 60) (by kernel_rfl)
  · cases h
/-- The comparison of products of two words. -/
def cmp2 (a b c d : Int) : Int := if sgn (a - c) = 0 then sgn (b - d) else sgn (a - c)
def cCmp2 : List PV → Option PV | [.agg [.val (.int .u64 a), .val (.int .u64 b)], .agg [.val (.int .u64 c), .val (.int .u64 d)]] => some (iv (cmp2 a b c d)) | _ => none
theorem oCmp2 (args : List PV) (r : PV) (h : cCmp2 args = some r) : Enters Try.prog 132 ∧ PCall Try.prog 132 args r := by
  unfold cCmp2 at h; split at h
  · rename_i a b c d; cases h
    have e : (bif sgn (a - c) != 0 then some (iv (sgn (a - c))) else some (iv (sgn (b - d)))) = some (iv (cmp2 a b c d)) := by
      unfold cmp2
      by_cases h : sgn (a - c) = 0
      · rw [if_pos h, h]; rfl
      · rw [if_neg h, show (sgn (a - c) != 0) = true by simpa using h]; rfl
    refine runP_sound ok1 (n := 60) (Eq.trans ?_ e); kernel_rfl
  · cases h
theorem cmp2_eq (p q : Int) : cmp2 (hiP p) (U p) (hiP q) (U q) = sgn (p - q) := by
  unfold cmp2 hiP
  rw [U_eq, U_eq]
  unfold sgn
  (repeat' split) <;> omega
def cTimes : List PV → Option PV | [.val (.int .i64 a), .val (.int .i64 b)] => some (.agg [uv (hiP (sz a * sz b)), uv (U (sz a * sz b))]) | _ => none
theorem oTimes (args : List PV) (r : PV) (h : cTimes args = some r) : Enters Try.prog 131 ∧ PCall Try.prog 131 args r := by
  unfold cTimes at h; split at h
  · rename_i a b; cases h
    rw [← (mulhi_eq (sz_range a) (sz_range b)).1]
    exact runP_sound ok1 (n := 60) (by kernel_rfl)
  · cases h
def E2 : EnvK := E1 |>.addO 130 cSgn |>.addO 132 cCmp2 |>.addO 131 cTimes
theorem ok2 : EnvOK Try.prog E2.env := ((ok1.addO oSign).addO oCmp2).addO oTimes
end Go.Hg
/- Geometry: contracts: the sign of a difference of products. -/
namespace Go.Hg
open Go.Hx Go.Proofs
def cSg2 : List PV → Option PV | [.val (.int .i64 a), .val (.int .i64 b), .val (.int .i64 c), .val (.int .i64 d)] => some (iv (sg2 a b c d)) | _ => none
theorem sgn_mul (a b : Int) : W (sgn a * sgn b) = sgn a * sgn b ∧ -1 ≤ sgn a * sgn b ∧ sgn a * sgn b ≤ 1 := by
  have h1 := sgn_range a
  have h2 := sgn_range b
  have h : -1 ≤ sgn a * sgn b ∧ sgn a * sgn b ≤ 1 := by
    have : sgn a = -1 ∨ sgn a = 0 ∨ sgn a = 1 := by omega
    rcases this with e | e | e <;> rw [e] <;> omega
  exact ⟨W_id (by omega) (by omega), h⟩
theorem W_sub1 {s t : Int} (h1 : -1 ≤ s ∧ s ≤ 1) (h2 : -1 ≤ t ∧ t ≤ 1) : W (s - t) = s - t := W_id (by omega) (by omega)
theorem oSg2 (args : List PV) (r : PV) (h : cSg2 args = some r) : Enters Try.prog 79 ∧ PCall Try.prog 79 args r := by
  unfold cSg2 at h; split at h
  · rename_i a b c d; cases h
    have e : (bif W (sgn a * sgn b) != W (sgn c * sgn d) then some (iv (sgn (W (W (sgn a * sgn b) - W (sgn c * sgn d))))) else some (iv (W (W (sgn a * sgn b) * cmp2 (hiP (sz a * sz b)) (U (sz a * sz b)) (hiP (sz c * sz d)) (U (sz c * sz d)))))) = some (iv (sg2 a b c d)) := by
      obtain ⟨e1, h1⟩ := sgn_mul a b
      obtain ⟨e2, h2⟩ := sgn_mul c d
      rw [e1, e2, cmp2_eq, W_sub1 h1 h2]
      unfold sg2
      generalize sgn a * sgn b = s at *
      generalize sgn c * sgn d = t at *
      by_cases hst : s = t
      · rw [if_pos hst, show (s != t) = false by simpa using hst]
        have hm : W (s * sgn (sz a * sz b - sz c * sz d)) = s * sgn (sz a * sz b - sz c * sz d) := by
          have h3 := sgn_range (sz a * sz b - sz c * sz d)
          generalize sgn (sz a * sz b - sz c * sz d) = q at *
          have hs : s = -1 ∨ s = 0 ∨ s = 1 := by omega
          rcases hs with e | e | e <;> rw [e] <;> exact W_id (by omega) (by omega)
        rw [hm]; rfl
      · rw [if_neg hst, show (s != t) = true by simpa using hst]; rfl
    refine runP_sound ok2 (n := 60) (Eq.trans ?_ e); kernel_rfl
  · cases h
theorem oRSg2 (args : List PV) (r : PV) (h : cSg2 args = some r) : Enters Try.prog 81 ∧ PCall Try.prog 81 args r := by
  unfold cSg2 at h; split at h
  · rename_i a b c d; cases h
    have e : (bif W (sgn a * sgn b) != W (sgn c * sgn d) then some (iv (sgn (W (W (sgn a * sgn b) - W (sgn c * sgn d))))) else
        bif decide (mulhi2 (sz a) (sz b) > mulhi2 (sz c) (sz d)) then some (iv (W (sgn a * sgn b))) else bif decide (mulhi2 (sz a) (sz b) < mulhi2 (sz c) (sz d)) then some (iv (W (0 - W (sgn a * sgn b)))) else
        bif decide (U (sz a * sz b) > U (sz c * sz d)) then some (iv (W (sgn a * sgn b))) else bif decide (U (sz a * sz b) < U (sz c * sz d)) then some (iv (W (0 - W (sgn a * sgn b)))) else some (iv 0)) = some (iv (sg2 a b c d)) := by
      obtain ⟨e1, h1⟩ := sgn_mul a b
      obtain ⟨e2, h2⟩ := sgn_mul c d
      rw [e1, e2, W_sub1 h1 h2, (mulhi_eq (sz_range a) (sz_range b)).2, (mulhi_eq (sz_range c) (sz_range d)).2]
      unfold sg2
      generalize sgn a * sgn b = s at *
      generalize sgn c * sgn d = t at *
      have hp : ∀ x y : Int, 0 ≤ sz x * sz y := fun x y => Int.mul_nonneg (sz_range x).1 (sz_range y).1
      have p1 := hp a b
      have p2 := hp c d
      generalize sz a * sz b = p at *
      generalize sz c * sz d = q at *
      by_cases hst : s = t
      · rw [if_pos hst, show (s != t) = false by simpa using hst, W_id (n := 0 - s) (by omega) (by omega)]
        have d1 : hiP p > hiP q ∨ hiP p < hiP q ∨ hiP p = hiP q := by omega
        have c0 : ∀ {b : Bool} {x y : Option PV}, b = true → (bif b then x else y) = x := fun h => by rw [h]; rfl
        have c1 : ∀ {b : Bool} {x y : Option PV}, b = false → (bif b then x else y) = y := fun h => by rw [h]; rfl
        rw [c1 rfl]
        have sp : ∀ z : Int, 0 < z → s * sgn z = s := fun z h => by unfold sgn; rw [if_neg (by omega), if_pos h]; omega
        have sn : ∀ z : Int, z < 0 → s * sgn z = 0 - s := fun z h => by unfold sgn; rw [if_pos h]; omega
        have hh1 : hiP p > hiP q → 0 < p - q := by unfold hiP; omega
        have hh2 : hiP p < hiP q → p - q < 0 := by unfold hiP; omega
        rcases d1 with g | g | g
        · rw [c0 (decide_eq_true g), sp _ (hh1 g)]
        · rw [c1 (decide_eq_false (by omega)), c0 (decide_eq_true g), sn _ (hh2 g)]
        · rw [c1 (decide_eq_false (by omega)), c1 (decide_eq_false (by omega))]
          have d2 : U p > U q ∨ U p < U q ∨ U p = U q := by omega
          have k1 : U p > U q → 0 < p - q := by rw [U_eq, U_eq]; unfold hiP at g; omega
          have k2 : U p < U q → p - q < 0 := by rw [U_eq, U_eq]; unfold hiP at g; omega
          have k3 : U p = U q → p - q = 0 := by rw [U_eq, U_eq]; unfold hiP at g; omega
          rcases d2 with g2 | g2 | g2
          · rw [c0 (decide_eq_true g2), sp _ (k1 g2)]
          · rw [c1 (decide_eq_false (by omega)), c0 (decide_eq_true g2), sn _ (k2 g2)]
          · rw [c1 (decide_eq_false (by omega)), c1 (decide_eq_false (by omega)), k3 g2]
            show some (iv 0) = some (iv (s * 0)); rw [Int.mul_zero]
      · rw [if_neg hst, show (s != t) = true by simpa using hst]; rfl
    refine runP_sound ok2 (n := 60) (Eq.trans ?_ e); kernel_rfl
  · cases h
def E3 : EnvK := E2 |>.addO 79 cSg2 |>.addO 81 cSg2
theorem ok3 : EnvOK Try.prog E3.env := (ok2.addO oSg2).addO oRSg2
end Go.Hg
/- Geometry: contracts: bounds, Cmp. -/
namespace Go.Hg
open Go.Hx Go.Proofs
/-- Both are from -n to n, as the code asks. -/
def wi2 (n a b : Int) : Bool := !(decide (a < W (0 - n)) || decide (a > n) || decide (b < W (0 - n)) || decide (b > n))
def cWithin : List PV → Option PV | [.val (.int .i64 n), .lst _ 3 [.val (.int .i64 a), .val (.int .i64 b)]] => some (bv (wi2 n a b)) | _ => none
theorem oWithin (args : List PV) (r : PV) (h : cWithin args = some r) : Enters Try.prog 93 ∧ PCall Try.prog 93 args r := by
  unfold cWithin at h; split at h
  · rename_i n f a b; cases h
    have e : (bif decide (a < W (0 - n)) then some (bv false) else bif decide (a > n) then some (bv false) else bif decide (b < W (0 - n)) then some (bv false) else bif decide (b > n) then some (bv false) else some (bv true)) = some (bv (wi2 n a b)) := by
      unfold wi2
      cases decide (a < W (0 - n)) <;> cases decide (a > n) <;> cases decide (b < W (0 - n)) <;> cases decide (b > n) <;> rfl
    refine runP_sound ok3 (n := 60) (Eq.trans ?_ e); kernel_rfl
  · cases h
def inB (n a : Int) : Bool := decide (-n ≤ a) && decide (a ≤ n)
theorem wi2_eq {n : Int} (h : 0 ≤ n ∧ n < 9223372036854775808) (a b : Int) : wi2 n a b = (inB n a && inB n b) := by
  unfold wi2 inB
  rw [W_id (n := 0 - n) (by omega) (by omega)]
  by_cases h1 : a < 0 - n
  · rw [decide_eq_true h1, decide_eq_false (show ¬ -n ≤ a by omega)]; rfl
  · rw [decide_eq_false h1, decide_eq_true (show -n ≤ a by omega)]
    by_cases h2 : a > n
    · rw [decide_eq_true h2, decide_eq_false (show ¬ a ≤ n by omega)]; rfl
    · rw [decide_eq_false h2, decide_eq_true (show a ≤ n by omega)]
      by_cases h3 : b < 0 - n
      · rw [decide_eq_true h3, decide_eq_false (show ¬ -n ≤ b by omega)]; rfl
      · rw [decide_eq_false h3, decide_eq_true (show -n ≤ b by omega)]
        by_cases h4 : b > n
        · rw [decide_eq_true h4, decide_eq_false (show ¬ b ≤ n by omega)]; rfl
        · rw [decide_eq_false h4, decide_eq_true (show b ≤ n by omega)]; rfl
def inB2 (n a b : Int) : Bool := inB n a && inB n b
/-- Is a point bounded? -/
abbrev bdd (a b : Int) : Bool := inB2 1152921504606846976 a b
abbrev right (a b : Int) : Bool := inB2 16384 a b
theorem tree4 (p q r s : Bool) : (bif p then bif q then bif r then some (bv s) else some (bv false) else some (bv false) else some (bv false)) = some (bv (p && q && (r && s))) := by
  cases p <;> cases q <;> cases r <;> rfl
def cPt2 (g : Int → Int → Bool) : List PV → Option PV | [.agg [.val (.int .i64 a), .val (.int .i64 b)]] => some (bv (g a b)) | _ => none
theorem oRBdd (args : List PV) (r : PV) (h : cPt2 bdd args = some r) : Enters Try.prog 80 ∧ PCall Try.prog 80 args r := by
  unfold cPt2 at h; split at h
  · rename_i a b; cases h
    refine runP_sound ok3 (n := 60) (Eq.trans ?_ (tree4 (decide (-1152921504606846976 ≤ a)) (decide (a ≤ 1152921504606846976)) (decide (-1152921504606846976 ≤ b)) (decide (b ≤ 1152921504606846976)))); kernel_rfl
  · cases h
theorem oRRight (args : List PV) (r : PV) (h : cPt2 right args = some r) : Enters Try.prog 40 ∧ PCall Try.prog 40 args r := by
  unfold cPt2 at h; split at h
  · rename_i a b; cases h
    refine runP_sound ok3 (n := 60) (Eq.trans ?_ (tree4 (decide (-16384 ≤ a)) (decide (a ≤ 16384)) (decide (-16384 ≤ b)) (decide (b ≤ 16384)))); kernel_rfl
  · cases h
def E4 : EnvK := E3 |>.addO 93 cWithin |>.addO 80 (cPt2 bdd) |>.addO 40 (cPt2 right)
theorem ok4 : EnvOK Try.prog E4.env := ((ok3.addO oWithin).addO oRBdd).addO oRRight
theorem oRight (args : List PV) (r : PV) (h : cPt2 right args = some r) : Enters Try.prog 39 ∧ PCall Try.prog 39 args r := by
  unfold cPt2 at h; split at h
  · rename_i a b; cases h
    rw [show right a b = wi2 16384 a b from (wi2_eq (by omega) a b).symm]
    exact runP_sound ok4 (n := 60) (by kernel_rfl)
  · cases h
theorem oBdd1 (args : List PV) (r : PV) (h : cPt2 bdd args = some r) : Enters Try.prog 129 ∧ PCall Try.prog 129 args (.val (.bool (!r.getB))) := by
  unfold cPt2 at h; split at h
  · rename_i a b; cases h
    rw [show bdd a b = wi2 1152921504606846976 a b from (wi2_eq (by omega) a b).symm]
    exact runP_sound ok4 (n := 60) (by kernel_rfl)
  · cases h
def cCmp : List PV → Option PV | [.agg [.val (.int .i64 a), .val (.int .i64 b)], .agg [.val (.int .i64 c), .val (.int .i64 d)]] => some (iv (bif decide (b < 1) || decide (d < 1) then 0 else sg2 a d c b)) | _ => none
theorem cmp_tree2 (a b c d : Int) : (bif decide (b < 1) then some (iv 0) else bif decide (d < 1) then some (iv 0) else some (iv (sg2 a d c b))) = some (iv (bif decide (b < 1) || decide (d < 1) then 0 else sg2 a d c b)) := by
  cases decide (b < 1) <;> cases decide (d < 1) <;> rfl
theorem oCmp (args : List PV) (r : PV) (h : cCmp args = some r) : Enters Try.prog 110 ∧ PCall Try.prog 110 args r := by
  unfold cCmp at h; split at h
  · cases h; refine runP_sound ok4 (n := 60) (Eq.trans ?_ (cmp_tree2 _ _ _ _)); kernel_rfl
  · cases h
theorem oRCmp (args : List PV) (r : PV) (h : cCmp args = some r) : Enters Try.prog 146 ∧ PCall Try.prog 146 args r := by
  unfold cCmp at h; split at h
  · cases h; refine runP_sound ok4 (n := 60) (Eq.trans ?_ (cmp_tree2 _ _ _ _)); kernel_rfl
  · cases h
def cBdd1 : List PV → Option PV | [.agg [.val (.int .i64 a), .val (.int .i64 b)]] => some (bv (!bdd a b)) | _ => none
def E5 : EnvK := E4 |>.addO 39 (cPt2 right) |>.addO 129 cBdd1 |>.addO 110 cCmp |>.addO 146 cCmp
theorem ok5 : EnvOK Try.prog E5.env := (((ok4.addO oRight).addO (fun args r h => by
  unfold cBdd1 at h; split at h
  · rename_i a b; cases h; exact oBdd1 [ptv a b] (bv (bdd a b)) rfl
  · cases h)).addO oCmp).addO oRCmp
end Go.Hg
/- Geometry: contracts: Side, the order of points. -/
namespace Go.Hg
open Go.Hx Go.Proofs
/-- P4.3: the side of the line from (a, b) to (c, d) on which (e, f) lies. -/
def crs (a b c d e f : Int) : Int := (c - a) * (f - b) - (d - b) * (e - a)
def sd (a b c d e f : Int) : Int := bif bdd a b && bdd c d && bdd e f then sgn (crs a b c d e f) else 0
theorem inB_iff {n a : Int} : inB n a = true ↔ -n ≤ a ∧ a ≤ n := by unfold inB; simp
theorem inB2_iff {n a b : Int} : inB2 n a b = true ↔ (-n ≤ a ∧ a ≤ n) ∧ (-n ≤ b ∧ b ≤ n) := by unfold inB2; simp [inB_iff]
theorem sg2_side {a b c d e f : Int} (h1 : bdd a b = true) (h2 : bdd c d = true) (h3 : bdd e f = true) : sg2 (W (c - a)) (W (f - b)) (W (d - b)) (W (e - a)) = sgn (crs a b c d e f) := by
  have k1 := inB2_iff.1 h1
  have k2 := inB2_iff.1 h2
  have k3 := inB2_iff.1 h3
  rw [W_id (n := c - a) (by omega) (by omega), W_id (n := f - b) (by omega) (by omega), W_id (n := d - b) (by omega) (by omega), W_id (n := e - a) (by omega) (by omega)]
  exact sg2_eq (by omega) (by omega) (by omega) (by omega)
def cSide : List PV → Option PV
  | [.agg [.val (.int .i64 a), .val (.int .i64 b)], .agg [.val (.int .i64 c), .val (.int .i64 d)], .agg [.val (.int .i64 e), .val (.int .i64 f)]] => some (iv (sd a b c d e f))
  | _ => none
theorem sd_tree (a b c d e f : Int) : (bif !bdd a b then some (iv 0) else bif !bdd c d then some (iv 0) else bif !bdd e f then some (iv 0) else some (iv (sg2 (W (c - a)) (W (f - b)) (W (d - b)) (W (e - a))))) = some (iv (sd a b c d e f)) := by
  unfold sd
  cases h1 : bdd a b
  · rfl
  · cases h2 : bdd c d
    · rfl
    · cases h3 : bdd e f
      · rfl
      · rw [sg2_side h1 h2 h3]; rfl
theorem oRSide (args : List PV) (r : PV) (h : cSide args = some r) : Enters Try.prog 24 ∧ PCall Try.prog 24 args r := by
  unfold cSide at h; split at h
  · cases h; refine runP_sound ok5 (n := 60) (Eq.trans ?_ (sd_tree _ _ _ _ _ _)); kernel_rfl
  · cases h
theorem oSide (args : List PV) (r : PV) (h : cSide args = some r) : Enters Try.prog 23 ∧ PCall Try.prog 23 args r := by
  unfold cSide at h; split at h
  · rename_i a b c d e f; cases h
    have q : (bif (a == c) && ((b == d) && true) then some (iv 0) else bif !bdd a b then some (iv 0) else bif !bdd c d then some (iv 0) else bif !bdd e f then some (iv 0) else some (iv (sg2 (W (c - a)) (W (f - b)) (W (d - b)) (W (e - a))))) = some (iv (sd a b c d e f)) := by
      rw [sd_tree]
      by_cases h : a = c ∧ b = d
      · obtain ⟨rfl, rfl⟩ := h
        have : crs a b a b e f = 0 := by unfold crs; rw [Int.sub_self, Int.sub_self, Int.zero_mul, Int.zero_mul]; rfl
        have : sd a b a b e f = 0 := by unfold sd; rw [this]; cases bdd a b && bdd a b && bdd e f <;> rfl
        rw [this]; simp
      · have : ((a == c) && ((b == d) && true)) = false := by
          rw [Bool.and_true, Bool.and_eq_false_iff]
          by_cases ha : a = c
          · exact .inr (by simp; exact fun hb => h ⟨ha, hb⟩)
          · exact .inl (by simpa using ha)
        rw [this]; rfl
    refine runP_sound ok5 (n := 60) (Eq.trans ?_ q); kernel_rfl
  · cases h
def cCmpP : List PV → Option PV | [.agg [.val (.int .i64 a), .val (.int .i64 b)], .agg [.val (.int .i64 c), .val (.int .i64 d)]] => some (iv (cmp2 a b c d)) | _ => none
/-- (a, b) comes before (c, d). -/
def lessP (a b c d : Int) : Bool := decide (a < c) || (a == c) && decide (b < d)
def cLess : List PV → Option PV | [.agg [.val (.int .i64 a), .val (.int .i64 b)], .agg [.val (.int .i64 c), .val (.int .i64 d)]] => some (bv (lessP a b c d)) | _ => none
def E6 : EnvK := E5 |>.addO 23 cSide |>.addO 24 cSide
theorem ok6 : EnvOK Try.prog E6.env := (ok5.addO oSide).addO oRSide
theorem oCmpP (args : List PV) (r : PV) (h : cCmpP args = some r) : Enters Try.prog 84 ∧ PCall Try.prog 84 args r := by
  unfold cCmpP at h; split at h
  · rename_i a b c d; cases h
    have q : (bif sgn (a - c) != 0 then some (iv (sgn (a - c))) else bif sgn (b - d) != 0 then some (iv (sgn (b - d))) else some (iv 0)) = some (iv (cmp2 a b c d)) := by
      unfold cmp2
      by_cases h : sgn (a - c) = 0
      · rw [if_pos h, h]
        by_cases h2 : sgn (b - d) = 0
        · rw [h2]; rfl
        · rw [show (sgn (b - d) != 0) = true by simpa using h2]; rfl
      · rw [if_neg h, show (sgn (a - c) != 0) = true by simpa using h]; rfl
    refine runP_sound ok6 (n := 60) (Eq.trans ?_ q); kernel_rfl
  · cases h
theorem oLess (args : List PV) (r : PV) (h : cLess args = some r) : Enters Try.prog 88 ∧ PCall Try.prog 88 args r := by
  unfold cLess at h; split at h
  · rename_i a b c d; cases h
    have q : (bif decide (a < c) then some (bv true) else bif a == c then some (bv (decide (b < d))) else some (bv false)) = some (bv (lessP a b c d)) := by
      unfold lessP
      cases decide (a < c) <;> cases a == c <;> rfl
    refine runP_sound ok6 (n := 60) (Eq.trans ?_ q); kernel_rfl
  · cases h
/-- P4.4: a point of a segment. -/
def btwn (a c e : Int) : Bool := decide ((if c < a then c else a) ≤ e) && decide (e ≤ (if c > a then c else a))
def onX (a b c d e f : Int) : Bool := bdd a b && bdd c d && bdd e f && (btwn a c e && btwn b d f && (sd a b c d e f == 0))
def cOn : List PV → Option PV
  | [.agg [.val (.int .i64 a), .val (.int .i64 b)], .agg [.val (.int .i64 c), .val (.int .i64 d)], .agg [.val (.int .i64 e), .val (.int .i64 f)]] => some (bv (onX a b c d e f))
  | _ => none
theorem oROn (args : List PV) (r : PV) (h : cOn args = some r) : Enters Try.prog 26 ∧ PCall Try.prog 26 args r := by
  unfold cOn at h; split at h
  · rename_i a b c d e f; cases h
    have q : (bif !bdd a b then some (bv false) else bif !bdd c d then some (bv false) else bif !bdd e f then some (bv false) else
        bif decide ((if c < a then c else a) ≤ e) then bif decide (e ≤ (if c > a then c else a)) then bif decide ((if d < b then d else b) ≤ f) then bif decide (f ≤ (if d > b then d else b)) then some (bv (sd a b c d e f == 0))
          else some (bv false) else some (bv false) else some (bv false) else some (bv false)) = some (bv (onX a b c d e f)) := by
      unfold onX btwn
      cases bdd a b <;> cases bdd c d <;> cases bdd e f <;> cases decide ((if c < a then c else a) ≤ e) <;> cases decide (e ≤ (if c > a then c else a)) <;> cases decide ((if d < b then d else b) ≤ f) <;> cases decide (f ≤ (if d > b then d else b)) <;> rfl
    refine runP_sound ok6 (n := 60) (Eq.trans ?_ q); kernel_rfl
  · cases h
def E7 : EnvK := E6 |>.addO 84 cCmpP |>.addO 88 cLess |>.addO 26 cOn
theorem ok7 : EnvOK Try.prog E7.env := ((ok6.addO oCmpP).addO oLess).addO oROn
end Go.Hg
/- Geometry: contracts: two points sorted; the greater, the lesser. -/
namespace Go.Hg
open Go.Hx Go.Proofs
/-- By the order of points: does the second come first? -/
def swp (a b c d : Int) : Bool := decide (cmp2 c d a b < 0)
def ifI (t : Bool) (x y : Int) : Int := bif t then x else y
abbrev sRow (es : List PV) : Row := { es, s := 2, t := 23, bv := true }
def cSort : List PV → List Row → Option (DT (PV × List Row))
  | [.sl 0 2 0 2, .fn (.func 84) [] []], [⟨[.agg [.val (.int .i64 a), .val (.int .i64 b)], .agg [.val (.int .i64 c), .val (.int .i64 d)]], 2, 23, true, true, false, none, false⟩] =>
    some (.leaf (.tup [], [sRow [ptv (ifI (swp a b c d) c a) (ifI (swp a b c d) d b), ptv (ifI (swp a b c d) a c) (ifI (swp a b c d) b d)]]))
  | _, _ => none
theorem qSort (a b c d : Int) : runR Try.prog E7 60 0 83 [.sl 0 2 0 2, .fn (.func 84) [] []] [sRow [ptv a b, ptv c d]] =
    bif swp a b c d then some (.tup [], [sRow [ptv c d, ptv a b]]) else some (.tup [], [sRow [ptv a b, ptv c d]]) := by kernel_rfl
theorem qSort2 (a b c d : Int) : runR Try.prog E7 60 0 83 [.sl 0 2 0 2, .fn (.func 84) [] []] [sRow [ptv a b, ptv c d]] =
    some (.tup [], [sRow [ptv (ifI (swp a b c d) c a) (ifI (swp a b c d) d b), ptv (ifI (swp a b c d) a c) (ifI (swp a b c d) b d)]]) := by
  rw [qSort]; cases swp a b c d <;> rfl
theorem eSort : Enters Try.prog 83 := (runR_sound ok7 (qSort2 0 0 0 0)).1
theorem oSort (args : List PV) (H : List Row) (d : DT (PV × List Row)) (p : PV) (H' : List Row) (h : cSort args H = some d) (hd : d.run = some (p, H')) : RCall Try.prog 0 83 args H p H' := by
  unfold cSort at h; split at h
  · rename_i a b c d
    cases h
    cases hd
    exact (runR_sound ok7 (qSort2 a b c d)).2
  · cases h
def cMaxF : List PV → Option PV
  | [.lst _ 23 [.agg [.val (.int .i64 a), .val (.int .i64 b)], .agg [.val (.int .i64 c), .val (.int .i64 d)]], .fn (.func 84) [] []] =>
    some (ptv (ifI (decide (cmp2 c d a b > 0)) c a) (ifI (decide (cmp2 c d a b > 0)) d b))
  | _ => none
def cMinF : List PV → Option PV
  | [.lst _ 23 [.agg [.val (.int .i64 a), .val (.int .i64 b)], .agg [.val (.int .i64 c), .val (.int .i64 d)]], .fn (.func 84) [] []] =>
    some (ptv (ifI (swp a b c d) c a) (ifI (swp a b c d) d b))
  | _ => none
theorem oMaxF (args : List PV) (r : PV) (h : cMaxF args = some r) : Enters Try.prog 85 ∧ PCall Try.prog 85 args r := by
  unfold cMaxF at h; split at h
  · rename_i f a b c d; cases h
    have q : (bif decide (cmp2 c d a b > 0) then some (ptv c d) else some (ptv a b)) = some (ptv (ifI (decide (cmp2 c d a b > 0)) c a) (ifI (decide (cmp2 c d a b > 0)) d b)) := by cases decide (cmp2 c d a b > 0) <;> rfl
    refine runP_sound ok7 (n := 60) (Eq.trans ?_ q); kernel_rfl
  · cases h
theorem oMinF (args : List PV) (r : PV) (h : cMinF args = some r) : Enters Try.prog 86 ∧ PCall Try.prog 86 args r := by
  unfold cMinF at h; split at h
  · rename_i f a b c d; cases h
    have q : (bif swp a b c d then some (ptv c d) else some (ptv a b)) = some (ptv (ifI (swp a b c d) c a) (ifI (swp a b c d) d b)) := by cases swp a b c d <;> rfl
    refine runP_sound ok7 (n := 60) (Eq.trans ?_ q); kernel_rfl
  · cases h
def E8 : EnvK := ((E7.addO 85 cMaxF).addO 86 cMinF).addR 83 cSort
theorem ok8 : EnvOK Try.prog E8.env := ((ok7.addO oMaxF).addO oMinF).addR eSort oSort
end Go.Hg
/- Geometry: Meet. -/
namespace Go.Hg
open Go.Hx Go.Proofs
def cOrd : List PV → Option PV
  | [.agg [.val (.int .i64 a), .val (.int .i64 b)], .agg [.val (.int .i64 c), .val (.int .i64 d)]] =>
    some (.tup [ptv (ifI (lessP c d a b) c a) (ifI (lessP c d a b) d b), ptv (ifI (lessP c d a b) a c) (ifI (lessP c d a b) b d)])
  | _ => none
theorem oOrd (args : List PV) (r : PV) (h : cOrd args = some r) : Enters Try.prog 87 ∧ PCall Try.prog 87 args r := by
  unfold cOrd at h; split at h
  · rename_i a b c d; cases h
    have q : (bif lessP c d a b then some (.tup [ptv c d, ptv a b]) else some (.tup [ptv a b, ptv c d])) = some (PV.tup [ptv (ifI (lessP c d a b) c a) (ifI (lessP c d a b) d b), ptv (ifI (lessP c d a b) a c) (ifI (lessP c d a b) b d)]) := by cases lessP c d a b <;> rfl
    refine runP_sound ok8 (n := 60) (Eq.trans ?_ q); kernel_rfl
  · cases h
def E9 : EnvK := E8.addO 87 cOrd
theorem ok9 : EnvOK Try.prog E9.env := ok8.addO oOrd

theorem sgn_lt {n : Int} : sgn n < 0 ↔ n < 0 := by unfold sgn; (repeat' split) <;> omega
theorem sgn_gt {n : Int} : 0 < sgn n ↔ 0 < n := by unfold sgn; (repeat' split) <;> omega
theorem sgn_zero {n : Int} : sgn n = 0 ↔ n = 0 := by unfold sgn; (repeat' split) <;> omega
theorem cmp2_range (a b c d : Int) : -1 ≤ cmp2 a b c d ∧ cmp2 a b c d ≤ 1 := by unfold cmp2; split <;> exact sgn_range _
theorem cmp2_lt_iff (a b c d : Int) : cmp2 a b c d < 0 ↔ a < c ∨ a = c ∧ b < d := by
  unfold cmp2
  split
  · rename_i h; have := sgn_zero.1 h; rw [sgn_lt]; omega
  · rename_i h; have : a - c ≠ 0 := fun e => h (sgn_zero.2 e); rw [sgn_lt]; omega
theorem cmp2_gt_iff (a b c d : Int) : 0 < cmp2 a b c d ↔ c < a ∨ c = a ∧ d < b := by
  unfold cmp2
  split
  · rename_i h; have := sgn_zero.1 h; rw [sgn_gt]; omega
  · rename_i h; have : a - c ≠ 0 := fun e => h (sgn_zero.2 e); rw [sgn_gt]; omega
theorem lessP_iff {a b c d : Int} : lessP a b c d = true ↔ a < c ∨ a = c ∧ b < d := by unfold lessP; simp
theorem swp_eq (a b c d : Int) : swp a b c d = lessP c d a b := by
  unfold swp
  rw [Bool.eq_iff_iff, decide_eq_true_iff, cmp2_lt_iff, lessP_iff]
theorem cmpgt_eq (a b c d : Int) : decide (cmp2 a b c d > 0) = lessP c d a b := by
  rw [Bool.eq_iff_iff, decide_eq_true_iff, lessP_iff]
  exact cmp2_gt_iff a b c d
theorem sd_range (a b c d e f : Int) : -1 ≤ sd a b c d e f ∧ sd a b c d e f ≤ 1 := by
  unfold sd
  cases bdd a b && bdd c d && bdd e f
  · exact ⟨by simp, by simp⟩
  · exact sgn_range _
/-- Segments that are not on one line. -/
def nfl (s1 s2 s3 s4 : Int) : Int := bif decide (s1 * s2 > 0) || decide (s3 * s4 > 0) then 0 else 1
/-- Segments on one line: the later beginning, the earlier end. -/
def fl (a b c d e f g h : Int) : Int :=
  let lx := ifI (lessP c d a b) c a; let ly := ifI (lessP c d a b) d b; let hx := ifI (lessP c d a b) a c; let hy := ifI (lessP c d a b) b d
  let mx := ifI (lessP g h e f) g e; let my := ifI (lessP g h e f) h f; let nx := ifI (lessP g h e f) e g; let ny := ifI (lessP g h e f) f h
  1 + cmp2 (ifI (lessP nx ny hx hy) nx hx) (ifI (lessP nx ny hx hy) ny hy) (ifI (lessP lx ly mx my) mx lx) (ifI (lessP lx ly mx my) my ly)
/-- P4.4: how many points two segments have in common (2: infinitely many). -/
def mt (a b c d e f g h : Int) : Int :=
  bif bdd a b && bdd c d && bdd e f && bdd g h then
    bif (sd a b c d e f == 0) && (sd a b c d g h == 0) && (sd e f g h a b == 0) && (sd e f g h c d == 0) then fl a b c d e f g h
    else nfl (sd a b c d e f) (sd a b c d g h) (sd e f g h a b) (sd e f g h c d)
  else 0
def cMeet : List PV → Option PV
  | [.agg [.val (.int .i64 a), .val (.int .i64 b)], .agg [.val (.int .i64 c), .val (.int .i64 d)], .agg [.val (.int .i64 e), .val (.int .i64 f)], .agg [.val (.int .i64 g), .val (.int .i64 h)]] => some (iv (mt a b c d e f g h))
  | _ => none
def nfI (s1 s2 s3 s4 : Int) : Option PV := bif decide (W (s1 * s2) > 0) then some (iv 0) else bif decide (W (s3 * s4) > 0) then some (iv 0) else some (iv 1)
def flI (a b c d e f g h : Int) : Option PV :=
  let lx := ifI (swp a b c d) c a; let ly := ifI (swp a b c d) d b; let hx := ifI (swp a b c d) a c; let hy := ifI (swp a b c d) b d
  let mx := ifI (swp e f g h) g e; let my := ifI (swp e f g h) h f; let nx := ifI (swp e f g h) e g; let ny := ifI (swp e f g h) f h
  let z := cmp2 (ifI (swp hx hy nx ny) nx hx) (ifI (swp hx hy nx ny) ny hy) (ifI (decide (cmp2 mx my lx ly > 0)) mx lx) (ifI (decide (cmp2 mx my lx ly > 0)) my ly)
  some (iv (W (1 + (if 1 < (if -1 > z then -1 else z) then 1 else (if -1 > z then -1 else z)))))
theorem qMeet (a b c d e f g h : Int) : runP Try.prog E9 60 27 [ptv a b, ptv c d, ptv e f, ptv g h] =
    bif !bdd a b then some (iv 0) else bif !bdd c d then some (iv 0) else bif !bdd e f then some (iv 0) else bif !bdd g h then some (iv 0) else
    bif !((sd a b c d e f == 0) && ((sd a b c d g h == 0) && true)) then nfI (sd a b c d e f) (sd a b c d g h) (sd e f g h a b) (sd e f g h c d)
    else bif !((sd e f g h a b == 0) && ((sd e f g h c d == 0) && true)) then nfI (sd a b c d e f) (sd a b c d g h) (sd e f g h a b) (sd e f g h c d)
    else flI a b c d e f g h := by kernel_rfl
theorem W_s {s t : Int} (hs : -1 ≤ s ∧ s ≤ 1) (ht : -1 ≤ t ∧ t ≤ 1) : W (s * t) = s * t := by
  have : s = -1 ∨ s = 0 ∨ s = 1 := by omega
  rcases this with e | e | e <;> rw [e] <;> exact W_id (by omega) (by omega)
theorem nfI_eq {s1 s2 s3 s4 : Int} (h1 : -1 ≤ s1 ∧ s1 ≤ 1) (h2 : -1 ≤ s2 ∧ s2 ≤ 1) (h3 : -1 ≤ s3 ∧ s3 ≤ 1) (h4 : -1 ≤ s4 ∧ s4 ≤ 1) : nfI s1 s2 s3 s4 = some (iv (nfl s1 s2 s3 s4)) := by
  unfold nfI nfl
  rw [W_s h1 h2, W_s h3 h4]
  cases decide (s1 * s2 > 0) <;> cases decide (s3 * s4 > 0) <;> rfl
theorem flI_eq (a b c d e f g h : Int) : flI a b c d e f g h = some (iv (fl a b c d e f g h)) := by
  unfold flI fl
  simp only [swp_eq, cmpgt_eq]
  have r := cmp2_range (ifI (lessP (ifI (lessP g h e f) e g) (ifI (lessP g h e f) f h) (ifI (lessP c d a b) a c) (ifI (lessP c d a b) b d)) (ifI (lessP g h e f) e g) (ifI (lessP c d a b) a c))
    (ifI (lessP (ifI (lessP g h e f) e g) (ifI (lessP g h e f) f h) (ifI (lessP c d a b) a c) (ifI (lessP c d a b) b d)) (ifI (lessP g h e f) f h) (ifI (lessP c d a b) b d))
    (ifI (lessP (ifI (lessP c d a b) c a) (ifI (lessP c d a b) d b) (ifI (lessP g h e f) g e) (ifI (lessP g h e f) h f)) (ifI (lessP g h e f) g e) (ifI (lessP c d a b) c a))
    (ifI (lessP (ifI (lessP c d a b) c a) (ifI (lessP c d a b) d b) (ifI (lessP g h e f) g e) (ifI (lessP g h e f) h f)) (ifI (lessP g h e f) h f) (ifI (lessP c d a b) d b))
  generalize cmp2 _ _ _ _ = z at r ⊢
  rw [if_neg (show ¬ (-1 > z) by omega), if_neg (show ¬ (1 < z) by omega), W_id (by omega) (by omega)]
theorem oMeet (args : List PV) (r : PV) (h : cMeet args = some r) : Enters Try.prog 27 ∧ PCall Try.prog 27 args r := by
  unfold cMeet at h; split at h
  · rename_i a b c d e f g h'; cases h
    refine runP_sound ok9 (n := 60) ?_
    rw [qMeet, nfI_eq (sd_range _ _ _ _ _ _) (sd_range _ _ _ _ _ _) (sd_range _ _ _ _ _ _) (sd_range _ _ _ _ _ _), flI_eq]
    unfold mt
    cases bdd a b <;> cases bdd c d <;> cases bdd e f <;> cases bdd g h' <;> cases (sd a b c d e f == 0) <;> cases (sd a b c d g h' == 0) <;> cases (sd e f g h' a b == 0) <;> cases (sd e f g h' c d == 0) <;> rfl
  · cases h
end Go.Hg
/- Geometry: Meet of the reference; On. -/
namespace Go.Hg
open Go.Hx Go.Proofs
def cmpT (tx ty fx fy : Int) : Option PV := bif lessP tx ty fx fy then some (iv 0) else bif (tx == fx) && ((ty == fy) && true) then some (iv 1) else some (iv 2)
def nfT (s1 s2 s3 s4 : Int) (eA eC oA oC : Bool) : Option PV :=
  bif decide (W (s1 * s2) > 0) then some (iv 0) else bif decide (W (s3 * s4) > 0) then some (iv 0) else
  bif eA then bif !oA then some (iv 0) else bif eC then bif !oC then some (iv 0) else some (iv 1) else some (iv 1)
  else bif eC then bif !oC then some (iv 0) else some (iv 1) else some (iv 1)
def flT (a b c d e f g h : Int) : Option PV :=
  let lx := ifI (lessP c d a b) c a; let ly := ifI (lessP c d a b) d b; let hx := ifI (lessP c d a b) a c; let hy := ifI (lessP c d a b) b d
  let mx := ifI (lessP g h e f) g e; let my := ifI (lessP g h e f) h f; let nx := ifI (lessP g h e f) e g; let ny := ifI (lessP g h e f) f h
  bif lessP lx ly mx my then bif lessP nx ny hx hy then cmpT nx ny mx my else cmpT hx hy mx my
  else bif lessP nx ny hx hy then cmpT nx ny lx ly else cmpT hx hy lx ly
def nfA (a b c d e f g h : Int) : Option PV :=
  nfT (sd a b c d e f) (sd a b c d g h) (sd e f g h a b) (sd e f g h c d) ((a == c) && ((b == d) && true)) ((e == g) && ((f == h) && true)) (onX e f g h a b) (onX a b c d e f)
theorem qRMeet (a b c d e f g h : Int) : runP Try.prog E9 60 28 [ptv a b, ptv c d, ptv e f, ptv g h] =
    bif !bdd a b then some (iv 0) else bif !bdd c d then some (iv 0) else bif !bdd e f then some (iv 0) else bif !bdd g h then some (iv 0) else
    bif sd a b c d e f == 0 then bif sd a b c d g h == 0 then bif sd e f g h a b == 0 then bif !(sd e f g h c d == 0) then nfA a b c d e f g h else flT a b c d e f g h
    else nfA a b c d e f g h else nfA a b c d e f g h else nfA a b c d e f g h := by kernel_rfl
theorem cmpT_eq (tx ty fx fy : Int) : cmpT tx ty fx fy = some (iv (1 + cmp2 tx ty fx fy)) := by
  unfold cmpT
  have h1 := cmp2_lt_iff tx ty fx fy
  have h2 := cmp2_gt_iff tx ty fx fy
  have h3 := cmp2_range tx ty fx fy
  cases hl : lessP tx ty fx fy with
  | true =>
    have := h1.2 (lessP_iff.1 hl)
    rw [show cmp2 tx ty fx fy = -1 by omega]; rfl
  | false =>
    have hn : ¬ (tx < fx ∨ tx = fx ∧ ty < fy) := fun h => by rw [lessP_iff.2 h] at hl; cases hl
    by_cases he : tx = fx ∧ ty = fy
    · obtain ⟨rfl, rfl⟩ := he
      rw [show cmp2 tx ty tx ty = 0 by omega]
      simp
    · have hc : ((tx == fx) && ((ty == fy) && true)) = false := by
        rw [Bool.and_true, Bool.and_eq_false_iff]
        by_cases hx : tx = fx
        · exact .inr (by simp; exact fun hy => he ⟨hx, hy⟩)
        · exact .inl (by simpa using hx)
      rw [hc, show cmp2 tx ty fx fy = 1 by omega]; rfl
theorem flT_eq (a b c d e f g h : Int) : flT a b c d e f g h = some (iv (fl a b c d e f g h)) := by
  unfold flT fl
  simp only [cmpT_eq]
  cases lessP (ifI (lessP c d a b) c a) (ifI (lessP c d a b) d b) (ifI (lessP g h e f) g e) (ifI (lessP g h e f) h f) <;>
    cases lessP (ifI (lessP g h e f) e g) (ifI (lessP g h e f) f h) (ifI (lessP c d a b) a c) (ifI (lessP c d a b) b d) <;> rfl
theorem sd_same (a b e f : Int) : sd a b a b e f = 0 := by
  unfold sd
  rw [show crs a b a b e f = 0 by unfold crs; rw [Int.sub_self, Int.sub_self, Int.zero_mul, Int.zero_mul]; rfl]
  cases bdd a b && bdd a b && bdd e f <;> rfl
theorem nfA_eq {a b c d e f g h : Int} (hn : ¬ (sd a b c d e f = 0 ∧ sd a b c d g h = 0 ∧ sd e f g h a b = 0 ∧ sd e f g h c d = 0)) :
    nfA a b c d e f g h = some (iv (nfl (sd a b c d e f) (sd a b c d g h) (sd e f g h a b) (sd e f g h c d))) := by
  have r1 := sd_range a b c d e f
  have r2 := sd_range a b c d g h
  have r3 := sd_range e f g h a b
  have r4 := sd_range e f g h c d
  have hA : a = c ∧ b = d → sd a b c d e f = 0 ∧ sd a b c d g h = 0 ∧ sd e f g h a b = sd e f g h c d := by
    rintro ⟨rfl, rfl⟩; exact ⟨sd_same _ _ _ _, sd_same _ _ _ _, rfl⟩
  have hC : e = g ∧ f = h → sd e f g h a b = 0 ∧ sd e f g h c d = 0 ∧ sd a b c d e f = sd a b c d g h := by
    rintro ⟨rfl, rfl⟩; exact ⟨sd_same _ _ _ _, sd_same _ _ _ _, rfl⟩
  unfold nfA nfT nfl
  rw [W_s r1 r2, W_s r3 r4]
  generalize sd a b c d e f = s1 at *
  generalize sd a b c d g h = s2 at *
  generalize sd e f g h a b = s3 at *
  generalize sd e f g h c d = s4 at *
  have sq : ∀ s : Int, -1 ≤ s ∧ s ≤ 1 → s ≠ 0 → s * s > 0 := fun s h1 h2 => by
    have : s = -1 ∨ s = 1 := by omega
    rcases this with e | e <;> rw [e] <;> decide
  by_cases p1 : s1 * s2 > 0
  · rw [decide_eq_true p1]; rfl
  · rw [decide_eq_false p1]
    by_cases p2 : s3 * s4 > 0
    · rw [decide_eq_true p2]; rfl
    · rw [decide_eq_false p2]
      have eA : ((a == c) && ((b == d) && true)) = false := by
        cases hh : ((a == c) && ((b == d) && true)) with
        | false => rfl
        | true =>
          exfalso
          simp only [Bool.and_true, Bool.and_eq_true, beq_iff_eq] at hh
          obtain ⟨k1, k2, k3⟩ := hA hh
          have : s4 ≠ 0 := fun e => hn ⟨k1, k2, k3.trans e, e⟩
          exact p2 (by rw [k3]; exact sq s4 r4 this)
      have eC : ((e == g) && ((f == h) && true)) = false := by
        cases hh : ((e == g) && ((f == h) && true)) with
        | false => rfl
        | true =>
          exfalso
          simp only [Bool.and_true, Bool.and_eq_true, beq_iff_eq] at hh
          obtain ⟨k1, k2, k3⟩ := hC hh
          have : s2 ≠ 0 := fun e => hn ⟨k3.trans e, e, k1, k2⟩
          exact p1 (by rw [k3]; exact sq s2 r2 this)
      rw [eA, eC]; rfl
theorem oRMeet (args : List PV) (r : PV) (h : cMeet args = some r) : Enters Try.prog 28 ∧ PCall Try.prog 28 args r := by
  unfold cMeet at h; split at h
  · rename_i a b c d e f g h'; cases h
    refine runP_sound ok9 (n := 60) ?_
    rw [qRMeet, flT_eq]
    unfold mt
    cases hb : bdd a b && bdd c d && bdd e f && bdd g h' with
    | false =>
      revert hb
      cases bdd a b <;> cases bdd c d <;> cases bdd e f <;> cases bdd g h' <;> intro hb <;> first | rfl | cases hb
    | true =>
      simp only [Bool.and_eq_true] at hb
      obtain ⟨⟨⟨b1, b2⟩, b3⟩, b4⟩ := hb
      rw [b1, b2, b3, b4]
      by_cases hz : sd a b c d e f = 0 ∧ sd a b c d g h' = 0 ∧ sd e f g h' a b = 0 ∧ sd e f g h' c d = 0
      · obtain ⟨z1, z2, z3, z4⟩ := hz
        rw [z1, z2, z3, z4]; rfl
      · rw [nfA_eq hz]
        by_cases z1 : sd a b c d e f = 0
        · by_cases z2 : sd a b c d g h' = 0
          · by_cases z3 : sd e f g h' a b = 0
            · have z4 : sd e f g h' c d ≠ 0 := fun z4 => hz ⟨z1, z2, z3, z4⟩
              rw [show (sd e f g h' c d == 0) = false by simpa using z4, z1, z2, z3]; rfl
            · rw [show (sd e f g h' a b == 0) = false by simpa using z3, z1, z2]; rfl
          · rw [show (sd a b c d g h' == 0) = false by simpa using z2, z1]; rfl
        · rw [show (sd a b c d e f == 0) = false by simpa using z1]; rfl
  · cases h
/-! On. -/
theorem between_lex {a b c d e f : Int} (hc : (c - a) * (f - b) = (d - b) * (e - a)) (ho : a < c ∨ a = c ∧ b ≤ d) :
    (¬ (e < a ∨ e = a ∧ f < b) ∧ ¬ (c < e ∨ c = e ∧ d < f)) ↔ (a ≤ e ∧ e ≤ c) ∧ (b ≤ f ∧ f ≤ d ∨ d ≤ f ∧ f ≤ b) := by
  rcases ho with ho | ⟨ho, hb⟩
  · have hk : 0 < c - a := by omega
    constructor
    · rintro ⟨h1, h2⟩
      have he : 0 ≤ e - a ∧ e - a ≤ c - a := by omega
      refine ⟨by omega, ?_⟩
      by_cases hd : b ≤ d
      · left
        have p1 : 0 ≤ (d - b) * (e - a) := Int.mul_nonneg (by omega) he.1
        have p2 : (d - b) * (e - a) ≤ (d - b) * (c - a) := Int.mul_le_mul_of_nonneg_left he.2 (by omega)
        rw [← hc] at p1 p2
        rw [Int.mul_comm (d - b)] at p2
        have q1 : 0 ≤ f - b := by
          rcases Int.lt_or_le (f - b) 0 with q | q
          · have := Int.mul_neg_of_pos_of_neg hk q; omega
          · exact q
        have q2 := Int.le_of_mul_le_mul_left p2 hk
        omega
      · right
        have p1 : 0 ≤ (b - d) * (e - a) := Int.mul_nonneg (by omega) he.1
        have p2 : (b - d) * (e - a) ≤ (b - d) * (c - a) := Int.mul_le_mul_of_nonneg_left he.2 (by omega)
        have e1 : (b - d) * (e - a) = (c - a) * (b - f) := by grind
        rw [e1] at p1 p2
        rw [Int.mul_comm (b - d)] at p2
        have q1 : 0 ≤ b - f := by
          rcases Int.lt_or_le (b - f) 0 with q | q
          · have := Int.mul_neg_of_pos_of_neg hk q; omega
          · exact q
        have q2 := Int.le_of_mul_le_mul_left p2 hk
        omega
    · rintro ⟨h1, h2⟩
      refine ⟨?_, ?_⟩
      · rintro (g | ⟨g1, g2⟩)
        · omega
        · subst g1
          rw [Int.sub_self, Int.mul_zero] at hc
          rcases Int.mul_eq_zero.1 hc with g | g <;> omega
      · rintro (g | ⟨g1, g2⟩)
        · omega
        · subst g1
          have : (c - a) * (f - d) = 0 := by grind
          rcases Int.mul_eq_zero.1 this with g | g <;> omega
  · subst ho
    constructor
    · rintro ⟨h1, h2⟩; omega
    · rintro ⟨h1, h2⟩; omega
theorem btwn_iff {a c e : Int} : btwn a c e = true ↔ (a ≤ e ∧ e ≤ c ∨ c ≤ e ∧ e ≤ a) := by
  unfold btwn
  simp only [Bool.and_eq_true, decide_eq_true_eq]
  split <;> split <;> omega
theorem fl_on {a b c d e f : Int} (hc : crs a b c d e f = 0) : (fl a b c d e f e f == 1) = (btwn a c e && btwn b d f) := by
  have key : ∀ {a b c d : Int}, crs a b c d e f = 0 → (a < c ∨ a = c ∧ b ≤ d) → ((1 + cmp2 (ifI (lessP e f c d) e c) (ifI (lessP e f c d) f d) (ifI (lessP a b e f) e a) (ifI (lessP a b e f) f b) == 1) = (btwn a c e && btwn b d f)) := by
    intro a b c d hc ho
    have hb := between_lex (a := a) (b := b) (c := c) (d := d) (e := e) (f := f) (by unfold crs at hc; omega) ho
    have ht : (btwn a c e && btwn b d f) = true ↔ (a ≤ e ∧ e ≤ c) ∧ (b ≤ f ∧ f ≤ d ∨ d ≤ f ∧ f ≤ b) := by
      rw [Bool.and_eq_true, btwn_iff, btwn_iff]; omega
    rw [Bool.eq_iff_iff, ht, ← hb, beq_iff_eq]
    have z : ∀ x y z w : Int, 1 + cmp2 x y z w = 1 ↔ x = z ∧ y = w := by
      intro x y z w
      have h1 := cmp2_lt_iff x y z w
      have h2 := cmp2_gt_iff x y z w
      omega
    rw [z]
    cases h1 : lessP e f c d with
    | true =>
      have k1 := lessP_iff.1 h1
      cases h2 : lessP a b e f with
      | true =>
        have k2 := lessP_iff.1 h2
        simp only [ifI, cond_true, and_self, true_iff]; omega
      | false =>
        have k2 : ¬ (a < e ∨ a = e ∧ b < f) := fun h => by rw [lessP_iff.2 h] at h2; cases h2
        simp only [ifI, cond_true, cond_false]; omega
    | false =>
      have k1 : ¬ (e < c ∨ e = c ∧ f < d) := fun h => by rw [lessP_iff.2 h] at h1; cases h1
      cases h2 : lessP a b e f with
      | true =>
        have k2 := lessP_iff.1 h2
        simp only [ifI, cond_true, cond_false]; omega
      | false =>
        have k2 : ¬ (a < e ∨ a = e ∧ b < f) := fun h => by rw [lessP_iff.2 h] at h2; cases h2
        simp only [ifI, cond_false]; omega
  unfold fl
  have hs : lessP e f e f = false := by
    cases h : lessP e f e f with
    | false => rfl
    | true => have := lessP_iff.1 h; omega
  simp only [hs]
  cases h1 : lessP c d a b with
  | true =>
    have k1 := lessP_iff.1 h1
    have := key (a := c) (b := d) (c := a) (d := b) (by unfold crs at hc ⊢; grind) (by omega)
    have e1 : (btwn c a e && btwn d b f) = (btwn a c e && btwn b d f) := by
      rw [Bool.eq_iff_iff, Bool.and_eq_true, Bool.and_eq_true, btwn_iff, btwn_iff, btwn_iff, btwn_iff]; omega
    rw [e1] at this
    exact this
  | false =>
    have k1 : ¬ (c < a ∨ c = a ∧ d < b) := fun h => by rw [lessP_iff.2 h] at h1; cases h1
    exact key (a := a) (b := b) (c := c) (d := d) hc (by omega)
theorem mt_on (a b c d e f : Int) : (mt a b c d e f e f == 1) = onX a b c d e f := by
  unfold mt onX
  cases h1 : bdd a b with
  | false => rfl
  | true =>
    cases h2 : bdd c d with
    | false => rfl
    | true =>
      cases h3 : bdd e f with
      | false => rfl
      | true =>
        simp only [Bool.and_self, cond_true, Bool.true_and, sd_same]
        by_cases hz : sd a b c d e f = 0
        · rw [hz]
          have hc : crs a b c d e f = 0 := by
            unfold sd at hz
            rw [h1, h2, h3] at hz
            exact sgn_zero.1 hz
          simp only [beq_self_eq_true, Bool.and_self, cond_true, Bool.and_true]
          exact fl_on hc
        · rw [show (sd a b c d e f == 0) = false by simpa using hz]
          simp only [Bool.false_and, cond_false, Bool.and_false]
          have r := sd_range a b c d e f
          have : sd a b c d e f = -1 ∨ sd a b c d e f = 1 := by omega
          rcases this with e | e <;> rw [e] <;> rfl
def E10 : EnvK := E9 |>.addO 27 cMeet |>.addO 28 cMeet
theorem ok10 : EnvOK Try.prog E10.env := (ok9.addO oMeet).addO oRMeet
theorem oOn (args : List PV) (r : PV) (h : cOn args = some r) : Enters Try.prog 25 ∧ PCall Try.prog 25 args r := by
  unfold cOn at h; split at h
  · cases h
    rw [← mt_on]
    exact runP_sound ok10 (n := 60) (by kernel_rfl)
  · cases h
def E11 : EnvK := E10 |>.addO 25 cOn
theorem ok11 : EnvOK Try.prog E11.env := ok10.addO oOn
end Go.Hg
/- Geometry: contracts: Mod, Turn. -/
namespace Go.Hg
open Go.Hx Go.Proofs
def dMod : List PV → Option (DT PV) | [.val (.int .i64 n), .val (.int .i64 m)] => some (.br (decide (0 < m) && decide (m ≤ 4611686018427387904)) (.leaf (iv (n % m))) .no) | _ => none
def tpx (a b n : Int) : Int := if n % 4 = 1 then W (0 - b) else if n % 4 = 2 then W (0 - a) else if n % 4 = 3 then b else a
def tpy (a b n : Int) : Int := if n % 4 = 1 then a else if n % 4 = 2 then W (0 - b) else if n % 4 = 3 then W (0 - a) else b
def cTurn : List PV → Option PV | [.agg [.val (.int .i64 a), .val (.int .i64 b)], .val (.int .i64 n)] => some (ptv (tpx a b n) (tpy a b n)) | _ => none
theorem qMod (n m : Int) : runP Try.prog {} 60 30 [iv n, iv m] = bif !decide (m = 0) then (bif !decide (m = 0) then some (iv (Int.tmod (W (Int.tmod n m + m)) m)) else none) else none := by kernel_rfl
theorem mod_math {n m : Int} (h0 : 0 < m) (h1 : m ≤ 4611686018427387904) : Int.tmod (W (Int.tmod n m + m)) m = n % m := by
  have hb := Int.lt_tmod_of_pos n h0
  have hb2 := Int.tmod_lt_of_pos n h0
  rw [W_id (by omega) (by omega), Int.tmod_eq_emod_of_nonneg (by omega), Int.add_emod_right]
  rcases Int.le_total 0 n with hn | hn
  · rw [Int.tmod_eq_emod_of_nonneg hn, Int.emod_emod]
  · rw [Int.tmod_def, Int.sub_emod, Int.mul_emod_right]; simp
theorem eMod : Enters Try.prog 30 := (runP_sound envOK_zero (n := 60) (args := [iv 0, iv 1]) (p := iv 0) (by kernel_rfl)).1
theorem oMod (args : List PV) (d : DT PV) (r : PV) (h : dMod args = some d) (hd : d.run = some r) : PCall Try.prog 30 args r := by
  unfold dMod at h; split at h
  · rename_i n m
    cases h
    simp only [DT.run] at hd
    by_cases h0 : 0 < m
    · by_cases h1 : m ≤ 4611686018427387904
      · simp only [h0, h1, decide_true, Bool.and_true, cond_true] at hd
        cases hd
        refine (runP_sound envOK_zero (n := 60) ?_).2
        rw [qMod]
        have hm : decide (m = 0) = false := by simp; omega
        rw [hm, mod_math h0 h1]; rfl
      · simp [h1] at hd
    · simp [h0] at hd
  · cases h
theorem qTurn (a b n : Int) : runP Try.prog {} 60 36 [ptv a b, iv n] = bif bits .and .i64 n 3 == 1 then some (ptv (W (0 - b)) a) else bif bits .and .i64 n 3 == 2 then some (ptv (W (0 - a)) (W (0 - b))) else bif bits .and .i64 n 3 == 3 then some (ptv b (W (0 - a))) else some (ptv a b) := by kernel_rfl
theorem and3 (n : Int) : bits .and .i64 n 3 = n % 4 := by
  have h1 : BitVec.ofInt 64 3 = BitVec.ofNat 64 3 := rfl
  show IntKind.i64.wrap ((BitVec.ofInt 64 n &&& BitVec.ofInt 64 3).toNat : Int) = _
  have h2 : (BitVec.ofInt 64 n &&& BitVec.ofInt 64 3).toNat = (BitVec.ofInt 64 n).toNat % 4 := by
    rw [BitVec.toNat_and, h1]
    show (BitVec.ofInt 64 n).toNat &&& (2 ^ 2 - 1) = _
    rw [Nat.and_two_pow_sub_one_eq_mod]
  rw [h2]
  have h3 : ((BitVec.ofInt 64 n).toNat : Int) = n % 18446744073709551616 := by
    rw [BitVec.toNat_ofInt]
    omega
  rw [show (((BitVec.ofInt 64 n).toNat % 4 : Nat) : Int) = ((BitVec.ofInt 64 n).toNat : Int) % 4 by omega, h3]
  have := W_id (n := n % 18446744073709551616 % 4) (by omega) (by omega)
  rw [show IntKind.i64.wrap (n % 18446744073709551616 % 4) = n % 18446744073709551616 % 4 from this]
  omega
theorem oTurn (args : List PV) (r : PV) (h : cTurn args = some r) : Enters Try.prog 36 ∧ PCall Try.prog 36 args r := by
  unfold cTurn at h; split at h
  · cases h
    refine runP_sound envOK_zero (n := 60) ?_
    rename_i a b n
    rw [qTurn, and3]; unfold tpx tpy
    by_cases h1 : n % 4 = 1
    · simp [h1]
    · by_cases h2 : n % 4 = 2
      · simp [h2]
      · by_cases h3 : n % 4 = 3
        · simp [h3]
        · have e1 : (n % 4 == 1) = false := by simpa using h1
          have e2 : (n % 4 == 2) = false := by simpa using h2
          have e3 : (n % 4 == 3) = false := by simpa using h3
          simp only [e1, e2, e3, h1, h2, h3, cond_false, if_false]
  · cases h
/-- Mod by 4 that leaves r. -/
def m4 (r : Int) : List PV → Option (DT PV) | [.val (.int .i64 n), .val (.int .i64 4)] => some (.br (decide (n % 4 = r)) (.leaf (iv r)) .no) | _ => none
theorem om4 (r : Int) (args : List PV) (d : DT PV) (p : PV) (h : m4 r args = some d) (hd : d.run = some p) : PCall Try.prog 30 args p := by
  unfold m4 at h; split at h
  · rename_i n
    cases h
    simp only [DT.run] at hd
    by_cases h0 : n % 4 = r
    · simp only [h0, decide_true, cond_true] at hd
      cases hd
      rw [← h0]
      exact oMod [iv n, iv 4] _ _ rfl rfl
    · simp [h0] at hd
  · cases h
def ET (r : Int) : EnvK := ({} : EnvK).addD 30 (m4 r)
theorem okT (r : Int) : EnvOK Try.prog (ET r).env := envOK_zero.addD eMod (om4 r)
/-- hachureref04.Turn. -/
def trx (a b n : Int) : Int := if n % 4 = 0 then a else if n % 4 = 1 then W (0 - b) else if n % 4 = 2 then W (0 - a) else W (0 - W (0 - b))
def tryy (a b n : Int) : Int := if n % 4 = 0 then b else if n % 4 = 1 then a else if n % 4 = 2 then W (0 - b) else W (0 - a)
def cRTurn : List PV → Option PV | [.agg [.val (.int .i64 a), .val (.int .i64 b)], .val (.int .i64 n)] => some (ptv (trx a b n) (tryy a b n)) | _ => none
theorem qRTurn_0 (a b n : Int) : runP Try.prog (ET 0) 60 48 [ptv a b, iv n] = bif decide (n % 4 = 0) then some (ptv a b) else none := by kernel_rfl
theorem qRTurn_1 (a b n : Int) : runP Try.prog (ET 1) 60 48 [ptv a b, iv n] = bif decide (n % 4 = 1) then bif decide (n % 4 = 1) then some (ptv (W (0 - b)) a) else none else none := by kernel_rfl
theorem qRTurn_2 (a b n : Int) : runP Try.prog (ET 2) 60 48 [ptv a b, iv n] = bif decide (n % 4 = 2) then bif decide (n % 4 = 2) then bif decide (n % 4 = 2) then some (ptv (W (0 - a)) (W (0 - b))) else none else none else none := by kernel_rfl
theorem qRTurn_3 (a b n : Int) : runP Try.prog (ET 3) 60 48 [ptv a b, iv n] = bif decide (n % 4 = 3) then bif decide (n % 4 = 3) then bif decide (n % 4 = 3) then bif decide (n % 4 = 3) then some (ptv (W (0 - W (0 - b))) (W (0 - a))) else none else none else none else none := by kernel_rfl
theorem oRTurn (args : List PV) (r : PV) (h : cRTurn args = some r) : Enters Try.prog 48 ∧ PCall Try.prog 48 args r := by
  unfold cRTurn at h; split at h
  · rename_i a b n
    cases h
    have h4 : n % 4 = 0 ∨ n % 4 = 1 ∨ n % 4 = 2 ∨ n % 4 = 3 := by omega
    rcases h4 with h | h | h | h
    · exact runP_sound (okT 0) (n := 60) (by rw [qRTurn_0]; simp [h, trx, tryy])
    · exact runP_sound (okT 1) (n := 60) (by rw [qRTurn_1]; simp [h, trx, tryy])
    · exact runP_sound (okT 2) (n := 60) (by rw [qRTurn_2]; simp [h, trx, tryy])
    · exact runP_sound (okT 3) (n := 60) (by rw [qRTurn_3]; simp [h, trx, tryy])
  · cases h
def E12 : EnvK := ((E11.addF 30 dMod).addO 36 cTurn).addO 48 cRTurn
theorem ok12 : EnvOK Try.prog E12.env := ((ok11.addF eMod oMod).addO oTurn).addO oRTurn
end Go.Hg
/- Geometry: contracts: SpotSide. -/
namespace Go.Hg
open Go.Hx Go.Proofs
/-- Is a spot bounded? -/
def spOK (x y d : Int) : Bool := decide (1 ≤ d) && decide (d ≤ 4194304) && inB2 137438953472 x y
def crsS (a b c d e f g h i : Int) : Int := (d * c - a * f) * (h * c - b * i) - (e * c - b * f) * (g * c - a * i)
/-- P4.7. -/
def ssd (a b c d e f g h i : Int) : Int := bif spOK a b c && spOK d e f && spOK g h i then sgn (crsS a b c d e f g h i) else 0
def cSsd : List PV → Option PV
  | [.agg [.val (.int .i64 a), .val (.int .i64 b), .val (.int .i64 c)], .agg [.val (.int .i64 d), .val (.int .i64 e), .val (.int .i64 f)], .agg [.val (.int .i64 g), .val (.int .i64 h), .val (.int .i64 i)]] => some (iv (ssd a b c d e f g h i))
  | _ => none
def rawS (a b c d e f g h i : Int) : Int := sg2 (W (W (d * c) - W (a * f))) (W (W (h * c) - W (b * i))) (W (W (e * c) - W (b * f))) (W (W (g * c) - W (a * i)))
theorem mul_bd {a b A B : Int} (ha : -A ≤ a ∧ a ≤ A) (hb : -B ≤ b ∧ b ≤ B) : -(A * B) ≤ a * b ∧ a * b ≤ A * B := by
  have hA : 0 ≤ A := by omega
  have hB : 0 ≤ B := by omega
  have h : (a * b).natAbs ≤ (A * B).natAbs := by
    rw [Int.natAbs_mul, Int.natAbs_mul]
    exact Nat.mul_le_mul (by omega) (by omega)
  have := Int.mul_nonneg hA hB
  omega
theorem spOK_iff {x y d : Int} : spOK x y d = true ↔ (1 ≤ d ∧ d ≤ 4194304) ∧ ((-137438953472 ≤ x ∧ x ≤ 137438953472) ∧ (-137438953472 ≤ y ∧ y ≤ 137438953472)) := by
  unfold spOK
  rw [Bool.and_eq_true, Bool.and_eq_true, decide_eq_true_iff, decide_eq_true_iff, inB2_iff]
theorem rawS_eq {a b c d e f g h i : Int} (h1 : spOK a b c = true) (h2 : spOK d e f = true) (h3 : spOK g h i = true) : rawS a b c d e f g h i = sgn (crsS a b c d e f g h i) := by
  obtain ⟨k1, k2, k3⟩ := spOK_iff.1 h1
  obtain ⟨k4, k5, k6⟩ := spOK_iff.1 h2
  obtain ⟨k7, k8, k9⟩ := spOK_iff.1 h3
  have m : ∀ {x z : Int}, (-137438953472 ≤ x ∧ x ≤ 137438953472) → (1 ≤ z ∧ z ≤ 4194304) → -576460752303423488 ≤ x * z ∧ x * z ≤ 576460752303423488 := fun hx hz => mul_bd (A := 137438953472) (B := 4194304) hx (by omega)
  have p1 := m k5 k1
  have p2 := m k2 k4
  have p3 := m k9 k1
  have p4 := m k3 k7
  have p5 := m k6 k1
  have p6 := m k3 k4
  have p7 := m k8 k1
  have p8 := m k2 k7
  unfold rawS crsS
  rw [W_id (n := d * c) (by omega) (by omega), W_id (n := a * f) (by omega) (by omega), W_id (n := h * c) (by omega) (by omega), W_id (n := b * i) (by omega) (by omega),
    W_id (n := e * c) (by omega) (by omega), W_id (n := b * f) (by omega) (by omega), W_id (n := g * c) (by omega) (by omega), W_id (n := a * i) (by omega) (by omega),
    W_id (n := d * c - a * f) (by omega) (by omega), W_id (n := h * c - b * i) (by omega) (by omega), W_id (n := e * c - b * f) (by omega) (by omega), W_id (n := g * c - a * i) (by omega) (by omega)]
  exact sg2_eq (by omega) (by omega) (by omega) (by omega)
theorem spOK_wi (x y d : Int) : spOK x y d = (!decide (d < 1) && !decide (d > 4194304) && wi2 137438953472 x y) := by
  unfold spOK inB2
  rw [← wi2_eq (by omega)]
  rw [show decide (1 ≤ d) = !decide (d < 1) by rw [Bool.eq_iff_iff]; simp, show decide (d ≤ 4194304) = !decide (d > 4194304) by rw [Bool.eq_iff_iff]; simp]
theorem ssd_raw (a b c d e f g h i : Int) : ssd a b c d e f g h i = bif spOK a b c && spOK d e f && spOK g h i then rawS a b c d e f g h i else 0 := by
  unfold ssd
  cases h1 : spOK a b c
  · rfl
  · cases h2 : spOK d e f
    · rfl
    · cases h3 : spOK g h i
      · rfl
      · rw [rawS_eq h1 h2 h3]
theorem oSsd (args : List PV) (r : PV) (h : cSsd args = some r) : Enters Try.prog 33 ∧ PCall Try.prog 33 args r := by
  unfold cSsd at h; split at h
  · rename_i a b c d e f g h' i; cases h
    have q : (bif decide (c < 1) then some (iv 0) else bif decide (c > 4194304) then some (iv 0) else bif !wi2 137438953472 a b then some (iv 0) else
        bif decide (f < 1) then some (iv 0) else bif decide (f > 4194304) then some (iv 0) else bif !wi2 137438953472 d e then some (iv 0) else
        bif decide (i < 1) then some (iv 0) else bif decide (i > 4194304) then some (iv 0) else bif !wi2 137438953472 g h' then some (iv 0) else some (iv (rawS a b c d e f g h' i))) = some (iv (ssd a b c d e f g h' i)) := by
      rw [ssd_raw, spOK_wi, spOK_wi, spOK_wi]
      cases decide (c < 1) <;> cases decide (c > 4194304) <;> cases wi2 137438953472 a b <;> cases decide (f < 1) <;> cases decide (f > 4194304) <;> cases wi2 137438953472 d e <;> cases decide (i < 1) <;> cases decide (i > 4194304) <;> cases wi2 137438953472 g h' <;> rfl
    refine runP_sound ok12 (n := 60) (Eq.trans ?_ q); kernel_rfl
  · cases h
def cFar : List PV → Option PV | [.agg [.val (.int .i64 a), .val (.int .i64 b), .val (.int .i64 c)]] => some (bv (!spOK a b c)) | _ => none
theorem oFar (args : List PV) (r : PV) (h : cFar args = some r) : Enters Try.prog 95 ∧ PCall Try.prog 95 args r := by
  unfold cFar at h; split at h
  · rename_i a b c; cases h
    have q : (bif decide (1 ≤ c) then bif !decide (c ≤ 4194304) then some (bv true) else bif decide (-137438953472 ≤ a) then bif !decide (a ≤ 137438953472) then some (bv true) else bif decide (-137438953472 ≤ b) then some (bv (!decide (b ≤ 137438953472))) else some (bv true) else some (bv true) else some (bv true)) = some (bv (!spOK a b c)) := by
      unfold spOK inB2 inB
      cases decide (1 ≤ c) <;> cases decide (c ≤ 4194304) <;> cases decide (-137438953472 ≤ a) <;> cases decide (a ≤ 137438953472) <;> cases decide (-137438953472 ≤ b) <;> rfl
    refine runP_sound ok12 (n := 60) (Eq.trans ?_ q); kernel_rfl
  · cases h
def E13 : EnvK := (E12.addO 33 cSsd).addO 95 cFar
theorem ok13 : EnvOK Try.prog E13.env := (ok12.addO oSsd).addO oFar
theorem oRSsd (args : List PV) (r : PV) (h : cSsd args = some r) : Enters Try.prog 34 ∧ PCall Try.prog 34 args r := by
  unfold cSsd at h; split at h
  · rename_i a b c d e f g h' i; cases h
    have q : (bif !spOK a b c then some (iv 0) else bif !spOK d e f then some (iv 0) else bif !spOK g h' i then some (iv 0) else some (iv (rawS a b c d e f g h' i))) = some (iv (ssd a b c d e f g h' i)) := by
      rw [ssd_raw]
      cases spOK a b c <;> cases spOK d e f <;> cases spOK g h' i <;> rfl
    refine runP_sound ok13 (n := 60) (Eq.trans ?_ q); kernel_rfl
  · cases h
end Go.Hg
/- Geometry: contracts: Gcd. -/
namespace Go.Hg
open Go.Hx Go.Proofs
def E14 : EnvK := (E13.addO 34 cSsd).addO 140 (fun l => match l with | [.val (.int .u64 a)] => some (iv (sgn a)) | _ => none)
theorem ok14 : EnvOK Try.prog E14.env := (ok13.addO oRSsd).addO (fun args r h => by
  split at h
  · rename_i a; cases h
    rw [← sgn_sub0]
    exact runP_sound ok13 (n := 60) (by kernel_rfl)
  · cases h)
abbrev u64 : Sh := .cell (.int .u64)
def gN (x y : Int) : Int := ((Nat.gcd x.toNat y.toNat : Nat) : Int)
theorem gN_step {x y : Int} (hx : 0 ≤ x) (hy : 0 < y) : gN y (Int.tmod x y) = gN x y := by
  unfold gN
  rw [Int.tmod_eq_emod_of_nonneg hx, Int.toNat_emod hx (by omega), Nat.gcd_comm x.toNat, Nat.gcd_rec y.toNat x.toNat, Nat.gcd_comm]
theorem gN_zero {x : Int} (hx : 0 ≤ x) : gN x 0 = x := by unfold gN; simp; omega
abbrev SG (n : Nat) (x y : Int) : List PV := tm n [(5, uv x), (6, uv y)]
def eG (n : Nat) (s : Int × Int) : List PV × List Row := (SG n s.1 s.2, [])
def stG (n : Nat) : St := ⟨n, [(5, u64), (6, u64)], []⟩
def dG : List Lf → List Lf → Option (Int × Int)
  | [.i x, .i y], [] => some (x, y)
  | _, _ => none
def pG (s : Int × Int) : Bool := decide (0 ≤ s.1) && decide (0 ≤ s.2)
def fG (n : Nat) (s : Int × Int) : DT (PX × List PV × List Row) := .leaf (.exit 0, tm n [(5, uv (gN s.1 s.2))], [])
theorem dG1 : ∀ x y s, dG x y = some s → (stG 22).get (eG 22 s).1 (eG 22 s).2 = some (x, y) := by
  intro x y s h; unfold dG at h; split at h
  · cases h; kernel_rfl
  · cases h
theorem dG2 : ∀ x y s, dG x y = some s → (stG 21).get (eG 21 s).1 (eG 21 s).2 = some (x, y) := by
  intro x y s h; unfold dG at h; split at h
  · cases h; kernel_rfl
  · cases h
theorem qG1 (x y : Int) : runB Try.prog E14 60 91 (lpb Try.f91 2) [5, 6] [5] (SG 22 x y) [] =
  bif sgn y != 0 then bif !decide (y = 0) then some (.normal, SG 22 y (Int.tmod x y), []) else none else some (.exit 0, tm 22 [(5, uv x)], []) := by kernel_rfl
theorem qG2 (x y : Int) : runB Try.prog E14 60 37 (lpb Try.f37 3) [5, 6] [5] (SG 21 x y) [] =
  bif y != 0 then bif !decide (y = 0) then some (.normal, SG 21 y (Int.tmod x y), []) else none else some (.exit 0, tm 21 [(5, uv x)], []) := by kernel_rfl
theorem stepG {P : Program} {E : EnvK} {f : Nat} {b : Code} {n : Nat} {l l' : List Tmp} (q : ∀ x y : Int, runB P E 60 f b l l' (SG n x y) [] = bif y != 0 then some (.normal, SG n y (Int.tmod x y), []) else some (.exit 0, tm n [(5, uv x)], []))
    (s : Int × Int) (r : PX × List PV × List Row) (hp : pG s = true) (hr : (fG n s).run = some r) :
    r.1 ≠ .normal ∧ (runB P E 60 f b l l' (eG n s).1 (eG n s).2 = some r ∨
      ∃ s', runB P E 60 f b l l' (eG n s).1 (eG n s).2 = some (.normal, eG n s') ∧ pG s' = true ∧ s'.2.toNat < s.2.toNat ∧ (fG n s').run = some r) := by
  obtain ⟨x, y⟩ := s
  obtain rfl := Option.some.inj hr
  simp only [pG, Bool.and_eq_true, decide_eq_true_eq] at hp
  obtain ⟨hx, hy⟩ := hp
  refine ⟨by simp, ?_⟩
  unfold eG
  dsimp only
  rw [q]
  by_cases h0 : y = 0
  · left
    subst h0
    show some _ = some (PX.exit 0, tm n [(5, uv (gN x 0))], [])
    rw [gN_zero hx]
  · right
    have h1 := Int.tmod_lt_of_pos x (show 0 < y by omega)
    have h2 := Int.tmod_nonneg y hx
    refine ⟨(y, Int.tmod x y), ?_, ?_, ?_, ?_⟩
    · rw [show (y != 0) = true by simpa using h0]; rfl
    · simp only [pG, Bool.and_eq_true, decide_eq_true_eq]; omega
    · dsimp only; omega
    · show some (PX.exit 0, tm n [(5, uv (gN y (Int.tmod x y)))], []) = some (PX.exit 0, tm n [(5, uv (gN x y))], [])
      rw [gN_step hx (by omega)]
theorem bne0 (y : Int) : (sgn y != 0) = (y != 0) := by
  rw [Bool.eq_iff_iff, bne_iff_ne, bne_iff_ne]
  exact not_congr sgn_zero
theorem bneD (y : Int) : (!decide (y = 0)) = (y != 0) := by
  rw [Bool.eq_iff_iff]; simp
theorem bif2 {α : Type} (b : Bool) (x y z : α) : (bif b then (bif b then x else y) else z) = bif b then x else z := by cases b <;> rfl
noncomputable def E15 : EnvK := (E14.addL 91 2 [5, 6] (byModel [] (ofSt (stG 22) dG) pG (fG 22))).addL 37 3 [5, 6] (byModel [] (ofSt (stG 21) dG) pG (fG 21))
theorem ok15 : EnvOK Try.prog E15.env := by
  have h1 : EnvOK Try.prog (E14.addL 91 2 [5, 6] (byModel [] (ofSt (stG 22) dG) pG (fG 22))).env :=
    ok14.addM (n := 60) Try.func91 (show Try.f91.body = some (bod Try.f91) by kernel_rfl) (show (loops (bod Try.f91)).filter (fun b => rid b == 2) = [lpb Try.f91 2] by kernel_rfl) [5, 6] [5] (eG 22) (ofSt_emb dG1) (fun s => s.2.toNat)
      (stepG fun x y => by rw [qG1, bne0, bneD, bif2])
  have w := loopW (P := Try.prog) (E := E14) ok14 (n := 60) (f := 37) (b := lpb Try.f37 3) [5, 6] [5] (sel := []) (eG 21) (ofSt_emb dG2) (fun s => s.2.toNat) (stepG fun x y => by rw [qG2, bneD, bif2])
  exact h1.addL Try.func37 (show Try.f37.body = some (bod Try.f37) by kernel_rfl) (show (loops (bod Try.f37)).filter (fun b => rid b == 3) = [lpb Try.f37 3] by kernel_rfl) w
def gcdX (a b : Int) : Int := if gN (sz a) (sz b) > 9223372036854775807 then 1 else gN (sz a) (sz b)
def cGcd : List PV → Option PV | [.val (.int .i64 a), .val (.int .i64 b)] => some (iv (gcdX a b)) | _ => none
theorem qGcd1 (a b : Int) : runP Try.prog E15 60 91 [iv a, iv b] = bif pG (sz a, sz b) then bif decide (gN (sz a) (sz b) > 9223372036854775807) then some (iv 1) else some (iv (W (gN (sz a) (sz b)))) else none := by kernel_rfl
theorem qGcd2 (a b : Int) : runP Try.prog E15 60 37 [iv a, iv b] = bif pG (sz a, sz b) then bif decide (gN (sz a) (sz b) > 9223372036854775807) then some (iv 1) else some (iv (W (gN (sz a) (sz b)))) else none := by kernel_rfl
theorem gcd_tree (a b : Int) : (bif pG (sz a, sz b) then bif decide (gN (sz a) (sz b) > 9223372036854775807) then some (iv 1) else some (iv (W (gN (sz a) (sz b)))) else none) = some (iv (gcdX a b)) := by
  have h1 := sz_range a
  have h2 := sz_range b
  have : pG (sz a, sz b) = true := by unfold pG; simp; omega
  rw [this]
  unfold gcdX
  by_cases h : gN (sz a) (sz b) > 9223372036854775807
  · rw [decide_eq_true h, if_pos h]; rfl
  · rw [decide_eq_false h, if_neg h, W_id (by have : 0 ≤ gN (sz a) (sz b) := by { unfold gN; omega }; omega) (by omega)]; rfl
theorem oGcd (args : List PV) (r : PV) (h : cGcd args = some r) : Enters Try.prog 91 ∧ PCall Try.prog 91 args r := by
  unfold cGcd at h; split at h
  · cases h; exact runP_sound ok15 (n := 60) (by rw [qGcd1, gcd_tree])
  · cases h
theorem oRGcd (args : List PV) (r : PV) (h : cGcd args = some r) : Enters Try.prog 37 ∧ PCall Try.prog 37 args r := by
  unfold cGcd at h; split at h
  · cases h; exact runP_sound ok15 (n := 60) (by rw [qGcd2, gcd_tree])
  · cases h
def E16 : EnvK := ((E14.addO 91 cGcd).addO 37 cGcd).addQ 90
theorem ok16 : EnvOK Try.prog E16.env := ((ok14.addO oGcd).addO oRGcd).addQ 90
end Go.Hg
/- Geometry: contracts: Move. -/
namespace Go.Hg
open Go.Hx Go.Proofs
/-- Can a spot be moved? -/
def mvOK (x y d : Int) : Bool := decide (1 ≤ d) && decide (d ≤ 2048) && inB2 (16384 * d) x y
theorem mvOK_iff {x y d : Int} : mvOK x y d = true ↔ (1 ≤ d ∧ d ≤ 2048) ∧ ((-(16384 * d) ≤ x ∧ x ≤ 16384 * d) ∧ (-(16384 * d) ≤ y ∧ y ≤ 16384 * d)) := by
  unfold mvOK
  rw [Bool.and_eq_true, Bool.and_eq_true, decide_eq_true_iff, decide_eq_true_iff, inB2_iff]
theorem mvOK_wi (x y d : Int) : mvOK x y d = (decide (d ≥ 1) && decide (d ≤ 2048) && wi2 (W (16384 * d)) x y) := by
  unfold mvOK
  by_cases h1 : d ≥ 1
  · by_cases h2 : d ≤ 2048
    · rw [W_id (n := 16384 * d) (by omega) (by omega), wi2_eq (by omega)]; rfl
    · rw [decide_eq_false h2]; simp
  · rw [decide_eq_false (show ¬ 1 ≤ d from h1)]; rfl
def cMov : List PV → Option PV | [.agg [.val (.int .i64 a), .val (.int .i64 b), .val (.int .i64 c)]] => some (bv (mvOK a b c)) | _ => none
theorem oMovable (args : List PV) (r : PV) (h : cMov args = some r) : Enters Try.prog 89 ∧ PCall Try.prog 89 args r := by
  unfold cMov at h; split at h
  · rename_i a b c; cases h
    have q : (bif decide (c ≥ 1) then bif decide (c ≤ 2048) then some (bv (wi2 (W (16384 * c)) a b)) else some (bv false) else some (bv false)) = some (bv (mvOK a b c)) := by
      rw [mvOK_wi]; cases decide (c ≥ 1) <;> cases decide (c ≤ 2048) <;> rfl
    refine runP_sound ok16 (n := 60) (Eq.trans ?_ q); kernel_rfl
  · cases h
theorem oRSpot (args : List PV) (r : PV) (h : cMov args = some r) : Enters Try.prog 92 ∧ PCall Try.prog 92 args r := by
  unfold cMov at h; split at h
  · rename_i a b c; cases h
    have q : (bif decide (1 ≤ c) then bif decide (c ≤ 2048) then bif decide (W (-16384 * c) ≤ a) then bif decide (a ≤ W (16384 * c)) then bif decide (W (-16384 * c) ≤ b) then some (bv (decide (b ≤ W (16384 * c)))) else some (bv false) else some (bv false) else some (bv false) else some (bv false) else some (bv false)) = some (bv (mvOK a b c)) := by
      unfold mvOK inB2 inB
      by_cases h1 : 1 ≤ c
      · by_cases h2 : c ≤ 2048
        · rw [W_id (n := 16384 * c) (by omega) (by omega), W_id (n := -16384 * c) (by omega) (by omega), show -16384 * c = -(16384 * c) by omega, decide_eq_true h1, decide_eq_true h2]
          cases decide (-(16384 * c) ≤ a) <;> cases decide (a ≤ 16384 * c) <;> cases decide (-(16384 * c) ≤ b) <;> rfl
        · rw [decide_eq_false h2]; cases decide (1 ≤ c) <;> rfl
      · rw [decide_eq_false h1]; rfl
    refine runP_sound ok16 (n := 60) (Eq.trans ?_ q); kernel_rfl
  · cases h
noncomputable def E17 : EnvK := (E16.addO 89 cMov).addO 92 cMov
theorem ok17 : EnvOK Try.prog E17.env := (ok16.addO oMovable).addO oRSpot
/-- P4.6: numbers of the moved spot, before they are divided. -/
def mvX (x y xd yd n m : Int) : Int := W (W (W (x * yd) * W (m - n)) + W (W (y * xd) * n))
def mvD (xd yd m : Int) : Int := W (W (xd * yd) * m)
def mvG (a b c d e f n m : Int) : Int := gcdX (gcdX (mvX a d c f n m) (mvX b e c f n m)) (mvD c f m)
def mvP (a b c d e f n m : Int) : Bool := mvOK a b c && mvOK d e f && (decide (1 ≤ m) && decide (m ≤ 1048576) && (decide (0 ≤ n) && decide (n ≤ m)))
def cMove : List PV → Option PV
  | [.agg [.val (.int .i64 a), .val (.int .i64 b), .val (.int .i64 c)], .agg [.val (.int .i64 d), .val (.int .i64 e), .val (.int .i64 f)], .agg [.val (.int .i64 n), .val (.int .i64 m)]] =>
    some (.tup [spv (bif mvP a b c d e f n m then W (Int.tdiv (mvX a d c f n m) (mvG a b c d e f n m)) else 0) (bif mvP a b c d e f n m then W (Int.tdiv (mvX b e c f n m) (mvG a b c d e f n m)) else 0)
      (bif mvP a b c d e f n m then W (Int.tdiv (mvD c f m) (mvG a b c d e f n m)) else 0), bv (mvP a b c d e f n m)])
  | _ => none
theorem gcdX_pos {a b : Int} (hb : 1 ≤ b ∧ b < 9223372036854775808) : 1 ≤ gcdX a b := by
  unfold gcdX
  split
  · omega
  · unfold gN
    have hz : (sz b).toNat = b.toNat := by rw [sz_id (by omega) (by omega)]; omega
    have : 0 < Nat.gcd (sz a).toNat (sz b).toNat := Nat.gcd_pos_of_pos_right _ (by rw [hz]; omega)
    omega
theorem mvD_id {c f m : Int} (hc : 1 ≤ c ∧ c ≤ 2048) (hf : 1 ≤ f ∧ f ≤ 2048) (hm : 1 ≤ m ∧ m ≤ 1048576) : mvD c f m = c * f * m ∧ 1 ≤ c * f * m ∧ c * f * m ≤ 4398046511104 := by
  have p1 := mul_bd (a := c) (b := f) (A := 2048) (B := 2048) (by omega) (by omega)
  have p2 := Int.mul_pos (show 0 < c by omega) (show 0 < f by omega)
  have p3 := mul_bd (a := c * f) (b := m) (A := 4194304) (B := 1048576) (by omega) (by omega)
  have p4 := Int.mul_pos p2 (show 0 < m by omega)
  unfold mvD
  rw [W_id (n := c * f) (by omega) (by omega), W_id (by omega) (by omega)]
  exact ⟨rfl, by omega, by omega⟩
abbrev no3 : Option PV := some (.tup [spv 0 0 0, bv false])
def yes3 (a b c d e f n m : Int) : Option PV :=
  bif !decide (mvG a b c d e f n m = 0) then bif !decide (mvG a b c d e f n m = 0) then bif !decide (mvG a b c d e f n m = 0) then
    some (.tup [spv (W (Int.tdiv (mvX a d c f n m) (mvG a b c d e f n m))) (W (Int.tdiv (mvX b e c f n m) (mvG a b c d e f n m))) (W (Int.tdiv (mvD c f m) (mvG a b c d e f n m))), bv true]) else none else none else none
theorem mv_value (a b c d e f n m : Int) (hp : mvP a b c d e f n m = true) : yes3 a b c d e f n m = cMove [spv a b c, spv d e f, ptv n m] := by
  have hp' := hp
  unfold mvP at hp
  simp only [Bool.and_eq_true, decide_eq_true_eq] at hp
  obtain ⟨⟨h1, h2⟩, ⟨h3, h4⟩, h5, h6⟩ := hp
  have k1 := (mvOK_iff.1 h1).1
  have k2 := (mvOK_iff.1 h2).1
  obtain ⟨e1, e2, e3⟩ := mvD_id k1 k2 ⟨h3, h4⟩
  have hg : 1 ≤ mvG a b c d e f n m := by unfold mvG; exact gcdX_pos (by rw [e1]; omega)
  unfold yes3
  rw [show (!decide (mvG a b c d e f n m = 0)) = true by simp; omega]
  simp only [cMove, hp', cond_true]
theorem oMove (args : List PV) (r : PV) (h : cMove args = some r) : Enters Try.prog 31 ∧ PCall Try.prog 31 args r := by
  have h0 := h
  unfold cMove at h; split at h
  · rename_i a b c d e f n m
    have q : (bif !mvOK a b c then no3 else bif !mvOK d e f then no3 else bif decide (m < 1) then no3 else bif decide (m > 1048576) then no3 else bif decide (n < 0) then no3 else bif decide (n > m) then no3 else yes3 a b c d e f n m) = some r := by
      rw [← h0]
      cases hp : mvP a b c d e f n m with
      | true =>
        rw [mv_value a b c d e f n m hp]
        unfold mvP at hp
        simp only [Bool.and_eq_true, decide_eq_true_eq] at hp
        obtain ⟨⟨h1, h2⟩, ⟨h3, h4⟩, h5, h6⟩ := hp
        rw [h1, h2, decide_eq_false (show ¬ m < 1 by omega), decide_eq_false (show ¬ m > 1048576 by omega), decide_eq_false (show ¬ n < 0 by omega), decide_eq_false (show ¬ n > m by omega)]
        rfl
      | false =>
        have hr : cMove [spv a b c, spv d e f, ptv n m] = no3 := by simp only [cMove, hp, cond_false]
        rw [hr]
        unfold mvP at hp
        rw [show decide (1 ≤ m) = !decide (m < 1) by rw [Bool.eq_iff_iff]; simp, show decide (m ≤ 1048576) = !decide (m > 1048576) by rw [Bool.eq_iff_iff]; simp,
          show decide (0 ≤ n) = !decide (n < 0) by rw [Bool.eq_iff_iff]; simp, show decide (n ≤ m) = !decide (n > m) by rw [Bool.eq_iff_iff]; simp] at hp
        revert hp
        cases mvOK a b c <;> cases mvOK d e f <;> cases decide (m < 1) <;> cases decide (m > 1048576) <;> cases decide (n < 0) <;> cases decide (n > m) <;> intro hp <;> first | rfl | cases hp
    refine runP_sound ok17 (n := 60) (Eq.trans ?_ q); kernel_rfl
  · cases h
theorem oRMove (args : List PV) (r : PV) (h : cMove args = some r) : Enters Try.prog 32 ∧ PCall Try.prog 32 args r := by
  have h0 := h
  unfold cMove at h; split at h
  · rename_i a b c d e f n m
    have q : (bif !mvOK a b c then no3 else bif !mvOK d e f then no3 else bif decide (1 ≤ m) then bif !decide (m ≤ 1048576) then no3 else bif decide (0 ≤ n) then bif !decide (n ≤ m) then no3 else yes3 a b c d e f n m else no3 else no3) = some r := by
      rw [← h0]
      cases hp : mvP a b c d e f n m with
      | true =>
        rw [mv_value a b c d e f n m hp]
        unfold mvP at hp
        simp only [Bool.and_eq_true, decide_eq_true_eq] at hp
        obtain ⟨⟨h1, h2⟩, ⟨h3, h4⟩, h5, h6⟩ := hp
        rw [h1, h2, decide_eq_true h3, decide_eq_true h4, decide_eq_true h5, decide_eq_true h6]
        rfl
      | false =>
        have hr : cMove [spv a b c, spv d e f, ptv n m] = no3 := by simp only [cMove, hp, cond_false]
        rw [hr]
        unfold mvP at hp
        revert hp
        cases mvOK a b c <;> cases mvOK d e f <;> cases decide (1 ≤ m) <;> cases decide (m ≤ 1048576) <;> cases decide (0 ≤ n) <;> cases decide (n ≤ m) <;> intro hp <;> first | rfl | cases hp
    refine runP_sound ok17 (n := 60) (Eq.trans ?_ q); kernel_rfl
  · cases h
noncomputable def E18 : EnvK := (E17.addO 31 cMove).addO 32 cMove
theorem ok18 : EnvOK Try.prog E18.env := (ok17.addO oMove).addO oRMove
/-- The chapter's examples. -/
theorem qSan : runP Try.prog E18 60 20 [] = some (bv true) := by kernel_rfl
def cSan : List PV → Option PV | [] => some (bv true) | _ => none
theorem oSan (args : List PV) (r : PV) (h : cSan args = some r) : Enters Try.prog 20 ∧ PCall Try.prog 20 args r := by
  unfold cSan at h; split at h
  · cases h; exact runP_sound ok18 (n := 60) qSan
  · cases h
noncomputable def E19 : EnvK := E18.addO 20 cSan
theorem ok19 : EnvOK Try.prog E19.env := ok18.addO oSan
end Go.Hg
/- Geometry: contracts: rays. -/
namespace Go.Hg
open Go.Hx Go.Proofs
def rayV (u v : Bool) (s1 s2 : Int) : Int := bif !u && v && decide (s1 < 0) then 1 else bif u && !v && decide (s2 < 0) then -1 else 0
/-- P6.3. -/
def ray (a b c d e f : Int) : Int := rayV (decide (b > f)) (decide (d > f)) (sd a b c d e f) (sd c d a b e f)
def upS (y d h : Int) : Bool := decide ((bif decide (d < 1) || false then 0 else sg2 y 1 h d) > 0)
/-- P6.4. -/
def rsp (a b c d e f g h : Int) : Int := bif decide (c < 1) || decide (f < 1) then 0 else rayV (upS b c h) (upS e f h) (ssd a b c d e f g h 1) (ssd d e f a b c g h 1)
def dn5 (u v k2 : Bool) : Option PV := bif u then bif !v then bif k2 then some (iv (-1)) else some (iv 0) else some (iv 0) else some (iv 0)
def rayT (u v k1 k2 : Bool) : Option PV := bif !u then bif v then bif k1 then some (iv 1) else dn5 u v k2 else dn5 u v k2 else dn5 u v k2
theorem rayT_eq (u v : Bool) (s1 s2 : Int) : rayT u v (decide (s1 < 0)) (decide (s2 < 0)) = some (iv (rayV u v s1 s2)) := by
  unfold rayT dn5 rayV
  cases u <;> cases v <;> cases decide (s1 < 0) <;> cases decide (s2 < 0) <;> rfl
def dn6 (r t k2 : Bool) : Option PV := bif r then bif t then bif k2 then some (iv (-1)) else some (iv 0) else some (iv 0) else some (iv 0)
def rayT2 (p q r t k1 k2 : Bool) : Option PV := bif p then bif q then bif k1 then some (iv 1) else dn6 r t k2 else dn6 r t k2 else dn6 r t k2
theorem rayT2_eq (u v : Bool) (s1 s2 : Int) : rayT2 (!u) v (!v) u (decide (s1 < 0)) (decide (s2 < 0)) = some (iv (rayV u v s1 s2)) := by
  unfold rayT2 dn6 rayV
  cases u <;> cases v <;> cases decide (s1 < 0) <;> cases decide (s2 < 0) <;> rfl
def cRay : List PV → Option PV
  | [.agg [.val (.int .i64 a), .val (.int .i64 b)], .agg [.val (.int .i64 c), .val (.int .i64 d)], .agg [.val (.int .i64 e), .val (.int .i64 f)]] => some (iv (ray a b c d e f))
  | _ => none
theorem oRay (args : List PV) (r : PV) (h : cRay args = some r) : Enters Try.prog 64 ∧ PCall Try.prog 64 args r := by
  unfold cRay at h; split at h
  · cases h; refine runP_sound ok19 (n := 60) (Eq.trans ?_ (rayT_eq _ _ _ _)); kernel_rfl
  · cases h
theorem oRRay (args : List PV) (r : PV) (h : cRay args = some r) : Enters Try.prog 65 ∧ PCall Try.prog 65 args r := by
  unfold cRay at h; split at h
  · rename_i a b c d e f; cases h
    have q : rayT2 (decide (b ≤ f)) (decide (f < d)) (decide (d ≤ f)) (decide (f < b)) (decide (sd a b c d e f < 0)) (decide (sd c d a b e f < 0)) = some (iv (ray a b c d e f)) := by
      unfold ray
      rw [show decide (b ≤ f) = !decide (b > f) by rw [Bool.eq_iff_iff]; simp, show decide (d ≤ f) = !decide (d > f) by rw [Bool.eq_iff_iff]; simp]
      exact rayT2_eq _ _ _ _
    refine runP_sound ok19 (n := 60) (Eq.trans ?_ q); kernel_rfl
  · cases h
def cRsp : List PV → Option PV
  | [.agg [.val (.int .i64 a), .val (.int .i64 b), .val (.int .i64 c)], .agg [.val (.int .i64 d), .val (.int .i64 e), .val (.int .i64 f)], .agg [.val (.int .i64 g), .val (.int .i64 h)]] => some (iv (rsp a b c d e f g h))
  | _ => none
theorem rsp_tree (a b c d e f g h : Int) : (bif decide (c < 1) then some (iv 0) else bif decide (f < 1) then some (iv 0) else rayT (upS b c h) (upS e f h) (decide (ssd a b c d e f g h 1 < 0)) (decide (ssd d e f a b c g h 1 < 0))) = some (iv (rsp a b c d e f g h)) := by
  rw [rayT_eq]; unfold rsp
  cases decide (c < 1) <;> cases decide (f < 1) <;> rfl
theorem oRsp (args : List PV) (r : PV) (h : cRsp args = some r) : Enters Try.prog 66 ∧ PCall Try.prog 66 args r := by
  unfold cRsp at h; split at h
  · cases h; refine runP_sound ok19 (n := 60) (Eq.trans ?_ (rsp_tree _ _ _ _ _ _ _ _)); kernel_rfl
  · cases h
theorem oRRsp (args : List PV) (r : PV) (h : cRsp args = some r) : Enters Try.prog 67 ∧ PCall Try.prog 67 args r := by
  unfold cRsp at h; split at h
  · cases h; refine runP_sound ok19 (n := 60) (Eq.trans ?_ (rsp_tree _ _ _ _ _ _ _ _)); kernel_rfl
  · cases h
noncomputable def E30 : EnvK := (((E19.addO 64 cRay).addO 65 cRay).addO 66 cRsp).addO 67 cRsp
theorem ok30 : EnvOK Try.prog E30.env := (((ok19.addO oRay).addO oRRay).addO oRsp).addO oRRsp
end Go.Hg
/- Geometry: rings: the sanity of chapter 06. -/
namespace Go.Hg
open Go.Hx Go.Proofs
noncomputable def E31 : EnvK := (E30.addK 104).addK 119
theorem ok31 : EnvOK Try.prog E31.env := (ok30.addK 104).addK 119
theorem qSan6 : runP Try.prog E31 100 54 [] = some (bv true) := by kernel_rfl
theorem oSan6 (args : List PV) (r : PV) (h : cSan args = some r) : Enters Try.prog 54 ∧ PCall Try.prog 54 args r := by
  unfold cSan at h; split at h
  · cases h; exact runP_sound ok31 (n := 100) qSan6
  · cases h
noncomputable def E32 : EnvK := E31.addO 54 cSan
theorem ok32 : EnvOK Try.prog E32.env := ok31.addO oSan6
end Go.Hg
/- Geometry: lists of any length: all points right; closed. -/
namespace Go.Hg
open Go.Hx Go.Proofs
def qX (es : List PV) (i : Int) : Int := ((es.getD i.toNat .any).cellAt 0).getI
def qY (es : List PV) (i : Int) : Int := ((es.getD i.toNat .any).cellAt 1).getI
def inr (es : List PV) (i : Int) : Bool := decide (0 ≤ i) && decide (i < (es.length : Int))
abbrev qp (es : List PV) (i : Int) : PV := ptv (qX es i) (qY es i)
theorem inr_of {es : List PV} {i : Int} (h1 : 0 ≤ i) (h2 : i < (es.length : Int)) : inr es i = true := by unfold inr; simp; omega
/-- The points i, i + 1, .. are right. -/
def allR (es : List PV) (i : Int) : Nat → Bool
  | 0 => true
  | n + 1 => right (qX es i) (qY es i) && allR es (i + 1) n
theorem allR_false {es : List PV} : ∀ {n : Nat} {i : Int}, allR es i n = true ↔ ∀ j : Nat, j < n → right (qX es (i + j)) (qY es (i + j)) = true
  | 0, i => by simp [allR]
  | n + 1, i => by
    simp only [allR, Bool.and_eq_true, allR_false (n := n) (i := i + 1)]
    constructor
    · rintro ⟨h1, h2⟩ j hj
      cases j with
      | zero => simpa using h1
      | succ j => have := h2 j (by omega); rwa [show i + 1 + (j : Int) = i + ((j + 1 : Nat) : Int) by omega] at this
    · intro h
      exact ⟨by simpa using h 0 (by omega), fun j hj => by rw [show i + 1 + (j : Int) = i + ((j + 1 : Nat) : Int) by omega]; exact h (j + 1) (by omega)⟩
abbrev big (es : List PV) : Bool := decide (es.length ≤ 1000000)
def shF : S1 := ⟨18, [(0, .lst 23), (3, I64)], []⟩
abbrev tF0 (f : Bool) (es : List PV) : List PV := tm 18 [(0, .lst f 23 es)]
abbrev tF1 (f : Bool) (es : List PV) : List PV := tm 18 [(0, .lst f 23 es), (2, bv false)]
theorem qF (f : Bool) (es : List PV) (i : Int) : runB Try.prog E32 60 120 (lpb Try.f120 2) [0, 3] [0, 2] (shF.put ([.l f es, .i i], [])).1 (shF.put ([.l f es, .i i], [])).2 =
  bif decide (i < (es.length : Int)) then bif inr es i then bif !right (qX es i) (qY es i) then some (.ret, tF1 f es, []) else some (.normal, shF.put ([.l f es, .i (W (i + 1))], [])) else none
    else some (.exit 0, tF0 f es, []) := by kernel_rfl
def pF : LS → Bool
  | ([.l _ es, .i i], []) => decide (0 ≤ i) && decide (i ≤ (es.length : Int)) && big es
  | _ => false
def fF : LS → DT (PX × List PV × List Row)
  | ([.l f es, .i i], []) => .br (allR es i ((es.length : Int) - i).toNat) (.leaf (.exit 0, tF0 f es, [])) (.leaf (.ret, tF1 f es, []))
  | _ => .no
def mF : LS → Nat
  | ([.l _ es, .i i], []) => ((es.length : Int) - i).toNat
  | _ => 0
theorem run_br2 {α : Type} {b : Bool} {a c r : α} (h : (DT.br b (.leaf a) (.leaf c)).run = some r) : r = bif b then a else c := by
  cases b <;> exact (Option.some.inj h).symm
theorem sF : ∀ s r, pF s = true → (fF s).run = some r → r.1 ≠ .normal ∧ (runB Try.prog E32 60 120 (lpb Try.f120 2) [0, 3] [0, 2] (shF.put s).1 (shF.put s).2 = some r ∨
      ∃ s', runB Try.prog E32 60 120 (lpb Try.f120 2) [0, 3] [0, 2] (shF.put s).1 (shF.put s).2 = some (.normal, shF.put s') ∧ pF s' = true ∧ mF s' < mF s ∧ (fF s').run = some r) := by
  intro s r hp hr
  unfold pF at hp; split at hp
  · rename_i f es i
    simp only [Bool.and_eq_true, decide_eq_true_eq] at hp
    obtain ⟨⟨h1, h2⟩, h3⟩ := hp
    have hr' := run_br2 hr
    refine ⟨by rw [hr']; cases allR es i ((es.length : Int) - i).toNat <;> simp, ?_⟩
    rw [qF]
    by_cases hi : i < (es.length : Int)
    · rw [decide_eq_true hi, cond_true, inr_of h1 hi, cond_true]
      obtain ⟨n, hn⟩ : ∃ n, ((es.length : Int) - i).toNat = n + 1 := ⟨((es.length : Int) - i).toNat - 1, by omega⟩
      rw [hn] at hr'
      simp only [allR] at hr'
      cases hR : right (qX es i) (qY es i) with
      | false => rw [hR] at hr'; exact .inl (by rw [hr']; rfl)
      | true =>
        rw [hR] at hr'
        refine .inr ⟨([.l f es, .i (i + 1)], []), by rw [W_id (by omega) (by omega)]; rfl, by simp [pF]; omega, by simp only [mF]; omega, ?_⟩
        rw [hr']
        simp only [fF]
        rw [show ((es.length : Int) - (i + 1)).toNat = n by omega]
        cases allR es (i + 1) n <;> rfl
    · rw [decide_eq_false hi]
      rw [show ((es.length : Int) - i).toNat = 0 by omega] at hr'
      exact .inl (by rw [hr']; rfl)
  · cases hp
noncomputable def E33a : EnvK := E32.addW 120 2 [0, 3] [] shF pF fF
theorem ok33a : EnvOK Try.prog E33a.env :=
  ok32.addW (n := 60) Try.func120 (show Try.f120.body = some (bod Try.f120) by kernel_rfl) (show (loops (bod Try.f120)).filter (fun b => rid b == 2) = [lpb Try.f120 2] by kernel_rfl) [0, 3] [0, 2] [] shF mF sF
theorem qFine (f : Bool) (es : List PV) : runP Try.prog E33a 60 120 [.lst f 23 es] =
  bif decide (0 ≤ (0 : Int)) && decide ((0 : Int) ≤ (es.length : Int)) && big es then bif allR es 0 ((es.length : Int) - 0).toNat then some (bv true) else some (bv false) else none := by kernel_rfl
def fin (es : List PV) : Bool := allR es 0 es.length
def cFine : List PV → Option (DT PV) | [.lst _ 23 es] => some (.br (big es) (.leaf (bv (fin es))) .no) | _ => none
theorem qFine' (f : Bool) (es : List PV) (h : big es = true) : runP Try.prog E33a 60 120 [.lst f 23 es] = some (bv (fin es)) := by
  rw [qFine, h]
  rw [show ((es.length : Int) - 0).toNat = es.length by omega]
  unfold fin
  simp only [Int.natCast_nonneg, decide_true, Bool.and_true, Int.le_refl, cond_true]
  cases allR es 0 es.length <;> rfl
theorem eFine : Enters Try.prog 120 := (runP_sound ok33a (qFine' true [] rfl)).1
theorem oFine (args : List PV) (d : DT PV) (r : PV) (h : cFine args = some d) (hr : d.run = some r) : PCall Try.prog 120 args r := by
  unfold cFine at h; split at h
  · rename_i f es; cases h; obtain ⟨h1, rfl⟩ := run_br hr; exact (runP_sound ok33a (qFine' f es h1)).2
  · cases h
/-- Closed. -/
def cls (es : List PV) : Bool := decide ((es.length : Int) ≥ 4) && ((qX es 0 == qX es ((es.length : Int) - 1)) && ((qY es 0 == qY es ((es.length : Int) - 1)) && true))
def clsT (es : List PV) (c : Bool) : Option PV := bif c then bif inr es 0 then bif inr es (W ((es.length : Int) - 1)) then some (bv ((qX es 0 == qX es (W ((es.length : Int) - 1))) && ((qY es 0 == qY es (W ((es.length : Int) - 1))) && true))) else none else none else some (bv false)
theorem qRCls (f : Bool) (es : List PV) : runP Try.prog E32 60 144 [.lst f 23 es] = clsT es (decide ((es.length : Int) ≥ 4)) := by kernel_rfl
theorem qCls (f : Bool) (es : List PV) : runP Try.prog E32 60 115 [.lst f 23 es] = clsT es (decide ((es.length : Int) > 3)) := by kernel_rfl
theorem clsT_eq (es : List PV) (h : big es = true) : clsT es (decide ((es.length : Int) ≥ 4)) = some (bv (cls es)) := by
  simp only [decide_eq_true_eq] at h
  unfold clsT cls
  by_cases h4 : (es.length : Int) ≥ 4
  · rw [decide_eq_true h4, inr_of (by omega) (by omega), W_id (by omega) (by omega), inr_of (by omega) (by omega)]; rfl
  · rw [decide_eq_false h4]; rfl
def cCls : List PV → Option (DT PV) | [.lst _ 23 es] => some (.br (big es) (.leaf (bv (cls es))) .no) | _ => none
theorem eRCls : Enters Try.prog 144 := (runP_sound ok32 ((qRCls true []).trans (clsT_eq [] rfl))).1
theorem oRCls (args : List PV) (d : DT PV) (r : PV) (h : cCls args = some d) (hr : d.run = some r) : PCall Try.prog 144 args r := by
  unfold cCls at h; split at h
  · rename_i f es; cases h; obtain ⟨h1, rfl⟩ := run_br hr; exact (runP_sound ok32 ((qRCls f es).trans (clsT_eq es h1))).2
  · cases h
theorem qCls' (f : Bool) (es : List PV) (h : big es = true) : runP Try.prog E32 60 115 [.lst f 23 es] = some (bv (cls es)) := by
  rw [qCls, show decide ((es.length : Int) > 3) = decide ((es.length : Int) ≥ 4) by rw [decide_eq_decide]; omega]; exact clsT_eq es h
theorem eCls : Enters Try.prog 115 := (runP_sound ok32 (qCls' true [] rfl)).1
theorem oCls (args : List PV) (d : DT PV) (r : PV) (h : cCls args = some d) (hr : d.run = some r) : PCall Try.prog 115 args r := by
  unfold cCls at h; split at h
  · rename_i f es; cases h; obtain ⟨h1, rfl⟩ := run_br hr; exact (runP_sound ok32 (qCls' f es h1)).2
  · cases h
noncomputable def E33b : EnvK := ((E32.addF 120 cFine).addF 144 cCls).addF 115 cCls
theorem ok33b : EnvOK Try.prog E33b.env := ((ok32.addF eFine oFine).addF eRCls oRCls).addF eCls oCls
end Go.Hg
/- Geometry: line.right; the reference's Check of a line. -/
namespace Go.Hg
open Go.Hx Go.Proofs
/-- The first point that is not right, from i on. -/
def fstW (es : List PV) (i : Int) : Nat → Int
  | 0 => i
  | n + 1 => bif right (qX es i) (qY es i) then fstW es (i + 1) n else i
theorem fstW_ge (es : List PV) : ∀ (n : Nat) (i : Int), i ≤ fstW es i n
  | 0, i => by simp [fstW]
  | n + 1, i => by
    have := fstW_ge es n (i + 1)
    simp only [fstW]
    cases right (qX es i) (qY es i) <;> simp only [cond_true, cond_false] <;> omega
abbrev fnR : PV := .fn (.func 151) [] []
def shI : S1 := ⟨19, [(0, .lst 23), (1, .fn 151 [] []), (7, I64), (8, I64)], []⟩
theorem qI (f : Bool) (es : List PV) (l i : Int) : runB Try.prog E33b 60 153 (lpb Try.f153 2) [0, 1, 7, 8] [4] (shI.put ([.l f es, .i l, .i i], [])).1 (shI.put ([.l f es, .i l, .i i], [])).2 =
  bif decide (i < l) then bif inr es i then bif !right (qX es i) (qY es i) then some (.ret, tm 19 [(4, iv i)], []) else some (.normal, shI.put ([.l f es, .i l, .i (W (i + 1))], [])) else none
    else some (.exit 0, tm 19 [], []) := by kernel_rfl
def pI : LS → Bool
  | ([.l _ es, .i l, .i i], []) => decide (0 ≤ i) && decide (i ≤ (es.length : Int)) && decide (l = (es.length : Int)) && big es
  | _ => false
def fI : LS → DT (PX × List PV × List Row)
  | ([.l _ es, .i _, .i i], []) => .br (allR es i ((es.length : Int) - i).toNat) (.leaf (.exit 0, tm 19 [], [])) (.leaf (.ret, tm 19 [(4, iv (fstW es i ((es.length : Int) - i).toNat))], []))
  | _ => .no
def mI : LS → Nat
  | ([.l _ es, .i _, .i i], []) => ((es.length : Int) - i).toNat
  | _ => 0
theorem sI : ∀ s r, pI s = true → (fI s).run = some r → r.1 ≠ .normal ∧ (runB Try.prog E33b 60 153 (lpb Try.f153 2) [0, 1, 7, 8] [4] (shI.put s).1 (shI.put s).2 = some r ∨
      ∃ s', runB Try.prog E33b 60 153 (lpb Try.f153 2) [0, 1, 7, 8] [4] (shI.put s).1 (shI.put s).2 = some (.normal, shI.put s') ∧ pI s' = true ∧ mI s' < mI s ∧ (fI s').run = some r) := by
  intro s r hp hr
  unfold pI at hp; split at hp
  · rename_i f es l i
    simp only [Bool.and_eq_true, decide_eq_true_eq] at hp
    obtain ⟨⟨⟨h1, h2⟩, hl⟩, h3⟩ := hp
    have hr' := run_br2 hr
    refine ⟨by rw [hr']; cases allR es i ((es.length : Int) - i).toNat <;> simp, ?_⟩
    rw [qI]
    by_cases hi : i < (es.length : Int)
    · rw [hl, decide_eq_true hi, cond_true, inr_of h1 hi, cond_true]
      obtain ⟨n, hn⟩ : ∃ n, ((es.length : Int) - i).toNat = n + 1 := ⟨((es.length : Int) - i).toNat - 1, by omega⟩
      rw [hn] at hr'
      simp only [allR, fstW] at hr'
      cases hR : right (qX es i) (qY es i) with
      | false => rw [hR] at hr'; exact .inl (by rw [hr']; rfl)
      | true =>
        rw [hR] at hr'
        refine .inr ⟨([.l f es, .i l, .i (i + 1)], []), by rw [W_id (by omega) (by omega), hl]; rfl, by simp [pI]; omega, by simp only [mI]; omega, ?_⟩
        rw [hr']
        simp only [fI]
        rw [show ((es.length : Int) - (i + 1)).toNat = n by omega]
        cases allR es (i + 1) n <;> rfl
    · rw [hl, decide_eq_false hi]
      rw [show ((es.length : Int) - i).toNat = 0 by omega] at hr'
      exact .inl (by rw [hr']; rfl)
  · cases hp
noncomputable def E33c : EnvK := E33b.addW 153 2 [0, 1, 7, 8] [] shI pI fI
theorem ok33c : EnvOK Try.prog E33c.env :=
  ok33b.addW (n := 60) Try.func153 (show Try.f153.body = some (bod Try.f153) by kernel_rfl) (show (loops (bod Try.f153)).filter (fun b => rid b == 2) = [lpb Try.f153 2] by kernel_rfl) [0, 1, 7, 8] [4] [] shI mI sI
theorem qLR (f : Bool) (es : List PV) : runP Try.prog E33c 60 118 [.lst f 23 es] =
  bif decide (0 ≤ (0 : Int)) && decide ((0 : Int) ≤ (es.length : Int)) && decide ((es.length : Int) = (es.length : Int)) && big es then bif allR es 0 ((es.length : Int) - 0).toNat then some (bv true) else some (bv (!decide (fstW es 0 ((es.length : Int) - 0).toNat ≥ 0))) else none := by kernel_rfl
theorem qLR' (f : Bool) (es : List PV) (h : big es = true) : runP Try.prog E33c 60 118 [.lst f 23 es] = some (bv (fin es)) := by
  rw [qLR, h]
  rw [show ((es.length : Int) - 0).toNat = es.length by omega]
  unfold fin
  have := fstW_ge es es.length 0
  simp only [Int.natCast_nonneg, decide_true, Bool.and_true, Int.le_refl, cond_true]
  cases allR es 0 es.length
  · rw [decide_eq_true (show fstW es 0 es.length ≥ 0 by omega)]; rfl
  · rfl
theorem eLR : Enters Try.prog 118 := (runP_sound ok33c (qLR' true [] rfl)).1
theorem oLR (args : List PV) (d : DT PV) (r : PV) (h : cFine args = some d) (hr : d.run = some r) : PCall Try.prog 118 args r := by
  unfold cFine at h; split at h
  · rename_i f es; cases h; obtain ⟨h1, rfl⟩ := run_br hr; exact (runP_sound ok33c (qLR' f es h1)).2
  · cases h
noncomputable def E33 : EnvK := E33b.addF 118 cFine
theorem ok33 : EnvOK Try.prog E33.env := ok33b.addF eLR oLR
/-- Meet of the segments at i and k. -/
def mq (es : List PV) (k i : Int) : Int := mt (qX es k) (qY es k) (qX es (k + 1)) (qY es (k + 1)) (qX es i) (qY es i) (qX es (i + 1)) (qY es (i + 1))
def mqW (es : List PV) (k i : Int) : Int := mt (qX es k) (qY es k) (qX es (W (k + 1))) (qY es (W (k + 1))) (qX es i) (qY es i) (qX es (W (i + 1))) (qY es (W (i + 1)))
def want (es : List PV) (la i k : Int) : Int := bif k + 1 == i then 1 else bif cls es && (k == 0) && (i == la) then 1 else 0
/-- The pairs of segment i with k, k + 1, .. are as they should be. -/
def allP (es : List PV) (la i k : Int) : Nat → Bool
  | 0 => true
  | n + 1 => (mq es k i == want es la i k) && allP es la i (k + 1) n
def eqq (es : List PV) (i j : Int) : Bool := (qX es i == qX es j) && ((qY es i == qY es j) && true)
def allI (es : List PV) (la i : Int) : Nat → Bool
  | 0 => true
  | n + 1 => !eqq es i (i + 1) && (allP es la i 0 i.toNat && allI es la (i + 1) n)
def shK : S1 := ⟨79, [(0, .lst 23), (3, I64), (4, I64), (5, I64)], []⟩
abbrev tK0 (f : Bool) (es : List PV) (la i : Int) : List PV := tm 79 [(0, .lst f 23 es), (3, iv la), (4, iv i)]
abbrev tK1 (f : Bool) (es : List PV) (la i : Int) : List PV := tm 79 [(0, .lst f 23 es), (2, iv 11), (3, iv la), (4, iv i)]
def pairT2 (f : Bool) (es : List PV) (la i k w : Int) : Option (PX × List PV × List Row) :=
  bif inr es k then bif inr es (W (k + 1)) then bif inr es i then bif inr es (W (i + 1)) then
    bif mqW es k i != w then some (.ret, tK1 f es la i, []) else some (.normal, shK.put ([.l f es, .i la, .i i, .i (W (k + 1))], [])) else none else none else none else none
theorem qK (f : Bool) (es : List PV) (la i k : Int) : runB Try.prog E33 60 103 (lpb Try.f103 12) [0, 3, 4, 5] [0, 2, 3, 4] (shK.put ([.l f es, .i la, .i i, .i k], [])).1 (shK.put ([.l f es, .i la, .i i, .i k], [])).2 =
  bif decide (k < i) then bif W (k + 1) == i then pairT2 f es la i k 1 else
    bif big es then bif cls es then bif k == 0 then bif i == la then pairT2 f es la i k 1 else pairT2 f es la i k 0 else pairT2 f es la i k 0 else pairT2 f es la i k 0 else none
  else some (.exit 2, tK0 f es la i, []) := by kernel_rfl
end Go.Hg
/- Geometry: the reference's Check of a line, of any length. -/
namespace Go.Hg
open Go.Hx Go.Proofs
def pK : LS → Bool
  | ([.l _ es, .i la, .i i, .i k], []) => decide (0 ≤ k) && decide (k ≤ i) && decide (i ≤ la) && decide (la + 2 = (es.length : Int)) && big es
  | _ => false
def fK : LS → DT (PX × List PV × List Row)
  | ([.l f es, .i la, .i i, .i k], []) => .br (allP es la i k (i - k).toNat) (.leaf (.exit 2, tK0 f es la i, [])) (.leaf (.ret, tK1 f es la i, []))
  | _ => .no
def mK : LS → Nat
  | ([.l _ _, .i _, .i i, .i k], []) => (i - k).toNat
  | _ => 0
theorem pairT2_eq {f : Bool} {es : List PV} {la i k : Int} (w : Int) (h0 : 0 ≤ k) (h1 : k < i) (h2 : i ≤ la) (h3 : la + 2 = (es.length : Int)) (hb : es.length ≤ 1000000) :
    pairT2 f es la i k w = bif mq es k i == w then some (.normal, shK.put ([.l f es, .i la, .i i, .i (k + 1)], [])) else some (.ret, tK1 f es la i, []) := by
  unfold pairT2 mqW
  rw [W_id (n := k + 1) (by omega) (by omega), W_id (n := i + 1) (by omega) (by omega), inr_of (by omega) (by omega), inr_of (by omega) (by omega), inr_of (by omega) (by omega), inr_of (by omega) (by omega)]
  show (bif mq es k i != w then _ else _) = _
  unfold bne
  cases mq es k i == w <;> rfl
theorem sK : ∀ s r, pK s = true → (fK s).run = some r → r.1 ≠ .normal ∧ (runB Try.prog E33 60 103 (lpb Try.f103 12) [0, 3, 4, 5] [0, 2, 3, 4] (shK.put s).1 (shK.put s).2 = some r ∨
      ∃ s', runB Try.prog E33 60 103 (lpb Try.f103 12) [0, 3, 4, 5] [0, 2, 3, 4] (shK.put s).1 (shK.put s).2 = some (.normal, shK.put s') ∧ pK s' = true ∧ mK s' < mK s ∧ (fK s').run = some r) := by
  intro s r hp hr
  unfold pK at hp; split at hp
  · rename_i f es la i k
    simp only [Bool.and_eq_true, decide_eq_true_eq] at hp
    obtain ⟨⟨⟨⟨h1, h2⟩, h3⟩, h4⟩, h5⟩ := hp
    have hr' := run_br2 hr
    refine ⟨by rw [hr']; cases allP es la i k (i - k).toNat <;> simp, ?_⟩
    rw [qK]
    by_cases hi : k < i
    · rw [decide_eq_true hi, cond_true, W_id (n := k + 1) (by omega) (by omega), show big es = true by simp [big]; omega, cond_true]
      rw [pairT2_eq 1 h1 hi h3 h4 h5, pairT2_eq 0 h1 hi h3 h4 h5]
      obtain ⟨n, hn⟩ : ∃ n, (i - k).toNat = n + 1 := ⟨(i - k).toNat - 1, by omega⟩
      rw [hn] at hr'
      simp only [allP] at hr'
      have key : (bif k + 1 == i then (bif mq es k i == 1 then some (PX.normal, shK.put ([.l f es, .i la, .i i, .i (k + 1)], [])) else some (PX.ret, tK1 f es la i, [])) else bif cls es then bif k == 0 then bif i == la then (bif mq es k i == 1 then some (PX.normal, shK.put ([.l f es, .i la, .i i, .i (k + 1)], [])) else some (PX.ret, tK1 f es la i, [])) else (bif mq es k i == 0 then some (PX.normal, shK.put ([.l f es, .i la, .i i, .i (k + 1)], [])) else some (PX.ret, tK1 f es la i, [])) else (bif mq es k i == 0 then some (PX.normal, shK.put ([.l f es, .i la, .i i, .i (k + 1)], [])) else some (PX.ret, tK1 f es la i, [])) else (bif mq es k i == 0 then some (PX.normal, shK.put ([.l f es, .i la, .i i, .i (k + 1)], [])) else some (PX.ret, tK1 f es la i, [])))
          = bif mq es k i == want es la i k then some (PX.normal, shK.put ([.l f es, .i la, .i i, .i (k + 1)], [])) else some (PX.ret, tK1 f es la i, []) := by
        unfold want
        cases k + 1 == i <;> cases cls es <;> cases k == 0 <;> cases i == la <;> rfl
      rw [key]
      cases hR : mq es k i == want es la i k with
      | false => rw [hR] at hr'; exact .inl (by rw [hr']; rfl)
      | true =>
        rw [hR] at hr'
        refine .inr ⟨([.l f es, .i la, .i i, .i (k + 1)], []), rfl, by simp [pK]; omega, by simp only [mK]; omega, ?_⟩
        rw [hr']
        simp only [fK]
        rw [show (i - (k + 1)).toNat = n by omega]
        cases allP es la i (k + 1) n <;> rfl
    · rw [decide_eq_false hi]
      rw [show (i - k).toNat = 0 by omega] at hr'
      exact .inl (by rw [hr']; rfl)
  · cases hp
noncomputable def E33k : EnvK := E33.addW 103 12 [0, 3, 4, 5] [] shK pK fK
theorem ok33k : EnvOK Try.prog E33k.env :=
  ok33.addW (n := 60) Try.func103 (show Try.f103.body = some (bod Try.f103) by kernel_rfl) (show (loops (bod Try.f103)).filter (fun b => rid b == 12) = [lpb Try.f103 12] by kernel_rfl) [0, 3, 4, 5] [0, 2, 3, 4] [] shK mK sK
def shJ : S1 := ⟨79, [(0, .lst 23), (3, I64), (4, I64)], []⟩
abbrev tJ0 (f : Bool) (es : List PV) (la : Int) : List PV := tm 79 [(0, .lst f 23 es), (3, iv la)]
abbrev tJ1 (f : Bool) (es : List PV) (la : Int) : List PV := tm 79 [(0, .lst f 23 es), (2, iv 11), (3, iv la)]
def eqqW (es : List PV) (i : Int) : Bool := (qX es i == qX es (W (i + 1))) && ((qY es i == qY es (W (i + 1))) && true)
theorem qJ (f : Bool) (es : List PV) (la i : Int) : runB Try.prog E33k 60 103 (lpb Try.f103 7) [0, 3, 4] [0, 2, 3] (shJ.put ([.l f es, .i la, .i i], [])).1 (shJ.put ([.l f es, .i la, .i i], [])).2 =
  bif decide (i ≤ la) then bif inr es i then bif inr es (W (i + 1)) then
    bif eqqW es i then some (.ret, tJ1 f es la, [])
    else bif pK ([.l f es, .i la, .i i, .i 0], []) then bif allP es la i 0 (i - 0).toNat then some (.normal, shJ.put ([.l f es, .i la, .i (W (i + 1))], [])) else some (.ret, tJ1 f es la, []) else none
    else none else none
  else some (.exit 0, tJ0 f es la, []) := by kernel_rfl
def pJ : LS → Bool
  | ([.l _ es, .i la, .i i], []) => decide (0 ≤ i) && decide (i ≤ la + 1) && decide (la + 2 = (es.length : Int)) && big es
  | _ => false
def fJ : LS → DT (PX × List PV × List Row)
  | ([.l f es, .i la, .i i], []) => .br (allI es la i (la + 1 - i).toNat) (.leaf (.exit 0, tJ0 f es la, [])) (.leaf (.ret, tJ1 f es la, []))
  | _ => .no
def mJ : LS → Nat
  | ([.l _ _, .i la, .i i], []) => (la + 1 - i).toNat
  | _ => 0
theorem sJ : ∀ s r, pJ s = true → (fJ s).run = some r → r.1 ≠ .normal ∧ (runB Try.prog E33k 60 103 (lpb Try.f103 7) [0, 3, 4] [0, 2, 3] (shJ.put s).1 (shJ.put s).2 = some r ∨
      ∃ s', runB Try.prog E33k 60 103 (lpb Try.f103 7) [0, 3, 4] [0, 2, 3] (shJ.put s).1 (shJ.put s).2 = some (.normal, shJ.put s') ∧ pJ s' = true ∧ mJ s' < mJ s ∧ (fJ s').run = some r) := by
  intro s r hp hr
  unfold pJ at hp; split at hp
  · rename_i f es la i
    simp only [Bool.and_eq_true, decide_eq_true_eq] at hp
    obtain ⟨⟨⟨h1, h2⟩, h4⟩, h5⟩ := hp
    have hr' := run_br2 hr
    refine ⟨by rw [hr']; cases allI es la i (la + 1 - i).toNat <;> simp, ?_⟩
    rw [qJ]
    by_cases hi : i ≤ la
    · have hw := W_id (n := i + 1) (by omega) (by omega)
      have he : eqqW es i = eqq es i (i + 1) := by unfold eqqW eqq; rw [hw]
      rw [decide_eq_true hi, cond_true, hw, inr_of (by omega) (by omega), inr_of (by omega) (by omega), he, show pK ([.l f es, .i la, .i i, .i 0], []) = true by simp [pK]; omega]
      obtain ⟨n, hn⟩ : ∃ n, (la + 1 - i).toNat = n + 1 := ⟨(la + 1 - i).toNat - 1, by omega⟩
      rw [hn] at hr'
      simp only [allI] at hr'
      simp only [cond_true, Int.sub_zero]
      cases hE : eqq es i (i + 1) with
      | true => rw [hE] at hr'; exact .inl (by rw [hr']; rfl)
      | false =>
        rw [hE] at hr'
        cases hR : allP es la i 0 i.toNat with
        | false => rw [hR] at hr'; exact .inl (by rw [hr']; rfl)
        | true =>
          rw [hR] at hr'
          refine .inr ⟨([.l f es, .i la, .i (i + 1)], []), rfl, by simp [pJ]; omega, by simp only [mJ]; omega, ?_⟩
          rw [hr']
          simp only [fJ]
          rw [show (la + 1 - (i + 1)).toNat = n by omega]
          cases allI es la (i + 1) n <;> rfl
    · rw [decide_eq_false hi]
      rw [show (la + 1 - i).toNat = 0 by omega] at hr'
      exact .inl (by rw [hr']; rfl)
  · cases hp
noncomputable def E33j : EnvK := E33k.addW 103 7 [0, 3, 4] [] shJ pJ fJ
theorem ok33j : EnvOK Try.prog E33j.env :=
  ok33k.addW (n := 60) Try.func103 (show Try.f103.body = some (bod Try.f103) by kernel_rfl) (show (loops (bod Try.f103)).filter (fun b => rid b == 7) = [lpb Try.f103 7] by kernel_rfl) [0, 3, 4] [0, 2, 3] [] shJ mJ sJ
/-- P5.1. -/
def chk (es : List PV) : Int := bif decide ((es.length : Int) < 2) || decide ((es.length : Int) > 40) then 2 else bif fin es then bif allI es ((es.length : Int) - 2) 0 (es.length - 1) then 0 else 11 else 10
def chkR (es : List PV) : Option PV := bif big es then bif !fin es then some (iv 10) else bif pJ ([.l true es, .i (W ((es.length : Int) - 2)), .i 0], []) then bif allI es (W ((es.length : Int) - 2)) 0 (W ((es.length : Int) - 2) + 1 - 0).toNat then some (iv 0) else some (iv 11) else none else none
theorem qRChk (f : Bool) (es : List PV) : runP Try.prog E33j 60 103 [.lst f 23 es] =
  bif decide ((es.length : Int) < 2) then some (iv 2) else bif decide ((es.length : Int) > 40) then some (iv 2) else chkR es := by kernel_rfl
theorem chk_tree (es : List PV) : (bif decide ((es.length : Int) < 2) then some (iv 2) else bif decide ((es.length : Int) > 40) then some (iv 2) else chkR es) = some (iv (chk es)) := by
  unfold chk
  by_cases h1 : (es.length : Int) < 2
  · rw [decide_eq_true h1]; rfl
  · by_cases h2 : (es.length : Int) > 40
    · rw [decide_eq_false h1, decide_eq_true h2]; rfl
    · rw [decide_eq_false h1, decide_eq_false h2]
      have hw := W_id (n := (es.length : Int) - 2) (by omega) (by omega)
      unfold chkR
      rw [hw, show big es = true by simp [big]; omega, show pJ ([.l true es, .i ((es.length : Int) - 2), .i 0], []) = true by simp [pJ]; omega, show ((es.length : Int) - 2 + 1 - 0).toNat = es.length - 1 by omega]
      cases fin es <;> cases allI es ((es.length : Int) - 2) 0 (es.length - 1) <;> rfl
def cChk : List PV → Option PV | [.lst _ 23 es] => some (iv (chk es)) | _ => none
theorem oRChk (args : List PV) (r : PV) (h : cChk args = some r) : Enters Try.prog 103 ∧ PCall Try.prog 103 args r := by
  unfold cChk at h; split at h
  · rename_i f es; cases h; exact runP_sound ok33j ((qRChk f es).trans (chk_tree es))
  · cases h
end Go.Hg
/- Geometry: line.Check of any length: its inner loop. -/
namespace Go.Hg
open Go.Hx Go.Proofs
noncomputable def E34 : EnvK := ((E33.addO 103 cChk).addV 102 7 [1, 3, 4, 25]).addV 102 12 [1, 3, 4, 5, 6, 37]
theorem ok34 : EnvOK Try.prog E34.env := ((ok33.addO oRChk).addV 102 7 [1, 3, 4, 25]).addV 102 12 [1, 3, 4, 5, 6, 37]
abbrev sgf (i : Nat) : PV := .fn (.func 152) [] [.ptr i 1 0 0]
noncomputable def lrO (st : LSt) : Row := lrow 102 Try.f102 7 (tm 63 [(1, .ptr 0 1 0 0), (3, .ptr 1 1 0 0), (4, .ptr 2 1 0 0), (25, sgf 3)]) st
noncomputable def lrI (st : LSt) : Row := lrow 102 Try.f102 12 (tm 63 [(1, .ptr 0 1 0 0), (3, .ptr 1 1 0 0), (4, .ptr 2 1 0 0), (5, .ptr 5 1 0 0), (6, .ptr 6 1 0 0), (37, sgf 7)]) st
def shC : S1 := ⟨25, [(0, .yld 8), (1, .ptr 7 1 0 0), (3, I64)], [.one 53 1 (.lst 23), .one 66 1 I64, .one 3 1 I64, .one 53 1 (.lst 23), .raw, .one 3 1 I64, .one 135 4 (.agg [I64, I64, I64, I64]), .one 53 1 (.lst 23), .raw]⟩
abbrev lC (f : Bool) (es : List PV) (er cl : Int) (f3 : Bool) (es3 : List PV) (r4 : Row) (i a b c d : Int) (f2 : Bool) (es2 : List PV) (r8 : Row) (k : Int) : LS := ([.i k], [.l f es, .i er, .i cl, .l f3 es3, .r r4, .i i, .i a, .i b, .i c, .i d, .l f2 es2, .r r8])
noncomputable abbrev hC (f : Bool) (es : List PV) (er cl : Int) (f3 : Bool) (es3 : List PV) (i a b c d : Int) (f2 : Bool) (es2 : List PV) (r8 : Row) : List Row := (shC.put (lC f es er cl f3 es3 (lrO .busy) i a b c d f2 es2 r8 0)).2
def mqs (a b c d : Int) (es : List PV) (k l : Int) : Int := mt a b c d (qX es k) (qY es k) (qX es l) (qY es l)
noncomputable def pairC (f : Bool) (es : List PV) (er cl : Int) (f3 : Bool) (es3 : List PV) (i a b c d : Int) (f2 : Bool) (es2 : List PV) (k w : Int) : Option (PX × List PV × List Row) :=
  bif mqs a b c d es2 k (W (k + 1)) != w then some (.ret, tm 25 [], hC f es 11 cl f3 es3 i a b c d f2 es2 (lrI (.done (.exit 0)))) else some (.normal, shC.put (lC f es er cl f3 es3 (lrO .busy) i a b c d f2 es2 (lrI .ready) (W (k + 1))))
theorem qC (f : Bool) (es : List PV) (er cl : Int) (f3 : Bool) (es3 : List PV) (i a b c d : Int) (f2 : Bool) (es2 : List PV) (k : Int) : runB Try.prog E34 60 152 (lpb Try.f152 1) [0, 1, 3] [] (shC.put (lC f es er cl f3 es3 (lrO .busy) i a b c d f2 es2 (lrI .ready) k)).1 (shC.put (lC f es er cl f3 es3 (lrO .busy) i a b c d f2 es2 (lrI .ready) k)).2 =
  bif decide (W (k + 1) < (es2.length : Int)) then bif inr es2 k then bif inr es2 (W (k + 1)) then
    bif i == W (k + 1) then pairC f es er cl f3 es3 i a b c d f2 es2 k 1 else bif k == 0 then bif i == cl then bif big es then bif cls es then pairC f es er cl f3 es3 i a b c d f2 es2 k 1 else pairC f es er cl f3 es3 i a b c d f2 es2 k 0 else none else pairC f es er cl f3 es3 i a b c d f2 es2 k 0 else pairC f es er cl f3 es3 i a b c d f2 es2 k 0
  else none else none else some (.exit 0, tm 25 [], hC f es er cl f3 es3 i a b c d f2 es2 (lrI .ready)) := by kernel_rfl
end Go.Hg
/- Geometry: line.Check of any length. -/
namespace Go.Hg
open Go.Hx Go.Proofs
def wantC (es : List PV) (cl i k : Int) : Int := bif i == k + 1 then 1 else bif (k == 0) && ((i == cl) && cls es) then 1 else 0
def allC (es : List PV) (cl i a b c d : Int) (es2 : List PV) (k : Int) : Nat → Bool
  | 0 => true
  | n + 1 => (mqs a b c d es2 k (k + 1) == wantC es cl i k) && allC es cl i a b c d es2 (k + 1) n
noncomputable def pC : LS → Bool
  | ([.i k], [.l _ es, .i _, .i _, .l _ _, .r r4, .i _, .i _, .i _, .i _, .i _, .l _ es2, .r r8]) => decide (0 ≤ k) && decide (k + 1 ≤ (es2.length : Int)) && big es && big es2 && (same r4 (lrO .busy) && same r8 (lrI .ready))
  | _ => false
noncomputable def fC : LS → DT (PX × List PV × List Row)
  | ([.i k], [.l f es, .i er, .i cl, .l f3 es3, .r _, .i i, .i a, .i b, .i c, .i d, .l f2 es2, .r _]) => .br (allC es cl i a b c d es2 k ((es2.length : Int) - (k + 1)).toNat)
      (.leaf (.exit 0, tm 25 [], hC f es er cl f3 es3 i a b c d f2 es2 (lrI .ready))) (.leaf (.ret, tm 25 [], hC f es 11 cl f3 es3 i a b c d f2 es2 (lrI (.done (.exit 0)))))
  | _ => .no
def mC : LS → Nat
  | ([.i k], [.l _ _, .i _, .i _, .l _ _, .r _, .i _, .i _, .i _, .i _, .i _, .l _ es2, .r _]) => ((es2.length : Int) - (k + 1)).toNat
  | _ => 0
theorem pairC_eq {f : Bool} {es : List PV} {er cl : Int} {f3 : Bool} {es3 : List PV} {i a b c d : Int} {f2 : Bool} {es2 : List PV} {k w : Int} (hw : W (k + 1) = k + 1) : pairC f es er cl f3 es3 i a b c d f2 es2 k w =
    bif mqs a b c d es2 k (k + 1) == w then some (.normal, shC.put (lC f es er cl f3 es3 (lrO .busy) i a b c d f2 es2 (lrI .ready) (k + 1))) else some (.ret, tm 25 [], hC f es 11 cl f3 es3 i a b c d f2 es2 (lrI (.done (.exit 0)))) := by
  unfold pairC; rw [hw]; unfold bne
  cases mqs a b c d es2 k (k + 1) == w <;> rfl
theorem sC : ∀ s r, pC s = true → (fC s).run = some r → r.1 ≠ .normal ∧ (runB Try.prog E34 60 152 (lpb Try.f152 1) [0, 1, 3] [] (shC.put s).1 (shC.put s).2 = some r ∨
      ∃ s', runB Try.prog E34 60 152 (lpb Try.f152 1) [0, 1, 3] [] (shC.put s).1 (shC.put s).2 = some (.normal, shC.put s') ∧ pC s' = true ∧ mC s' < mC s ∧ (fC s').run = some r) := by
  intro s r hp hr
  unfold pC at hp; split at hp
  · rename_i k f es er cl f3 es3 r4 i a b c d f2 es2 r8
    simp only [Bool.and_eq_true, decide_eq_true_eq, same_iff] at hp
    obtain ⟨⟨⟨⟨h1, h2⟩, h3⟩, h4⟩, rfl, rfl⟩ := hp
    have hr' := run_br2 hr
    refine ⟨by rw [hr']; cases allC es cl i a b c d es2 k ((es2.length : Int) - (k + 1)).toNat <;> simp, ?_⟩
    rw [qC]
    have hw := W_id (n := k + 1) (by omega) (by omega)
    rw [hw]
    by_cases hi : k + 1 < (es2.length : Int)
    · rw [decide_eq_true hi, cond_true, inr_of h1 (by omega), inr_of (by omega) hi, show big es = true by simp [big]; omega, pairC_eq hw, pairC_eq hw]
      obtain ⟨n, hn⟩ : ∃ n, ((es2.length : Int) - (k + 1)).toNat = n + 1 := ⟨((es2.length : Int) - (k + 1)).toNat - 1, by omega⟩
      rw [hn] at hr'
      simp only [allC] at hr'
      generalize hX : (some (PX.normal, shC.put (lC f es er cl f3 es3 (lrO .busy) i a b c d f2 es2 (lrI .ready) (k + 1))) : Option (PX × List PV × List Row)) = X
      generalize hY : (some (PX.ret, tm 25 [], hC f es 11 cl f3 es3 i a b c d f2 es2 (lrI (.done (.exit 0)))) : Option (PX × List PV × List Row)) = Y
      have key : (bif true then bif true then bif i == k + 1 then (bif mqs a b c d es2 k (k + 1) == 1 then X else Y) else bif k == 0 then bif i == cl then bif true then bif cls es then (bif mqs a b c d es2 k (k + 1) == 1 then X else Y) else (bif mqs a b c d es2 k (k + 1) == 0 then X else Y) else none else (bif mqs a b c d es2 k (k + 1) == 0 then X else Y) else (bif mqs a b c d es2 k (k + 1) == 0 then X else Y) else none else none)
          = bif mqs a b c d es2 k (k + 1) == wantC es cl i k then X else Y := by
        unfold wantC
        cases i == k + 1 <;> cases cls es <;> cases k == 0 <;> cases i == cl <;> rfl
      rw [key]
      cases hR : mqs a b c d es2 k (k + 1) == wantC es cl i k with
      | false => rw [hR] at hr'; exact .inl (by rw [cond_false, ← hY, hr']; rfl)
      | true =>
        rw [hR] at hr'
        refine .inr ⟨lC f es er cl f3 es3 (lrO .busy) i a b c d f2 es2 (lrI .ready) (k + 1), by rw [cond_true, ← hX], by simp [pC, same_self]; omega, by simp only [mC]; omega, ?_⟩
        rw [hr']
        simp only [fC]
        rw [show ((es2.length : Int) - (k + 1 + 1)).toNat = n by omega]
        cases allC es cl i a b c d es2 (k + 1) n <;> rfl
    · rw [decide_eq_false hi]
      rw [show ((es2.length : Int) - (k + 1)).toNat = 0 by omega] at hr'
      exact .inl (by rw [hr']; rfl)
  · cases hp
noncomputable def E34a : EnvK := E34.addW 152 1 [0, 1, 3] [] shC pC fC
theorem ok34a : EnvOK Try.prog E34a.env :=
  ok34.addW (n := 60) Try.func152 (show Try.f152.body = some (bod Try.f152) by kernel_rfl) (show (loops (bod Try.f152)).filter (fun b => rid b == 1) = [lpb Try.f152 1] by kernel_rfl) [0, 1, 3] [] [] shC mC sC
def shD : S1 := ⟨25, [(0, .yld 4), (1, .ptr 3 1 0 0), (3, I64)], [.one 53 1 (.lst 23), .one 66 1 I64, .one 3 1 I64, .one 53 1 (.lst 23), .raw]⟩
abbrev lD (f : Bool) (es : List PV) (er cl : Int) (f3 : Bool) (es3 : List PV) (r4 : Row) (i : Int) : LS := ([.i i], [.l f es, .i er, .i cl, .l f3 es3, .r r4])
noncomputable abbrev hD (f : Bool) (es : List PV) (er cl : Int) (f3 : Bool) (es3 : List PV) (r4 : Row) : List Row := (shD.put (lD f es er cl f3 es3 r4 0)).2
def eqe (es : List PV) (i j : Int) : Bool := (qX es i == qX es j) && ((qY es i == qY es j) && true)
noncomputable def retD (f : Bool) (es : List PV) (cl : Int) (f3 : Bool) (es3 : List PV) : Option (PX × List PV × List Row) := some (.ret, tm 25 [], hD f es 11 cl f3 es3 (lrO (.done (.exit 0))))
theorem qD (f : Bool) (es : List PV) (er cl : Int) (f3 : Bool) (es3 : List PV) (i : Int) : runB Try.prog E34a 60 152 (lpb Try.f152 1) [0, 1, 3] [] (shD.put (lD f es er cl f3 es3 (lrO .ready) i)).1 (shD.put (lD f es er cl f3 es3 (lrO .ready) i)).2 =
  bif decide (W (i + 1) < (es3.length : Int)) then bif inr es3 i then bif inr es3 (W (i + 1)) then
    bif eqe es3 i (W (i + 1)) then retD f es cl f3 es3
    else bif decide ((0 : Int) ≤ 0) && decide ((0 : Int) ≤ W (i + 1)) && decide (W (i + 1) ≤ (es.length : Int)) then
      bif pC (lC f es er cl f3 es3 (lrO .busy) i (qX es3 i) (qY es3 i) (qX es3 (W (i + 1))) (qY es3 (W (i + 1))) false (es.take (W (i + 1)).toNat) (lrI .ready) 0) then
        bif allC es cl i (qX es3 i) (qY es3 i) (qX es3 (W (i + 1))) (qY es3 (W (i + 1))) (es.take (W (i + 1)).toNat) 0 (((es.take (W (i + 1)).toNat).length : Int) - (0 + 1)).toNat
        then some (.normal, shD.put (lD f es er cl f3 es3 (lrO .ready) (W (i + 1)))) else retD f es cl f3 es3
      else none
    else none
  else none else none else some (.exit 0, tm 25 [], hD f es er cl f3 es3 (lrO .ready)) := by kernel_rfl
end Go.Hg
/- Geometry: PointSides answers true. -/
namespace Go.Hg
open Go.Hx Go.Proofs
def sm (x : Int) : Int := x % 25 - 12
theorem sm_range (x : Int) : -12 ≤ sm x ∧ sm x ≤ 12 := by unfold sm; omega
def cSmall : List PV → Option PV | [.agg [.val (.int .i64 a), .val (.int .i64 b)]] => some (ptv (sm a) (sm b)) | _ => none
theorem oSmall (args : List PV) (r : PV) (h : cSmall args = some r) : Enters Try.prog 21 ∧ PCall Try.prog 21 args r := by
  unfold cSmall at h; split at h
  · rename_i a b; cases h
    have e : ∀ x : Int, W (x % 25 - 12) = sm x := fun x => W_id (by omega) (by omega)
    rw [← e a, ← e b]
    exact runP_sound ok19 (n := 60) (by kernel_rfl)
  · cases h
noncomputable def E21 : EnvK := E19.addO 21 cSmall
theorem ok21 : EnvOK Try.prog E21.env := ok19.addO oSmall
noncomputable def E22 : EnvK := (E21.addL 3 4 [1, 2, 5, 6, 7, 14, 15] (fun _ _ _ => none)).addL 3 12 [5, 49, 50, 51] (fun _ _ _ => none)
theorem noL {P : Program} {b : Code} : ∀ (ro : Nat) (S : List PV) (H : List Row) (d : DT (PX × List PV × List Row)) (x : PX) (S' : List PV) (H' : List Row), (none : Option (DT (PX × List PV × List Row))) = some d → d.run = some (x, S', H') → WpTo P (.loop b) ro S H x S' H' := fun _ _ _ _ _ _ _ h => by cases h
theorem ok22 : EnvOK Try.prog E22.env :=
  (ok21.addL Try.func3 (show Try.f3.body = some (bod Try.f3) by kernel_rfl) (show (loops (bod Try.f3)).filter (fun b => rid b == 4) = [lpb Try.f3 4] by kernel_rfl) (fun _ => noL)).addL
    Try.func3 (show Try.f3.body = some (bod Try.f3) by kernel_rfl) (show (loops (bod Try.f3)).filter (fun b => rid b == 12) = [lpb Try.f3 12] by kernel_rfl) (fun _ => noL)
def sid (a b c d e f g h : Int) (t : Option PV) : Option PV :=
  bif sd a b c d e f != sd a b c d e f then some (bv false) else bif !(onX a b c d e f == onX a b c d e f) then some (bv false) else bif mt a b c d e f g h != mt a b c d e f g h then some (bv false) else
  bif mt a b a b e f g h != mt a b a b e f g h then some (bv false) else bif mt a b c d c d g h != mt a b c d c d g h then some (bv false) else t
theorem sid_eq (a b c d e f g h : Int) (t : Option PV) : sid a b c d e f g h t = t := by unfold sid; simp
def gt3 (f x : Int) : Int := W (sm x * 2 ^ min (Int.tmod f 57).toNat 64)
def nd3 (f : Int) (t : Option PV) : Option PV := bif !decide (Int.tmod f 57 < 0) then t else none
theorem q3 (a b c d e f g h n : Int) : runP Try.prog E22 60 3 [.agg [iv a, iv b, iv c, iv d, iv e, iv f, iv g, iv h], .val (.int .u8 n)] =
  nd3 n (nd3 n (nd3 n (nd3 n (nd3 n (nd3 n (nd3 n (nd3 n
    (sid (sm a) (sm b) (sm c) (sm d) (sm e) (sm f) (sm g) (sm h)
    (sid (gt3 n a) (gt3 n b) (gt3 n c) (gt3 n d) (gt3 n e) (gt3 n f) (gt3 n g) (gt3 n h)
    (sid (gt3 n a) (gt3 n b) (gt3 n c) (gt3 n d) (gt3 n e) (gt3 n f) g h
    (sid a b c d e f g h (some (bv true))))))))))))) := by kernel_rfl
theorem law3 (a b c d e f g h : Int) {n : Int} (hn : 0 ≤ n ∧ n < 256) : Enters Try.prog 3 ∧ PCall Try.prog 3 [.agg [iv a, iv b, iv c, iv d, iv e, iv f, iv g, iv h], .val (.int .u8 n)] (bv true) := by
  refine runP_sound ok22 (n := 60) ?_
  have h1 := Int.tmod_nonneg 57 hn.1
  rw [q3]
  unfold nd3
  rw [show (!decide (Int.tmod n 57 < 0)) = true by simp; omega]
  simp only [sid_eq]
  rfl
end Go.Hg
/- Geometry: plain laws of Side, On and Meet: order, turns, moves. -/
namespace Go.Hg
open Go.Hx Go.Proofs
/-- Places in the order of points, as numbers. -/
def key (x y : Int) : Int := x * 4611686018427387904 + y
abbrev bd (a b : Int) : Prop := (-1152921504606846976 ≤ a ∧ a ≤ 1152921504606846976) ∧ (-1152921504606846976 ≤ b ∧ b ≤ 1152921504606846976)
theorem bd_iff {a b : Int} : bdd a b = true ↔ bd a b := inB2_iff
theorem key_lt {a b c d : Int} (h1 : bd a b) (h2 : bd c d) : (a < c ∨ a = c ∧ b < d) ↔ key a b < key c d := by unfold key; omega
theorem key_eq {a b c d : Int} (h1 : bd a b) (h2 : bd c d) : (a = c ∧ b = d) ↔ key a b = key c d := by unfold key; omega
theorem lessP_key {a b c d : Int} (h1 : bd a b) (h2 : bd c d) : lessP a b c d = decide (key a b < key c d) := by
  rw [Bool.eq_iff_iff, lessP_iff, decide_eq_true_iff]; exact key_lt h1 h2
def mnk (x y : Int) : Int := if y < x then y else x
def mxk (x y : Int) : Int := if y < x then x else y
/-- Which of two points: their key. -/
theorem key_if (t : Bool) (a b c d : Int) : key (ifI t a c) (ifI t b d) = ifI t (key a b) (key c d) := by cases t <;> rfl
theorem cmp2_key {a b c d : Int} (h1 : bd a b) (h2 : bd c d) : cmp2 a b c d = sgn (key a b - key c d) := by
  have k1 := cmp2_lt_iff a b c d
  have k2 := cmp2_gt_iff a b c d
  have k3 := cmp2_range a b c d
  rw [key_lt h1 h2] at k1
  rw [key_lt h2 h1] at k2
  unfold sgn
  (repeat' split) <;> omega
theorem bd_if {t : Bool} {a b c d : Int} (h1 : bd a b) (h2 : bd c d) : bd (ifI t a c) (ifI t b d) := by cases t <;> assumption
/-- Meet of segments on one line, by keys. -/
def flk (p q r s : Int) : Int := 1 + sgn (mnk (mxk p q) (mxk r s) - mxk (mnk p q) (mnk r s))
theorem fl_key {a b c d e f g h : Int} (h1 : bd a b) (h2 : bd c d) (h3 : bd e f) (h4 : bd g h) : fl a b c d e f g h = flk (key a b) (key c d) (key e f) (key g h) := by
  unfold fl flk
  dsimp only
  have b1 : bd (ifI (lessP c d a b) c a) (ifI (lessP c d a b) d b) := bd_if h2 h1
  have b2 : bd (ifI (lessP c d a b) a c) (ifI (lessP c d a b) b d) := bd_if h1 h2
  have b3 : bd (ifI (lessP g h e f) g e) (ifI (lessP g h e f) h f) := bd_if h4 h3
  have b4 : bd (ifI (lessP g h e f) e g) (ifI (lessP g h e f) f h) := bd_if h3 h4
  rw [cmp2_key (bd_if b4 b2) (bd_if b3 b1)]
  simp only [key_if, lessP_key h2 h1, lessP_key h4 h3]
  rw [lessP_key (by rw [← lessP_key h4 h3]; exact b4) (by rw [← lessP_key h2 h1]; exact b2), lessP_key (by rw [← lessP_key h2 h1]; exact b1) (by rw [← lessP_key h4 h3]; exact b3)]
  simp only [key_if]
  generalize key a b = p
  generalize key c d = q
  generalize key e f = r
  generalize key g h = s
  have i1 : ∀ x y : Int, ifI (decide (y < x)) y x = mnk x y := fun x y => by unfold ifI mnk; by_cases h : y < x <;> simp [h]
  have i2 : ∀ x y : Int, ifI (decide (y < x)) x y = mxk x y := fun x y => by unfold ifI mxk; by_cases h : y < x <;> simp [h]
  rw [i1 p q, i2 p q, i1 r s, i2 r s, i1 (mxk p q) (mxk r s)]
  congr 3
  unfold ifI mxk
  by_cases hh : mnk p q < mnk r s
  · rw [decide_eq_true hh, if_neg (by omega)]; rfl
  · rw [decide_eq_false hh]
    by_cases h2 : mnk r s < mnk p q
    · rw [if_pos h2]; rfl
    · rw [if_neg h2]; show mnk p q = _; omega
theorem flk_swap1 (p q r s : Int) : flk q p r s = flk p q r s := by unfold flk mnk mxk; congr 2; (repeat' split) <;> omega
theorem flk_swap2 (p q r s : Int) : flk p q s r = flk p q r s := by unfold flk mnk mxk; congr 2; (repeat' split) <;> omega
theorem flk_swap3 (p q r s : Int) : flk r s p q = flk p q r s := by unfold flk mnk mxk; congr 2; (repeat' split) <;> omega
/-- Meet of segments on one line, by which ends are points of the other one. -/
def two6 (o1 o2 o3 o4 e1 e2 e3 e4 e5 e6 : Bool) : Bool := (o1 && o2 && !e1) || (o3 && o4 && !e2) || (o1 && o3 && !e3) || (o1 && o4 && !e4) || (o2 && o3 && !e5) || (o2 && o4 && !e6)
def flS (o1 o2 o3 o4 e1 e2 e3 e4 e5 e6 : Bool) : Int := bif o1 || o2 || o3 || o4 then (bif two6 o1 o2 o3 o4 e1 e2 e3 e4 e5 e6 then 2 else 1) else 0
def kb (p q x : Int) : Bool := decide (mnk p q ≤ x) && decide (x ≤ mxk p q)
theorem kb_iff {p q x : Int} : kb p q x = true ↔ (p ≤ x ∧ x ≤ q ∨ q ≤ x ∧ x ≤ p) := by
  unfold kb mnk mxk
  rw [Bool.and_eq_true, decide_eq_true_iff, decide_eq_true_iff]
  split <;> omega
theorem kb_not {p q x : Int} : kb p q x = false ↔ ¬ (p ≤ x ∧ x ≤ q ∨ q ≤ x ∧ x ≤ p) := by
  rw [← kb_iff]; cases kb p q x <;> simp
def inn (lo hi x : Int) : Prop := lo ≤ x ∧ x ≤ hi
theorem core {a b c d : Int} (h1 : a ≤ b) (h2 : c ≤ d) :
    (mnk b d < mxk a c ↔ ¬ inn a b c ∧ ¬ inn a b d ∧ ¬ inn c d a ∧ ¬ inn c d b) ∧
    (mxk a c < mnk b d ↔ (inn a b c ∧ inn a b d ∧ c ≠ d) ∨ (inn c d a ∧ inn c d b ∧ a ≠ b) ∨ (inn a b c ∧ inn c d a ∧ c ≠ a) ∨ (inn a b c ∧ inn c d b ∧ c ≠ b) ∨ (inn a b d ∧ inn c d a ∧ d ≠ a) ∨ (inn a b d ∧ inn c d b ∧ d ≠ b)) := by
  unfold mnk mxk inn
  constructor
  · (repeat' split) <;> omega
  · (repeat' split) <;> omega
def K (p q x : Int) : Prop := p ≤ x ∧ x ≤ q ∨ q ≤ x ∧ x ≤ p
theorem K_le {p q x : Int} (h : p ≤ q) : K p q x ↔ inn p q x := by unfold K inn; omega
theorem K_ge {p q x : Int} (h : q ≤ p) : K p q x ↔ inn q p x := by unfold K inn; omega
theorem mnk_le {p q : Int} (h : p ≤ q) : mnk p q = p ∧ mxk p q = q := by unfold mnk mxk; constructor <;> split <;> omega
theorem mnk_ge {p q : Int} (h : q ≤ p) : mnk p q = q ∧ mxk p q = p := by unfold mnk mxk; constructor <;> split <;> omega
theorem mnk_comm (p q : Int) : mnk p q = mnk q p ∧ mxk p q = mxk q p := by unfold mnk mxk; constructor <;> split <;> split <;> omega
theorem flk_props (p q r s : Int) : (flk p q r s = 0 ↔ ¬ K p q r ∧ ¬ K p q s ∧ ¬ K r s p ∧ ¬ K r s q) ∧
    (flk p q r s = 2 ↔ (K p q r ∧ K p q s ∧ r ≠ s) ∨ (K r s p ∧ K r s q ∧ p ≠ q) ∨ (K p q r ∧ K r s p ∧ r ≠ p) ∨ (K p q r ∧ K r s q ∧ r ≠ q) ∨ (K p q s ∧ K r s p ∧ s ≠ p) ∨ (K p q s ∧ K r s q ∧ s ≠ q)) ∧ (flk p q r s = 0 ∨ flk p q r s = 1 ∨ flk p q r s = 2) := by
  have z : ∀ D : Int, (1 + sgn D = 0 ↔ D < 0) ∧ (1 + sgn D = 2 ↔ 0 < D) ∧ (1 + sgn D = 0 ∨ 1 + sgn D = 1 ∨ 1 + sgn D = 2) := by
    intro D; unfold sgn; (repeat' split) <;> omega
  unfold flk
  obtain ⟨z1, z2, z3⟩ := z (mnk (mxk p q) (mxk r s) - mxk (mnk p q) (mnk r s))
  have y1 : ∀ x y : Int, x - y < 0 ↔ x < y := fun x y => by omega
  have y2 : ∀ x y : Int, 0 < x - y ↔ y < x := fun x y => by omega
  refine ⟨(z1.trans (y1 _ _)).trans ?_, (z2.trans (y2 _ _)).trans ?_, z3⟩ <;> rcases Int.le_total p q with h1 | h1 <;> rcases Int.le_total r s with h2 | h2
  · rw [(mnk_le h1).1, (mnk_le h1).2, (mnk_le h2).1, (mnk_le h2).2, K_le h1, K_le h1, K_le h2, K_le h2]; exact (core h1 h2).1
  · rw [(mnk_le h1).1, (mnk_le h1).2, (mnk_ge h2).1, (mnk_ge h2).2, K_le h1, K_le h1, K_ge h2, K_ge h2, (core h1 h2).1]
    exact ⟨fun ⟨a, b, c, d⟩ => ⟨b, a, c, d⟩, fun ⟨a, b, c, d⟩ => ⟨b, a, c, d⟩⟩
  · rw [(mnk_ge h1).1, (mnk_ge h1).2, (mnk_le h2).1, (mnk_le h2).2, K_ge h1, K_ge h1, K_le h2, K_le h2, (core h1 h2).1]
    exact ⟨fun ⟨a, b, c, d⟩ => ⟨a, b, d, c⟩, fun ⟨a, b, c, d⟩ => ⟨a, b, d, c⟩⟩
  · rw [(mnk_ge h1).1, (mnk_ge h1).2, (mnk_ge h2).1, (mnk_ge h2).2, K_ge h1, K_ge h1, K_ge h2, K_ge h2, (core h1 h2).1]
    exact ⟨fun ⟨a, b, c, d⟩ => ⟨b, a, d, c⟩, fun ⟨a, b, c, d⟩ => ⟨b, a, d, c⟩⟩
  · rw [(mnk_le h1).1, (mnk_le h1).2, (mnk_le h2).1, (mnk_le h2).2, K_le h1, K_le h1, K_le h2, K_le h2]; exact (core h1 h2).2
  · rw [(mnk_le h1).1, (mnk_le h1).2, (mnk_ge h2).1, (mnk_ge h2).2, K_le h1, K_le h1, K_ge h2, K_ge h2, (core h1 h2).2]
    generalize inn p q r = a; generalize inn p q s = b; generalize inn s r p = c; generalize inn s r q = d
    constructor <;> rintro (h | h | h | h | h | h) <;> simp only [ne_eq] at h ⊢ <;> first | (left; exact ⟨h.2.1, h.1, fun e => h.2.2 e.symm⟩) | (right; left; exact h) | (right; right; left; exact h) | (right; right; right; left; exact h) | (right; right; right; right; left; exact h) | (right; right; right; right; right; exact h)
  · rw [(mnk_ge h1).1, (mnk_ge h1).2, (mnk_le h2).1, (mnk_le h2).2, K_ge h1, K_ge h1, K_le h2, K_le h2, (core h1 h2).2]
    generalize inn q p r = a; generalize inn q p s = b; generalize inn r s p = c; generalize inn r s q = d
    constructor <;> rintro (h | h | h | h | h | h) <;> simp only [ne_eq] at h ⊢ <;> first | (right; left; exact ⟨h.2.1, h.1, fun e => h.2.2 e.symm⟩) | (left; exact h) | (right; right; left; exact h) | (right; right; right; left; exact h) | (right; right; right; right; left; exact h) | (right; right; right; right; right; exact h)
  · rw [(mnk_ge h1).1, (mnk_ge h1).2, (mnk_ge h2).1, (mnk_ge h2).2, K_ge h1, K_ge h1, K_ge h2, K_ge h2, (core h1 h2).2]
    generalize inn q p r = a; generalize inn q p s = b; generalize inn s r p = c; generalize inn s r q = d
    constructor <;> rintro (h | h | h | h | h | h) <;> simp only [ne_eq] at h ⊢ <;> first | (left; exact ⟨h.2.1, h.1, fun e => h.2.2 e.symm⟩) | (right; left; exact ⟨h.2.1, h.1, fun e => h.2.2 e.symm⟩) | (right; right; left; exact h) | (right; right; right; left; exact h) | (right; right; right; right; left; exact h) | (right; right; right; right; right; exact h)
theorem flk_char (p q r s : Int) : flk p q r s = flS (kb p q r) (kb p q s) (kb r s p) (kb r s q) (decide (r = s)) (decide (p = q)) (decide (r = p)) (decide (r = q)) (decide (s = p)) (decide (s = q)) := by
  obtain ⟨h0, h2, h3⟩ := flk_props p q r s
  have a0 : (kb p q r || kb p q s || kb r s p || kb r s q) = false ↔ ¬ K p q r ∧ ¬ K p q s ∧ ¬ K r s p ∧ ¬ K r s q := by
    simp only [Bool.or_eq_false_iff, kb_not]; unfold K
    exact ⟨fun ⟨⟨⟨a, b⟩, c⟩, d⟩ => ⟨a, b, c, d⟩, fun ⟨a, b, c, d⟩ => ⟨⟨⟨a, b⟩, c⟩, d⟩⟩
  have a2 : two6 (kb p q r) (kb p q s) (kb r s p) (kb r s q) (decide (r = s)) (decide (p = q)) (decide (r = p)) (decide (r = q)) (decide (s = p)) (decide (s = q)) = true ↔
      (K p q r ∧ K p q s ∧ r ≠ s) ∨ (K r s p ∧ K r s q ∧ p ≠ q) ∨ (K p q r ∧ K r s p ∧ r ≠ p) ∨ (K p q r ∧ K r s q ∧ r ≠ q) ∨ (K p q s ∧ K r s p ∧ s ≠ p) ∨ (K p q s ∧ K r s q ∧ s ≠ q) := by
    unfold two6
    simp only [Bool.or_eq_true, Bool.and_eq_true, Bool.not_eq_true', decide_eq_false_iff_not, kb_iff, ne_eq, and_assoc, or_assoc]
    unfold K
    exact Iff.rfl
  unfold flS
  cases hA : (kb p q r || kb p q s || kb r s p || kb r s q) with
  | false => exact h0.2 (a0.1 hA)
  | true =>
    have n0 : flk p q r s ≠ 0 := fun e => by rw [a0.2 (h0.1 e)] at hA; cases hA
    cases hB : two6 (kb p q r) (kb p q s) (kb r s p) (kb r s q) (decide (r = s)) (decide (p = q)) (decide (r = p)) (decide (r = q)) (decide (s = p)) (decide (s = q)) with
    | true => exact h2.2 (a2.1 hB)
    | false =>
      have n2 : flk p q r s ≠ 2 := fun e => by rw [a2.2 (h2.1 e)] at hB; cases hB
      show flk p q r s = 1
      omega
end Go.Hg
/- Geometry: plain laws: turns, moves and order change nothing. -/
namespace Go.Hg
open Go.Hx Go.Proofs
def bx (a b c d e f : Int) : Bool := btwn a c e && btwn b d f
theorem kb_box {a b c d e f : Int} (h1 : bd a b) (h2 : bd c d) (h3 : bd e f) (hc : crs a b c d e f = 0) : kb (key a b) (key c d) (key e f) = bx a b c d e f := by
  have main : ∀ {a b c d : Int}, bd a b → bd c d → crs a b c d e f = 0 → (a < c ∨ a = c ∧ b ≤ d) → (kb (key a b) (key c d) (key e f) = true ↔ bx a b c d e f = true) := by
    intro a b c d h1 h2 hc ho
    have hb := between_lex (a := a) (b := b) (c := c) (d := d) (e := e) (f := f) (by unfold crs at hc; omega) ho
    rw [kb_iff]
    unfold bx
    rw [Bool.and_eq_true, btwn_iff, btwn_iff]
    rw [key_lt h3 h1, key_lt h2 h3] at hb
    have hle : key a b ≤ key c d := by unfold key; omega
    constructor
    · intro h; have := hb.1 (by omega); omega
    · intro h; have := hb.2 (by omega); omega
  rw [Bool.eq_iff_iff]
  rcases Int.lt_trichotomy a c with g | g | g
  · exact main h1 h2 hc (.inl g)
  · rcases Int.le_total b d with g2 | g2
    · exact main h1 h2 hc (.inr ⟨g, g2⟩)
    · have := main h2 h1 (by unfold crs at hc ⊢; grind) (.inr ⟨g.symm, g2⟩)
      rw [kb_iff] at this ⊢
      unfold bx at this ⊢
      rw [Bool.and_eq_true, btwn_iff, btwn_iff] at this ⊢
      omega
  · have := main h2 h1 (by unfold crs at hc ⊢; grind) (.inl g)
    rw [kb_iff] at this ⊢
    unfold bx at this ⊢
    rw [Bool.and_eq_true, btwn_iff, btwn_iff] at this ⊢
    omega
def eqP (a b c d : Int) : Bool := decide (a = c ∧ b = d)
/-- Meet of segments on one line, by what stands between what. -/
theorem fl_bx {a b c d e f g h : Int} (h1 : bd a b) (h2 : bd c d) (h3 : bd e f) (h4 : bd g h) (k1 : crs a b c d e f = 0) (k2 : crs a b c d g h = 0) (k3 : crs e f g h a b = 0) (k4 : crs e f g h c d = 0) :
    fl a b c d e f g h = flS (bx a b c d e f) (bx a b c d g h) (bx e f g h a b) (bx e f g h c d) (eqP e f g h) (eqP a b c d) (eqP e f a b) (eqP e f c d) (eqP g h a b) (eqP g h c d) := by
  rw [fl_key h1 h2 h3 h4, flk_char, kb_box h1 h2 h3 k1, kb_box h1 h2 h4 k2, kb_box h3 h4 h1 k3, kb_box h3 h4 h2 k4]
  unfold eqP
  rw [decide_eq_decide.2 (key_eq h3 h4), decide_eq_decide.2 (key_eq h1 h2), decide_eq_decide.2 (key_eq h3 h1), decide_eq_decide.2 (key_eq h3 h2), decide_eq_decide.2 (key_eq h4 h1), decide_eq_decide.2 (key_eq h4 h2)]
theorem sd_of {a b c d e f : Int} (h1 : bd a b) (h2 : bd c d) (h3 : bd e f) : sd a b c d e f = sgn (crs a b c d e f) := by
  unfold sd; rw [bd_iff.2 h1, bd_iff.2 h2, bd_iff.2 h3]; rfl
theorem mt_of {a b c d e f g h : Int} (h1 : bd a b) (h2 : bd c d) (h3 : bd e f) (h4 : bd g h) :
    mt a b c d e f g h = bif (sgn (crs a b c d e f) == 0) && (sgn (crs a b c d g h) == 0) && (sgn (crs e f g h a b) == 0) && (sgn (crs e f g h c d) == 0) then
      flS (bx a b c d e f) (bx a b c d g h) (bx e f g h a b) (bx e f g h c d) (eqP e f g h) (eqP a b c d) (eqP e f a b) (eqP e f c d) (eqP g h a b) (eqP g h c d)
    else nfl (sgn (crs a b c d e f)) (sgn (crs a b c d g h)) (sgn (crs e f g h a b)) (sgn (crs e f g h c d)) := by
  unfold mt
  rw [bd_iff.2 h1, bd_iff.2 h2, bd_iff.2 h3, bd_iff.2 h4, sd_of h1 h2 h3, sd_of h1 h2 h4, sd_of h3 h4 h1, sd_of h3 h4 h2]
  simp only [Bool.and_self, cond_true]
  cases hz : (sgn (crs a b c d e f) == 0) && (sgn (crs a b c d g h) == 0) && (sgn (crs e f g h a b) == 0) && (sgn (crs e f g h c d) == 0) with
  | false => rfl
  | true =>
    simp only [Bool.and_eq_true, beq_iff_eq, sgn_zero] at hz
    exact fl_bx h1 h2 h3 h4 hz.1.1.1 hz.1.1.2 hz.1.2 hz.2
theorem on_of {a b c d e f : Int} (h1 : bd a b) (h2 : bd c d) (h3 : bd e f) : onX a b c d e f = (bx a b c d e f && (sgn (crs a b c d e f) == 0)) := by
  unfold onX bx; rw [bd_iff.2 h1, bd_iff.2 h2, bd_iff.2 h3, sd_of h1 h2 h3]; simp
/-- A map of points that keeps what matters. -/
structure Keeps (X Y : Int → Int → Int) : Prop where
  crs : ∀ a b c d e f, crs (X a b) (Y a b) (X c d) (Y c d) (X e f) (Y e f) = crs a b c d e f
  bx : ∀ a b c d e f, bx (X a b) (Y a b) (X c d) (Y c d) (X e f) (Y e f) = bx a b c d e f
  eq : ∀ a b c d, eqP (X a b) (Y a b) (X c d) (Y c d) = eqP a b c d
theorem btwn_neg (a c e : Int) : btwn (0 - a) (0 - c) (0 - e) = btwn a c e := by rw [Bool.eq_iff_iff, btwn_iff, btwn_iff]; omega
theorem btwn_add (a c e u : Int) : btwn (a + u) (c + u) (e + u) = btwn a c e := by rw [Bool.eq_iff_iff, btwn_iff, btwn_iff]; omega
theorem keeps_shift (u v : Int) : Keeps (fun x _ => x + u) (fun _ y => y + v) where
  crs a b c d e f := by unfold Hg.crs; grind
  bx a b c d e f := by unfold Hg.bx; rw [btwn_add, btwn_add]
  eq a b c d := by unfold eqP; exact decide_eq_decide.2 (by omega)
theorem keeps_q1 : Keeps (fun _ y => 0 - y) (fun x _ => x) where
  crs a b c d e f := by unfold Hg.crs; grind
  bx a b c d e f := by unfold Hg.bx; rw [btwn_neg, Bool.and_comm]
  eq a b c d := by unfold eqP; exact decide_eq_decide.2 (by omega)
theorem keeps_q2 : Keeps (fun x _ => 0 - x) (fun _ y => 0 - y) where
  crs a b c d e f := by unfold Hg.crs; grind
  bx a b c d e f := by unfold Hg.bx; rw [btwn_neg, btwn_neg]
  eq a b c d := by unfold eqP; exact decide_eq_decide.2 (by omega)
theorem keeps_q3 : Keeps (fun _ y => y) (fun x _ => 0 - x) where
  crs a b c d e f := by unfold Hg.crs; grind
  bx a b c d e f := by unfold Hg.bx; rw [btwn_neg, Bool.and_comm]
  eq a b c d := by unfold eqP; exact decide_eq_decide.2 (by omega)
theorem keeps_id : Keeps (fun x _ => x) (fun _ y => y) := ⟨fun _ _ _ _ _ _ => rfl, fun _ _ _ _ _ _ => rfl, fun _ _ _ _ => rfl⟩
theorem Keeps.comp {X Y X' Y' : Int → Int → Int} (h : Keeps X Y) (k : Keeps X' Y') : Keeps (fun a b => X' (X a b) (Y a b)) (fun a b => Y' (X a b) (Y a b)) where
  crs a b c d e f := by rw [k.crs, h.crs]
  bx a b c d e f := by rw [k.bx, h.bx]
  eq a b c d := by rw [k.eq, h.eq]
theorem Keeps.sd {X Y : Int → Int → Int} (h : Keeps X Y) {a b c d e f : Int} (h1 : bd a b) (h2 : bd c d) (h3 : bd e f) (k1 : bd (X a b) (Y a b)) (k2 : bd (X c d) (Y c d)) (k3 : bd (X e f) (Y e f)) : sd (X a b) (Y a b) (X c d) (Y c d) (X e f) (Y e f) = sd a b c d e f := by
  rw [sd_of h1 h2 h3, sd_of k1 k2 k3, h.crs]
theorem Keeps.on {X Y : Int → Int → Int} (h : Keeps X Y) {a b c d e f : Int} (h1 : bd a b) (h2 : bd c d) (h3 : bd e f) (k1 : bd (X a b) (Y a b)) (k2 : bd (X c d) (Y c d)) (k3 : bd (X e f) (Y e f)) : onX (X a b) (Y a b) (X c d) (Y c d) (X e f) (Y e f) = onX a b c d e f := by
  rw [on_of h1 h2 h3, on_of k1 k2 k3, h.crs, h.bx]
theorem Keeps.mt {X Y : Int → Int → Int} (hK : Keeps X Y) {a b c d e f g h : Int} (h1 : bd a b) (h2 : bd c d) (h3 : bd e f) (h4 : bd g h) (k1 : bd (X a b) (Y a b)) (k2 : bd (X c d) (Y c d)) (k3 : bd (X e f) (Y e f)) (k4 : bd (X g h) (Y g h)) :
    mt (X a b) (Y a b) (X c d) (Y c d) (X e f) (Y e f) (X g h) (Y g h) = mt a b c d e f g h := by
  rw [mt_of h1 h2 h3 h4, mt_of k1 k2 k3 k4]
  simp only [hK.crs, hK.bx, hK.eq]
theorem sgn_neg (n : Int) : sgn (-n) = -sgn n := by unfold sgn; (repeat' split) <;> omega
theorem sd_swap (a b c d e f : Int) : sd c d a b e f = -sd a b c d e f := by
  unfold sd
  rw [show crs c d a b e f = -crs a b c d e f by unfold crs; grind, sgn_neg, Bool.and_comm (bdd c d)]
  cases bdd a b && bdd c d && bdd e f <;> simp
theorem sd_turn (a b c d e f : Int) : sd c d e f a b = sd a b c d e f := by
  unfold sd
  rw [show crs c d e f a b = crs a b c d e f by unfold crs; grind, show (bdd c d && bdd e f && bdd a b) = (bdd a b && bdd c d && bdd e f) by cases bdd a b <;> cases bdd c d <;> cases bdd e f <;> rfl]
theorem sgnz_neg (n : Int) : (sgn (-n) == 0) = (sgn n == 0) := by rw [sgn_neg]; unfold sgn; (repeat' split) <;> rfl
theorem mt_swap3 {a b c d e f g h : Int} (h1 : bd a b) (h2 : bd c d) (h3 : bd e f) (h4 : bd g h) : mt e f g h a b c d = mt a b c d e f g h := by
  unfold mt
  rw [bd_iff.2 h1, bd_iff.2 h2, bd_iff.2 h3, bd_iff.2 h4, fl_key h1 h2 h3 h4, fl_key h3 h4 h1 h2, flk_swap3]
  unfold nfl
  rw [Bool.or_comm]
  cases sd a b c d e f == 0 <;> cases sd a b c d g h == 0 <;> cases sd e f g h a b == 0 <;> cases sd e f g h c d == 0 <;> rfl
theorem neg_mul (s t : Int) : decide (-s * -t > 0) = decide (s * t > 0) := by rw [Int.neg_mul_neg]
theorem mul_cm (s t : Int) : decide (s * t > 0) = decide (t * s > 0) := by rw [Int.mul_comm]
theorem beq_neg0 (s : Int) : (-s == 0) = (s == 0) := by rw [Bool.eq_iff_iff, beq_iff_eq, beq_iff_eq]; omega
theorem mt_swap1 {a b c d e f g h : Int} (h1 : bd a b) (h2 : bd c d) (h3 : bd e f) (h4 : bd g h) : mt c d a b e f g h = mt a b c d e f g h := by
  unfold mt
  rw [bd_iff.2 h1, bd_iff.2 h2, bd_iff.2 h3, bd_iff.2 h4, fl_key h1 h2 h3 h4, fl_key h2 h1 h3 h4, flk_swap1, sd_swap a b c d e f, sd_swap a b c d g h]
  unfold nfl
  rw [neg_mul, mul_cm (sd e f g h c d), beq_neg0, beq_neg0]
  cases sd a b c d e f == 0 <;> cases sd a b c d g h == 0 <;> cases sd e f g h a b == 0 <;> cases sd e f g h c d == 0 <;> rfl
theorem mt_swap2 {a b c d e f g h : Int} (h1 : bd a b) (h2 : bd c d) (h3 : bd e f) (h4 : bd g h) : mt a b c d g h e f = mt a b c d e f g h := by
  rw [mt_swap3 h4 h3 h1 h2, mt_swap1 h3 h4 h1 h2, mt_swap3 h1 h2 h3 h4]
end Go.Hg
/- Geometry: line.Check of any length: as the reference's. -/
namespace Go.Hg
open Go.Hx Go.Proofs
def allO (es : List PV) (cl i : Int) : Nat → Bool
  | 0 => true
  | n + 1 => !eqe es i (i + 1) && (allC es cl i (qX es i) (qY es i) (qX es (i + 1)) (qY es (i + 1)) (es.take (i + 1).toNat) 0 i.toNat && allO es cl (i + 1) n)
noncomputable def pD : LS → Bool
  | ([.i i], [.l _ es, .i _, .i cl, .l _ es3, .r r4]) => decide (0 ≤ i) && decide (i + 1 ≤ (es.length : Int)) && decide (cl + 2 = (es.length : Int)) && big es && (same r4 (lrO .ready) && same es3 es)
  | _ => false
noncomputable def fD : LS → DT (PX × List PV × List Row)
  | ([.i i], [.l f es, .i er, .i cl, .l f3 es3, .r _]) => .br (allO es cl i ((es.length : Int) - (i + 1)).toNat)
      (.leaf (.exit 0, tm 25 [], hD f es er cl f3 es3 (lrO .ready))) (.leaf (.ret, tm 25 [], hD f es 11 cl f3 es3 (lrO (.done (.exit 0)))))
  | _ => .no
def mD : LS → Nat
  | ([.i i], [.l _ es, .i _, .i _, .l _ _, .r _]) => ((es.length : Int) - (i + 1)).toNat
  | _ => 0
theorem sD : ∀ s r, pD s = true → (fD s).run = some r → r.1 ≠ .normal ∧ (runB Try.prog E34a 60 152 (lpb Try.f152 1) [0, 1, 3] [] (shD.put s).1 (shD.put s).2 = some r ∨
      ∃ s', runB Try.prog E34a 60 152 (lpb Try.f152 1) [0, 1, 3] [] (shD.put s).1 (shD.put s).2 = some (.normal, shD.put s') ∧ pD s' = true ∧ mD s' < mD s ∧ (fD s').run = some r) := by
  intro s r hp hr
  unfold pD at hp; split at hp
  · rename_i i f es er cl f3 es3 r4
    simp only [Bool.and_eq_true, decide_eq_true_eq, same_iff] at hp
    obtain ⟨⟨⟨⟨h1, h2⟩, h3⟩, h4⟩, rfl, rfl⟩ := hp
    have hr' := run_br2 hr
    refine ⟨by rw [hr']; cases allO es3 cl i ((es3.length : Int) - (i + 1)).toNat <;> simp, ?_⟩
    rw [qD]
    have hw := W_id (n := i + 1) (by omega) (by omega)
    rw [hw]
    by_cases hi : i + 1 < (es3.length : Int)
    · have hl : (es3.take (i + 1).toNat).length = (i + 1).toNat := by rw [List.length_take]; omega
      have hp : pC (lC f es3 er cl f3 es3 (lrO .busy) i (qX es3 i) (qY es3 i) (qX es3 (i + 1)) (qY es3 (i + 1)) false (es3.take (i + 1).toNat) (lrI .ready) 0) = true := by
        simp only [pC, same_self, hl, Bool.and_true, Bool.and_eq_true, decide_eq_true_eq]; omega
      rw [decide_eq_true hi, cond_true, inr_of h1 (by omega), inr_of (by omega) hi, hp, hl, show (((i + 1).toNat : Int) - (0 + 1)).toNat = i.toNat by omega,
        show (decide ((0 : Int) ≤ 0) && decide ((0 : Int) ≤ i + 1) && decide (i + 1 ≤ (es3.length : Int))) = true by simp; omega]
      obtain ⟨n, hn⟩ : ∃ n, ((es3.length : Int) - (i + 1)).toNat = n + 1 := ⟨((es3.length : Int) - (i + 1)).toNat - 1, by omega⟩
      rw [hn] at hr'
      simp only [allO] at hr'
      simp only [cond_true]
      cases hE : eqe es3 i (i + 1) with
      | true => rw [hE] at hr'; exact .inl (by rw [hr']; rfl)
      | false =>
        rw [hE] at hr'
        cases hR : allC es3 cl i (qX es3 i) (qY es3 i) (qX es3 (i + 1)) (qY es3 (i + 1)) (es3.take (i + 1).toNat) 0 i.toNat with
        | false => rw [hR] at hr'; exact .inl (by rw [hr']; rfl)
        | true =>
          rw [hR] at hr'
          refine .inr ⟨lD f es3 er cl f3 es3 (lrO .ready) (i + 1), rfl, by simp [pD, same_self]; omega, by simp only [mD]; omega, ?_⟩
          rw [hr']
          simp only [fD]
          rw [show ((es3.length : Int) - (i + 1 + 1)).toNat = n by omega]
          cases allO es3 cl (i + 1) n <;> rfl
    · rw [decide_eq_false hi]
      rw [show ((es3.length : Int) - (i + 1)).toNat = 0 by omega] at hr'
      exact .inl (by rw [hr']; rfl)
  · cases hp
noncomputable def E34b : EnvK := E34a.addW 152 1 [0, 1, 3] [] shD pD fD
theorem ok34b : EnvOK Try.prog E34b.env :=
  ok34a.addW (n := 60) Try.func152 (show Try.f152.body = some (bod Try.f152) by kernel_rfl) (show (loops (bod Try.f152)).filter (fun b => rid b == 1) = [lpb Try.f152 1] by kernel_rfl) [0, 1, 3] [] [] shD mD sD
noncomputable def chkL (f : Bool) (es : List PV) : Option PV := bif big es then bif !fin es then some (iv 10) else bif pD (lD f es 0 (W ((es.length : Int) - 2)) f es (lrO .ready) 0) then bif allO es (W ((es.length : Int) - 2)) 0 ((es.length : Int) - (0 + 1)).toNat then some (iv 0) else some (iv 11) else none else none
theorem qChk (f : Bool) (es : List PV) : runP Try.prog E34b 60 102 [.lst f 23 es] =
  bif decide ((es.length : Int) < 2) then some (iv 2) else bif decide ((es.length : Int) > 40) then some (iv 2) else chkL f es := by kernel_rfl
end Go.Hg
/- Geometry: contracts: Check of a line, both. -/
namespace Go.Hg
open Go.Hx Go.Proofs
theorem fin_bd {es : List PV} (h : fin es = true) {i : Int} (h0 : 0 ≤ i) (h1 : i < (es.length : Int)) : bd (qX es i) (qY es i) := by
  have := allR_false.1 h i.toNat (by omega)
  rw [show (0 : Int) + (i.toNat : Int) = i by omega] at this
  have := inB2_iff.1 this; unfold bd; omega
theorem qX_take {es : List PV} {n : Nat} {k : Int} (h : k < (n : Int)) (h0 : 0 ≤ k) : qX (es.take n) k = qX es k := by
  unfold qX
  rw [List.getD_eq_getElem?_getD, List.getD_eq_getElem?_getD, List.getElem?_take, if_pos (by omega)]
theorem qY_take {es : List PV} {n : Nat} {k : Int} (h : k < (n : Int)) (h0 : 0 ≤ k) : qY (es.take n) k = qY es k := by
  unfold qY
  rw [List.getD_eq_getElem?_getD, List.getD_eq_getElem?_getD, List.getElem?_take, if_pos (by omega)]
theorem want_eq (es : List PV) (la i k : Int) : wantC es la i k = want es la i k := by
  unfold wantC want
  rw [show (i == k + 1) = (k + 1 == i) by rw [Bool.eq_iff_iff]; simp only [beq_iff_eq]; omega]
  cases cls es <;> cases k == 0 <;> cases i == la <;> rfl
theorem allC_eq {es : List PV} (hf : fin es = true) {la i : Int} (h0 : 0 ≤ i) (h1 : i + 1 < (es.length : Int)) : ∀ (n : Nat) (k : Int), 0 ≤ k → k + n = i →
    allC es la i (qX es i) (qY es i) (qX es (i + 1)) (qY es (i + 1)) (es.take (i + 1).toNat) k n = allP es la i k n
  | 0, k, _, _ => rfl
  | n + 1, k, h2, h3 => by
    simp only [allC, allP]
    rw [allC_eq hf h0 h1 n (k + 1) (by omega) (by omega), want_eq]
    congr 2
    unfold mqs mq
    rw [qX_take (by omega) (by omega), qY_take (by omega) (by omega), qX_take (by omega) (by omega), qY_take (by omega) (by omega)]
    exact mt_swap3 (fin_bd hf (by omega) (by omega)) (fin_bd hf (by omega) (by omega)) (fin_bd hf (by omega) (by omega)) (fin_bd hf (by omega) (by omega))
theorem allO_eq {es : List PV} (hf : fin es = true) {la : Int} : ∀ (n : Nat) (i : Int), 0 ≤ i → i + n + 1 = (es.length : Int) → allO es la i n = allI es la i n
  | 0, i, _, _ => rfl
  | n + 1, i, h0, h1 => by
    simp only [allO, allI]
    rw [allO_eq hf n (i + 1) (by omega) (by omega), allC_eq hf h0 (by omega) i.toNat 0 (by omega) (by omega)]
    rfl
theorem chkL_eq (f : Bool) (es : List PV) : (bif decide ((es.length : Int) < 2) then some (iv 2) else bif decide ((es.length : Int) > 40) then some (iv 2) else chkL f es) = some (iv (chk es)) := by
  unfold chk
  by_cases h1 : (es.length : Int) < 2
  · rw [decide_eq_true h1]; rfl
  · by_cases h2 : (es.length : Int) > 40
    · rw [decide_eq_false h1, decide_eq_true h2]; rfl
    · rw [decide_eq_false h1, decide_eq_false h2]
      have hw := W_id (n := (es.length : Int) - 2) (by omega) (by omega)
      unfold chkL
      rw [hw, show big es = true by simp [big]; omega, show pD (lD f es 0 ((es.length : Int) - 2) f es (lrO .ready) 0) = true by simp [pD, same_self]; omega, show ((es.length : Int) - (0 + 1)).toNat = es.length - 1 by omega]
      cases hf : fin es with
      | false => rfl
      | true =>
        rw [allO_eq hf (es.length - 1) 0 (by omega) (by omega)]
        cases allI es ((es.length : Int) - 2) 0 (es.length - 1) <;> rfl
theorem oChk (args : List PV) (r : PV) (h : cChk args = some r) : Enters Try.prog 102 ∧ PCall Try.prog 102 args r := by
  unfold cChk at h; split at h
  · rename_i f es; cases h; exact runP_sound ok34b ((qChk f es).trans (chkL_eq f es))
  · cases h
noncomputable def E35 : EnvK := E34.addO 102 cChk
theorem ok35 : EnvOK Try.prog E35.env := ok34.addO oChk
/-- P6.1. -/
def rchk (es : List PV) : Int := bif decide ((es.length : Int) < 3) then 2 else bif decide ((es.length : Int) ≥ 40) then 2 else chk (es ++ [qp es 0])
def ringT (es : List PV) : Option PV :=
  bif decide ((0 + es.length) * 16 ≤ 140737488355328) then bif decide (0 < (es.length : Int)) then
    bif decide (es.length = 0 + es.length) && decide (0 + es.length = 0 + es.length) && decide ((0 + es.length + 1) * 16 ≤ 140737488355328) then
      bif (es ++ [qp es 0]).length == 0 + es.length + 1 then some (iv (chk (((es ++ [qp es 0]).drop 0).take (0 + es.length + 1)))) else none else none else none else none
theorem qRing (f : Bool) (es : List PV) : runP Try.prog E35 60 58 [.lst f 23 es] =
  bif decide ((es.length : Int) < 3) then some (iv 2) else bif decide ((es.length : Int) ≥ 40) then some (iv 2) else ringT es := by kernel_rfl
theorem qRRing (f : Bool) (es : List PV) : runP Try.prog E35 60 59 [.lst f 23 es] =
  bif decide ((es.length : Int) < 3) then some (iv 2) else bif decide ((es.length : Int) ≥ 40) then some (iv 2) else ringT es := by kernel_rfl
theorem ringT_eq (es : List PV) : (bif decide ((es.length : Int) < 3) then some (iv 2) else bif decide ((es.length : Int) ≥ 40) then some (iv 2) else ringT es) = some (iv (rchk es)) := by
  unfold rchk
  by_cases h1 : (es.length : Int) < 3
  · rw [decide_eq_true h1]; rfl
  · by_cases h2 : (es.length : Int) ≥ 40
    · rw [decide_eq_false h1, decide_eq_true h2]; rfl
    · rw [decide_eq_false h1, decide_eq_false h2]
      unfold ringT
      have hl : (es ++ [qp es 0]).length = 0 + es.length + 1 := by simp
      rw [decide_eq_true (show (0 + es.length) * 16 ≤ 140737488355328 by omega), decide_eq_true (show 0 < (es.length : Int) by omega), decide_eq_true (show es.length = 0 + es.length by omega), decide_eq_true rfl, decide_eq_true (show (0 + es.length + 1) * 16 ≤ 140737488355328 by omega), List.drop_zero, ← hl, List.take_length]
      simp
def cRing : List PV → Option PV | [.lst _ 23 es] => some (iv (rchk es)) | _ => none
theorem oRing (args : List PV) (r : PV) (h : cRing args = some r) : Enters Try.prog 58 ∧ PCall Try.prog 58 args r := by
  unfold cRing at h; split at h
  · rename_i f es; cases h; exact runP_sound ok35 ((qRing f es).trans (ringT_eq es))
  · cases h
theorem oRRing (args : List PV) (r : PV) (h : cRing args = some r) : Enters Try.prog 59 ∧ PCall Try.prog 59 args r := by
  unfold cRing at h; split at h
  · rename_i f es; cases h; exact runP_sound ok35 ((qRRing f es).trans (ringT_eq es))
  · cases h
noncomputable def E36 : EnvK := (E35.addO 58 cRing).addO 59 cRing
theorem ok36 : EnvOK Try.prog E36.env := (ok35.addO oRing).addO oRRing
end Go.Hg
/- Geometry: Area2 and Inside of rings of any length: rounds. -/
namespace Go.Hg
open Go.Hx Go.Proofs
noncomputable def E37 : EnvK := (E36.addV 60 3 [3, 7]).addV 62 5 [3, 4, 5, 12]
theorem ok37 : EnvOK Try.prog E37.env := (ok36.addV 60 3 [3, 7]).addV 62 5 [3, 4, 5, 12]
abbrev sgg (i : Nat) : PV := .fn (.func 145) [] [.ptr i 1 0 0]
noncomputable def lrA (st : LSt) : Row := lrow 60 Try.f60 3 (tm 16 [(3, .ptr 0 1 0 0), (7, sgg 1)]) st
def shA : S1 := ⟨25, [(0, .yld 2), (1, .ptr 1 1 0 0), (5, .lst 23), (6, I64), (7, I64)], [.one 3 1 I64, .one 53 1 (.lst 23), .raw]⟩
abbrev lA (f : Bool) (es : List PV) (l i sum : Int) (f2 : Bool) (es2 : List PV) (r : Row) : LS := ([.l f es, .i l, .i i], [.i sum, .l f2 es2, .r r])
noncomputable abbrev hA (sum : Int) (f2 : Bool) (es2 : List PV) (r : Row) : List Row := (shA.put (lA true [] 0 0 sum f2 es2 r)).2
def nxW (es : List PV) (i : Int) : Int := Int.tmod (W (i + 1)) (es.length : Int)
def crW (es : List PV) (i j : Int) : Int := W (W (qX es i * qY es j) - W (qY es i * qX es j))
def nz (es : List PV) : Bool := !decide ((es.length : Int) = 0)
theorem qA (f : Bool) (es : List PV) (l i sum : Int) (f2 : Bool) : runB Try.prog E37 60 145 (lpb Try.f145 1) [0, 1, 5, 6, 7] [] (shA.put (lA f es l i sum f2 es (lrA .ready))).1 (shA.put (lA f es l i sum f2 es (lrA .ready))).2 =
  bif decide (i < l) then bif inr es i then bif nz es then bif inr es (nxW es i) then some (.normal, shA.put (lA f es l (W (i + 1)) (W (sum + crW es i (nxW es i))) f2 es (lrA .ready))) else none else none else none
  else some (.exit 0, tm 25 [], hA sum f2 es (lrA .ready)) := by kernel_rfl
def shB : S1 := ⟨22, [(0, .lst 23), (3, I64), (4, I64)], []⟩
theorem qB (f : Bool) (es : List PV) (sum i : Int) : runB Try.prog E37 60 61 (lpb Try.f61 3) [0, 3, 4] [3] (shB.put ([.l f es, .i sum, .i i], [])).1 (shB.put ([.l f es, .i sum, .i i], [])).2 =
  bif decide (i < (es.length : Int)) then bif inr es i then bif nz es then bif inr es (nxW es i) then some (.normal, shB.put ([.l f es, .i (W (sum + crW es i (nxW es i))), .i (W (i + 1))], [])) else none else none else none
  else some (.exit 0, tm 22 [(3, iv sum)], []) := by kernel_rfl
noncomputable def lrN (st : LSt) : Row := lrow 62 Try.f62 5 (tm 27 [(3, .ptr 0 1 0 0), (4, .ptr 1 1 0 0), (5, .ptr 2 1 0 0), (12, sgg 3)]) st
def shN : S1 := ⟨25, [(0, .yld 4), (1, .ptr 3 1 0 0), (5, .lst 23), (6, I64), (7, I64)], [.one 23 2 (.agg [I64, I64]), .one 3 1 I64, .one 3 1 I64, .one 53 1 (.lst 23), .raw]⟩
abbrev lN (f : Bool) (es : List PV) (l i x y res sum : Int) (f2 : Bool) (es2 : List PV) (r : Row) : LS := ([.l f es, .i l, .i i], [.i x, .i y, .i res, .i sum, .l f2 es2, .r r])
noncomputable abbrev hN (x y res sum : Int) (f2 : Bool) (es2 : List PV) (r : Row) : List Row := (shN.put (lN true [] 0 0 x y res sum f2 es2 r)).2
def onq (es : List PV) (i j x y : Int) : Bool := onX (qX es i) (qY es i) (qX es j) (qY es j) x y
def ryq (es : List PV) (i j x y : Int) : Int := ray (qX es i) (qY es i) (qX es j) (qY es j) x y
theorem qN (f : Bool) (es : List PV) (l i x y res sum : Int) (f2 : Bool) : runB Try.prog E37 60 145 (lpb Try.f145 1) [0, 1, 5, 6, 7] [] (shN.put (lN f es l i x y res sum f2 es (lrN .ready))).1 (shN.put (lN f es l i x y res sum f2 es (lrN .ready))).2 =
  bif decide (i < l) then bif inr es i then bif nz es then bif inr es (nxW es i) then
    bif onq es i (nxW es i) x y then some (.ret, tm 25 [], hN x y 0 sum f2 es (lrN (.done .ret)))
    else some (.normal, shN.put (lN f es l (W (i + 1)) x y res (W (sum + ryq es i (nxW es i) x y)) f2 es (lrN .ready))) else none else none else none
  else some (.exit 0, tm 25 [], hN x y res sum f2 es (lrN .ready)) := by kernel_rfl
def shM : S1 := ⟨40, [(0, .lst 23), (3, .ptr 0 1 0 0), (5, I64), (6, I64)], [.one 23 2 (.agg [I64, I64])]⟩
theorem qM (f : Bool) (es : List PV) (sum i x y : Int) : runB Try.prog E37 60 63 (lpb Try.f63 5) [0, 3, 5, 6] [4, 5] (shM.put ([.l f es, .i sum, .i i], [.i x, .i y])).1 (shM.put ([.l f es, .i sum, .i i], [.i x, .i y])).2 =
  bif decide (i < (es.length : Int)) then bif inr es i then bif nz es then bif inr es (nxW es i) then
    bif onq es i (nxW es i) x y then some (.ret, tm 40 [(4, iv 0), (5, iv sum)], (shM.put ([.l f es, .i sum, .i i], [.i x, .i y])).2)
    else bif inr es i then bif nz es then bif inr es (nxW es i) then some (.normal, shM.put ([.l f es, .i (W (sum + ryq es i (nxW es i) x y)), .i (W (i + 1))], [.i x, .i y])) else none else none else none else none else none else none
  else some (.exit 0, tm 40 [(5, iv sum)], (shM.put ([.l f es, .i sum, .i i], [.i x, .i y])).2) := by kernel_rfl
end Go.Hg
/- Geometry: contracts: Area2 and Inside of rings, both. -/
namespace Go.Hg
open Go.Hx Go.Proofs
def nx (es : List PV) (i : Int) : Int := Int.tmod (i + 1) (es.length : Int)
theorem nx_range {es : List PV} {i : Int} (h0 : 0 ≤ i) (h1 : i < (es.length : Int)) : 0 ≤ nx es i ∧ nx es i < (es.length : Int) := by
  unfold nx
  exact ⟨Int.tmod_nonneg _ (by omega), Int.tmod_lt_of_pos _ (by omega)⟩
theorem nx_inr {es : List PV} {i : Int} (h0 : 0 ≤ i) (h1 : i < (es.length : Int)) : inr es (nx es i) = true := by
  have := nx_range h0 h1
  exact inr_of this.1 this.2
theorem nxW_eq {es : List PV} {i : Int} (h0 : 0 ≤ i) (h1 : i < (es.length : Int)) (h : es.length ≤ 1000000) : nxW es i = nx es i := by unfold nxW nx; rw [W_id (by omega) (by omega)]
theorem nz_of {es : List PV} {i : Int} (h0 : 0 ≤ i) (h1 : i < (es.length : Int)) : nz es = true := by unfold nz; simp; intro h; subst h; simp at h1; omega
/-- The sum of the cross products from i on. -/
def arS (es : List PV) (i : Int) : Nat → Int → Int
  | 0, acc => acc
  | n + 1, acc => arS es (i + 1) n (W (acc + crW es i (nx es i)))
def onS (es : List PV) (x y i : Int) : Nat → Bool
  | 0 => false
  | n + 1 => onq es i (nx es i) x y || onS es x y (i + 1) n
def smS (es : List PV) (x y i : Int) : Nat → Int → Int
  | 0, acc => acc
  | n + 1, acc => smS es x y (i + 1) n (W (acc + ryq es i (nx es i) x y))
/-- The sum when a segment's on is met. -/
def smU (es : List PV) (x y i : Int) : Nat → Int → Int
  | 0, acc => acc
  | n + 1, acc => bif onq es i (nx es i) x y then acc else smU es x y (i + 1) n (W (acc + ryq es i (nx es i) x y))

noncomputable def pA : LS → Bool
  | ([.l _ es, .i l, .i i], [.i _, .l _ es2, .r r]) => decide (0 ≤ i) && decide (i ≤ (es.length : Int)) && big es && (decide (l = (es.length : Int)) && (same r (lrA .ready) && same es es2))
  | _ => false
noncomputable def fA : LS → DT (PX × List PV × List Row)
  | ([.l _ es, .i _, .i i], [.i sum, .l f2 es2, .r r]) => .leaf (.exit 0, tm 25 [], hA (arS es i ((es.length : Int) - i).toNat sum) f2 es2 r)
  | _ => .no
def mA : LS → Nat
  | ([.l _ es, .i _, .i i], [.i _, .l _ _, .r _]) => ((es.length : Int) - i).toNat
  | _ => 0
theorem sA : ∀ s r, pA s = true → (fA s).run = some r → r.1 ≠ .normal ∧ (runB Try.prog E37 60 145 (lpb Try.f145 1) [0, 1, 5, 6, 7] [] (shA.put s).1 (shA.put s).2 = some r ∨
      ∃ s', runB Try.prog E37 60 145 (lpb Try.f145 1) [0, 1, 5, 6, 7] [] (shA.put s).1 (shA.put s).2 = some (.normal, shA.put s') ∧ pA s' = true ∧ mA s' < mA s ∧ (fA s').run = some r) := by
  intro s r hp hr
  unfold pA at hp; split at hp
  · rename_i f es l i sum f2 es2 r0
    simp only [Bool.and_eq_true, decide_eq_true_eq, same_iff] at hp
    obtain ⟨⟨⟨h1, h2⟩, h3⟩, rfl, rfl, rfl⟩ := hp
    have hr' := (Option.some.inj hr).symm
    refine ⟨by rw [hr']; simp, ?_⟩
    rw [qA]
    have hw := W_id (n := i + 1) (by omega) (by omega)
    by_cases hi : i < (es.length : Int)
    · rw [decide_eq_true hi, cond_true, inr_of h1 hi, nz_of h1 hi, nxW_eq h1 hi h3, nx_inr h1 hi, hw]
      simp only [cond_true]
      obtain ⟨n, hn⟩ : ∃ n, ((es.length : Int) - i).toNat = n + 1 := ⟨((es.length : Int) - i).toNat - 1, by omega⟩
      rw [hn] at hr'
      simp only [arS] at hr'
      refine .inr ⟨lA f es (es.length : Int) (i + 1) (W (sum + crW es i (nx es i))) f2 es (lrA .ready), rfl, by simp [pA, same_self]; omega, by simp only [mA]; omega, ?_⟩
      rw [hr']
      simp only [fA]
      rw [show ((es.length : Int) - (i + 1)).toNat = n by omega]
      rfl
    · rw [decide_eq_false hi]
      rw [show ((es.length : Int) - i).toNat = 0 by omega] at hr'
      exact .inl (by rw [hr']; rfl)
  · cases hp
noncomputable def E37a : EnvK := E37.addW 145 1 [0, 1, 5, 6, 7] [] shA pA fA
theorem ok37a : EnvOK Try.prog E37a.env :=
  ok37.addW (n := 60) Try.func145 (show Try.f145.body = some (bod Try.f145) by kernel_rfl) (show (loops (bod Try.f145)).filter (fun b => rid b == 1) = [lpb Try.f145 1] by kernel_rfl) [0, 1, 5, 6, 7] [] [] shA mA sA
noncomputable def pB : LS → Bool
  | ([.l _ es, .i _, .i i], []) => decide (0 ≤ i) && decide (i ≤ (es.length : Int)) && big es
  | _ => false
noncomputable def fB : LS → DT (PX × List PV × List Row)
  | ([.l _ es, .i sum, .i i], []) => .leaf (.exit 0, tm 22 [(3, iv (arS es i ((es.length : Int) - i).toNat sum))], [])
  | _ => .no
def mB : LS → Nat
  | ([.l _ es, .i _, .i i], []) => ((es.length : Int) - i).toNat
  | _ => 0
theorem sB : ∀ s r, pB s = true → (fB s).run = some r → r.1 ≠ .normal ∧ (runB Try.prog E37 60 61 (lpb Try.f61 3) [0, 3, 4] [3] (shB.put s).1 (shB.put s).2 = some r ∨
      ∃ s', runB Try.prog E37 60 61 (lpb Try.f61 3) [0, 3, 4] [3] (shB.put s).1 (shB.put s).2 = some (.normal, shB.put s') ∧ pB s' = true ∧ mB s' < mB s ∧ (fB s').run = some r) := by
  intro s r hp hr
  unfold pB at hp; split at hp
  · rename_i f es sum i
    simp only [Bool.and_eq_true, decide_eq_true_eq] at hp
    obtain ⟨⟨h1, h2⟩, h3⟩ := hp
    have hr' := (Option.some.inj hr).symm
    refine ⟨by rw [hr']; simp, ?_⟩
    rw [qB]
    have hw := W_id (n := i + 1) (by omega) (by omega)
    by_cases hi : i < (es.length : Int)
    · rw [decide_eq_true hi, cond_true, inr_of h1 hi, nz_of h1 hi, nxW_eq h1 hi h3, nx_inr h1 hi, hw]
      simp only [cond_true]
      obtain ⟨n, hn⟩ : ∃ n, ((es.length : Int) - i).toNat = n + 1 := ⟨((es.length : Int) - i).toNat - 1, by omega⟩
      rw [hn] at hr'
      simp only [arS] at hr'
      refine .inr ⟨([.l f es, .i (W (sum + crW es i (nx es i))), .i (i + 1)], []), rfl, by simp [pB]; omega, by simp only [mB]; omega, ?_⟩
      rw [hr']
      simp only [fB]
      rw [show ((es.length : Int) - (i + 1)).toNat = n by omega]
      rfl
    · rw [decide_eq_false hi]
      rw [show ((es.length : Int) - i).toNat = 0 by omega] at hr'
      exact .inl (by rw [hr']; rfl)
  · cases hp
noncomputable def E37b : EnvK := E37.addW 61 3 [0, 3, 4] [] shB pB fB
theorem ok37b : EnvOK Try.prog E37b.env :=
  ok37.addW (n := 60) Try.func61 (show Try.f61.body = some (bod Try.f61) by kernel_rfl) (show (loops (bod Try.f61)).filter (fun b => rid b == 3) = [lpb Try.f61 3] by kernel_rfl) [0, 3, 4] [3] [] shB mB sB
noncomputable def pN : LS → Bool
  | ([.l _ es, .i l, .i i], [.i _, .i _, .i _, .i _, .l _ es2, .r r]) => decide (0 ≤ i) && decide (i ≤ (es.length : Int)) && big es && (decide (l = (es.length : Int)) && (same r (lrN .ready) && same es es2))
  | _ => false
noncomputable def fN : LS → DT (PX × List PV × List Row)
  | ([.l _ es, .i _, .i i], [.i x, .i y, .i res, .i sum, .l f2 es2, .r r]) => .br (onS es x y i ((es.length : Int) - i).toNat) (.leaf (.ret, tm 25 [], hN x y 0 (smU es x y i ((es.length : Int) - i).toNat sum) f2 es2 (lrN (.done .ret)))) (.leaf (.exit 0, tm 25 [], hN x y res (smS es x y i ((es.length : Int) - i).toNat sum) f2 es2 r))
  | _ => .no
def mN : LS → Nat
  | ([.l _ es, .i _, .i i], [.i _, .i _, .i _, .i _, .l _ _, .r _]) => ((es.length : Int) - i).toNat
  | _ => 0
theorem sN : ∀ s r, pN s = true → (fN s).run = some r → r.1 ≠ .normal ∧ (runB Try.prog E37 60 145 (lpb Try.f145 1) [0, 1, 5, 6, 7] [] (shN.put s).1 (shN.put s).2 = some r ∨
      ∃ s', runB Try.prog E37 60 145 (lpb Try.f145 1) [0, 1, 5, 6, 7] [] (shN.put s).1 (shN.put s).2 = some (.normal, shN.put s') ∧ pN s' = true ∧ mN s' < mN s ∧ (fN s').run = some r) := by
  intro s r hp hr
  unfold pN at hp; split at hp
  · rename_i f es l i x y res sum f2 es2 r0
    simp only [Bool.and_eq_true, decide_eq_true_eq, same_iff] at hp
    obtain ⟨⟨⟨h1, h2⟩, h3⟩, rfl, rfl, rfl⟩ := hp
    have hr' := run_br2 hr
    refine ⟨by rw [hr']; cases onS es x y i ((es.length : Int) - i).toNat <;> simp, ?_⟩
    rw [qN]
    have hw := W_id (n := i + 1) (by omega) (by omega)
    by_cases hi : i < (es.length : Int)
    · rw [decide_eq_true hi, cond_true, inr_of h1 hi, nz_of h1 hi, nxW_eq h1 hi h3, nx_inr h1 hi, hw]
      simp only [cond_true]
      obtain ⟨n, hn⟩ : ∃ n, ((es.length : Int) - i).toNat = n + 1 := ⟨((es.length : Int) - i).toNat - 1, by omega⟩
      rw [hn] at hr'
      simp only [onS, smS, smU] at hr'
      cases hE : onq es i (nx es i) x y with
      | true => rw [hE] at hr'; exact .inl (by rw [hr']; rfl)
      | false =>
        rw [hE] at hr'
        refine .inr ⟨lN f es (es.length : Int) (i + 1) x y res (W (sum + ryq es i (nx es i) x y)) f2 es (lrN .ready), rfl, by simp [pN, same_self]; omega, by simp only [mN]; omega, ?_⟩
        rw [hr']
        simp only [fN]
        rw [show ((es.length : Int) - (i + 1)).toNat = n by omega]
        simp only [Bool.false_or, cond_false]
        cases onS es x y (i + 1) n <;> rfl
    · rw [decide_eq_false hi]
      rw [show ((es.length : Int) - i).toNat = 0 by omega] at hr'
      exact .inl (by rw [hr']; rfl)
  · cases hp
noncomputable def E37c : EnvK := E37.addW 145 1 [0, 1, 5, 6, 7] [] shN pN fN
theorem ok37c : EnvOK Try.prog E37c.env :=
  ok37.addW (n := 60) Try.func145 (show Try.f145.body = some (bod Try.f145) by kernel_rfl) (show (loops (bod Try.f145)).filter (fun b => rid b == 1) = [lpb Try.f145 1] by kernel_rfl) [0, 1, 5, 6, 7] [] [] shN mN sN
noncomputable def pM : LS → Bool
  | ([.l _ es, .i _, .i i], [.i _, .i _]) => decide (0 ≤ i) && decide (i ≤ (es.length : Int)) && big es
  | _ => false
noncomputable def fM : LS → DT (PX × List PV × List Row)
  | ([.l f es, .i sum, .i i], [.i x, .i y]) => .br (onS es x y i ((es.length : Int) - i).toNat) (.leaf (.ret, tm 40 [(4, iv 0), (5, iv (smU es x y i ((es.length : Int) - i).toNat sum))], (shM.put ([.l f es, .i sum, .i i], [.i x, .i y])).2)) (.leaf (.exit 0, tm 40 [(5, iv (smS es x y i ((es.length : Int) - i).toNat sum))], (shM.put ([.l f es, .i sum, .i i], [.i x, .i y])).2))
  | _ => .no
def mM : LS → Nat
  | ([.l _ es, .i _, .i i], [.i _, .i _]) => ((es.length : Int) - i).toNat
  | _ => 0
theorem sM : ∀ s r, pM s = true → (fM s).run = some r → r.1 ≠ .normal ∧ (runB Try.prog E37 60 63 (lpb Try.f63 5) [0, 3, 5, 6] [4, 5] (shM.put s).1 (shM.put s).2 = some r ∨
      ∃ s', runB Try.prog E37 60 63 (lpb Try.f63 5) [0, 3, 5, 6] [4, 5] (shM.put s).1 (shM.put s).2 = some (.normal, shM.put s') ∧ pM s' = true ∧ mM s' < mM s ∧ (fM s').run = some r) := by
  intro s r hp hr
  unfold pM at hp; split at hp
  · rename_i f es sum i x y
    simp only [Bool.and_eq_true, decide_eq_true_eq] at hp
    obtain ⟨⟨h1, h2⟩, h3⟩ := hp
    have hr' := run_br2 hr
    refine ⟨by rw [hr']; cases onS es x y i ((es.length : Int) - i).toNat <;> simp, ?_⟩
    rw [qM]
    have hw := W_id (n := i + 1) (by omega) (by omega)
    by_cases hi : i < (es.length : Int)
    · rw [decide_eq_true hi, cond_true, inr_of h1 hi, nz_of h1 hi, nxW_eq h1 hi h3, nx_inr h1 hi, hw]
      simp only [cond_true]
      obtain ⟨n, hn⟩ : ∃ n, ((es.length : Int) - i).toNat = n + 1 := ⟨((es.length : Int) - i).toNat - 1, by omega⟩
      rw [hn] at hr'
      simp only [onS, smS, smU] at hr'
      cases hE : onq es i (nx es i) x y with
      | true => rw [hE] at hr'; exact .inl (by rw [hr']; rfl)
      | false =>
        rw [hE] at hr'
        refine .inr ⟨([.l f es, .i (W (sum + ryq es i (nx es i) x y)), .i (i + 1)], [.i x, .i y]), rfl, by simp [pM]; omega, by simp only [mM]; omega, ?_⟩
        rw [hr']
        simp only [fM]
        rw [show ((es.length : Int) - (i + 1)).toNat = n by omega]
        simp only [Bool.false_or, cond_false]
        cases onS es x y (i + 1) n <;> rfl
    · rw [decide_eq_false hi]
      rw [show ((es.length : Int) - i).toNat = 0 by omega] at hr'
      exact .inl (by rw [hr']; rfl)
  · cases hp
noncomputable def E37d : EnvK := E37.addW 63 5 [0, 3, 5, 6] [] shM pM fM
theorem ok37d : EnvOK Try.prog E37d.env :=
  ok37.addW (n := 60) Try.func63 (show Try.f63.body = some (bod Try.f63) by kernel_rfl) (show (loops (bod Try.f63)).filter (fun b => rid b == 5) = [lpb Try.f63 5] by kernel_rfl) [0, 3, 5, 6] [4, 5] [] shM mM sM
def ar2 (es : List PV) : Int := arS es 0 es.length 0
noncomputable def arT (f : Bool) (es : List PV) : Option PV := bif pA (lA f es (es.length : Int) 0 0 f es (lrA .ready)) then some (iv (arS es 0 ((es.length : Int) - 0).toNat 0)) else none
theorem qArea (f : Bool) (es : List PV) : runP Try.prog E37a 60 60 [.lst f 23 es] = arT f es := by kernel_rfl
theorem qRArea (f : Bool) (es : List PV) : runP Try.prog E37b 60 61 [.lst f 23 es] = bif pB ([.l f es, .i 0, .i 0], []) then some (iv (arS es 0 ((es.length : Int) - 0).toNat 0)) else none := by kernel_rfl
theorem qArea' (f : Bool) (es : List PV) (h : big es = true) : runP Try.prog E37a 60 60 [.lst f 23 es] = some (iv (ar2 es)) := by
  rw [qArea]; unfold arT ar2
  rw [show pA (lA f es (es.length : Int) 0 0 f es (lrA .ready)) = true by simp [pA, same_self]; simpa using h, show ((es.length : Int) - 0).toNat = es.length by omega]; rfl
theorem qRArea' (f : Bool) (es : List PV) (h : big es = true) : runP Try.prog E37b 60 61 [.lst f 23 es] = some (iv (ar2 es)) := by
  rw [qRArea]; unfold ar2
  rw [show pB ([.l f es, .i 0, .i 0], []) = true by simp [pB]; simpa using h, show ((es.length : Int) - 0).toNat = es.length by omega]; rfl
def cArea : List PV → Option (DT PV) | [.lst _ 23 es] => some (.br (big es) (.leaf (iv (ar2 es))) .no) | _ => none
theorem eArea : Enters Try.prog 60 := (runP_sound ok37a (qArea' true [] rfl)).1
theorem eRArea : Enters Try.prog 61 := (runP_sound ok37b (qRArea' true [] rfl)).1
theorem oArea (args : List PV) (d : DT PV) (r : PV) (h : cArea args = some d) (hr : d.run = some r) : PCall Try.prog 60 args r := by
  unfold cArea at h; split at h
  · rename_i f es; cases h; obtain ⟨h1, rfl⟩ := run_br hr; exact (runP_sound ok37a (qArea' f es h1)).2
  · cases h
theorem oRArea (args : List PV) (d : DT PV) (r : PV) (h : cArea args = some d) (hr : d.run = some r) : PCall Try.prog 61 args r := by
  unfold cArea at h; split at h
  · rename_i f es; cases h; obtain ⟨h1, rfl⟩ := run_br hr; exact (runP_sound ok37b (qRArea' f es h1)).2
  · cases h
/-- P6.5. -/
def ins (es : List PV) (x y : Int) : Int := bif rchk es != 0 then -1 else bif onS es x y 0 es.length then 0 else bif smS es x y 0 es.length 0 == 0 then -1 else 1
noncomputable def insT (f : Bool) (es : List PV) (x y : Int) : Option PV := bif rchk es != 0 then some (iv (-1)) else bif pN (lN f es (es.length : Int) 0 x y 0 0 f es (lrN .ready)) then
    bif onS es x y 0 ((es.length : Int) - 0).toNat then some (iv 0) else bif smS es x y 0 ((es.length : Int) - 0).toNat 0 == 0 then some (iv (-1)) else some (iv 1) else none
theorem qIns (f : Bool) (es : List PV) (x y : Int) : runP Try.prog E37c 60 62 [.lst f 23 es, ptv x y] = insT f es x y := by kernel_rfl
theorem qRIns (f : Bool) (es : List PV) (x y : Int) : runP Try.prog E37d 60 63 [.lst f 23 es, ptv x y] = bif rchk es != 0 then some (iv (-1)) else bif pM ([.l f es, .i 0, .i 0], [.i x, .i y]) then
    bif onS es x y 0 ((es.length : Int) - 0).toNat then some (iv 0) else bif smS es x y 0 ((es.length : Int) - 0).toNat 0 == 0 then some (iv (-1)) else some (iv 1) else none := by kernel_rfl
theorem qIns' (f : Bool) (es : List PV) (x y : Int) (h : big es = true) : runP Try.prog E37c 60 62 [.lst f 23 es, ptv x y] = some (iv (ins es x y)) := by
  rw [qIns]; unfold insT ins
  rw [show pN (lN f es (es.length : Int) 0 x y 0 0 f es (lrN .ready)) = true by simp [pN, same_self]; simpa using h, show ((es.length : Int) - 0).toNat = es.length by omega]
  cases rchk es != 0 <;> cases onS es x y 0 es.length <;> cases smS es x y 0 es.length 0 == 0 <;> rfl
theorem qRIns' (f : Bool) (es : List PV) (x y : Int) (h : big es = true) : runP Try.prog E37d 60 63 [.lst f 23 es, ptv x y] = some (iv (ins es x y)) := by
  rw [qRIns]; unfold ins
  rw [show pM ([.l f es, .i 0, .i 0], [.i x, .i y]) = true by simp [pM]; simpa using h, show ((es.length : Int) - 0).toNat = es.length by omega]
  cases rchk es != 0 <;> cases onS es x y 0 es.length <;> cases smS es x y 0 es.length 0 == 0 <;> rfl
def cIns : List PV → Option (DT PV) | [.lst _ 23 es, .agg [.val (.int .i64 x), .val (.int .i64 y)]] => some (.br (big es) (.leaf (iv (ins es x y))) .no) | _ => none
theorem eIns : Enters Try.prog 62 := (runP_sound ok37c (qIns' true [] 0 0 rfl)).1
theorem eRIns : Enters Try.prog 63 := (runP_sound ok37d (qRIns' true [] 0 0 rfl)).1
theorem oIns (args : List PV) (d : DT PV) (r : PV) (h : cIns args = some d) (hr : d.run = some r) : PCall Try.prog 62 args r := by
  unfold cIns at h; split at h
  · rename_i f es x y; cases h; obtain ⟨h1, rfl⟩ := run_br hr; exact (runP_sound ok37c (qIns' f es x y h1)).2
  · cases h
theorem oRIns (args : List PV) (d : DT PV) (r : PV) (h : cIns args = some d) (hr : d.run = some r) : PCall Try.prog 63 args r := by
  unfold cIns at h; split at h
  · rename_i f es x y; cases h; obtain ⟨h1, rfl⟩ := run_br hr; exact (runP_sound ok37d (qRIns' f es x y h1)).2
  · cases h
noncomputable def E38 : EnvK := (((E36.addF 60 cArea).addF 61 cArea).addF 62 cIns).addF 63 cIns
theorem ok38 : EnvOK Try.prog E38.env := (((ok36.addF eArea oArea).addF eRArea oRArea).addF eIns oIns).addF eRIns oRIns
end Go.Hg
/- Geometry: LineCorners: the sanity of chapter 05; a point in a triangle, as a plain function. -/
namespace Go.Hg
open Go.Hx Go.Proofs
noncomputable def C0 : EnvK := (E38.addK 119).addK 149
theorem okC0 : EnvOK Try.prog C0.env := (ok38.addK 119).addK 149
theorem qSan5c : runP Try.prog C0 100 68 [] = some (bv true) := by kernel_rfl
def cSan5c : List PV → Option PV | [] => some (bv true) | _ => none
theorem oSan5c (args : List PV) (r : PV) (h : cSan5c args = some r) : Enters Try.prog 68 ∧ PCall Try.prog 68 args r := by
  unfold cSan5c at h; split at h
  · cases h; exact runP_sound okC0 (n := 100) qSan5c
  · cases h
noncomputable def C1 : EnvK := C0.addO 68 cSan5c
theorem okC1 : EnvOK Try.prog C1.env := okC0.addO oSan5c
def mn2 (p q : Int) : Int := if q < p then q else p
def mx2 (p q : Int) : Int := if q > p then q else p
theorem qIn (a b c d e f x y : Int) : runP Try.prog C1 60 127 [ptv a b, ptv c d, ptv e f, ptv x y] =
  bif decide (sd a b c d e f = 0) then (bif onX a b c d x y then some (bv true) else bif onX c d e f x y then some (bv true) else some (bv (onX e f a b x y)))
  else some (bv (decide (W (mn2 (mn2 (sd a b c d x y) (sd c d e f x y)) (sd e f a b x y) * mx2 (mx2 (sd a b c d x y) (sd c d e f x y)) (sd e f a b x y)) ≥ 0))) := by kernel_rfl
end Go.Hg
/- Geometry: LineCorners: line.in as a contract; line.In, line.Touches. -/
namespace Go.Hg
open Go.Hx Go.Proofs
/-- A point in a triangle, as one Bool. -/
def inTr (a b c d e f x y : Int) : Bool :=
  bif decide (sd a b c d e f = 0) then onX a b c d x y || (onX c d e f x y || onX e f a b x y)
  else decide (W (mn2 (mn2 (sd a b c d x y) (sd c d e f x y)) (sd e f a b x y) * mx2 (mx2 (sd a b c d x y) (sd c d e f x y)) (sd e f a b x y)) ≥ 0)
def cIn : List PV → Option PV
  | [.agg [.val (.int .i64 a), .val (.int .i64 b)], .agg [.val (.int .i64 c), .val (.int .i64 d)], .agg [.val (.int .i64 e), .val (.int .i64 f)], .agg [.val (.int .i64 x), .val (.int .i64 y)]] => some (bv (inTr a b c d e f x y))
  | _ => none
theorem oIn (args : List PV) (r : PV) (h : cIn args = some r) : Enters Try.prog 127 ∧ PCall Try.prog 127 args r := by
  unfold cIn at h; split at h
  · rename_i a b c d e f x y; cases h
    refine runP_sound okC1 (n := 60) (Eq.trans (qIn a b c d e f x y) ?_)
    unfold inTr
    cases decide (sd a b c d e f = 0) <;> cases onX a b c d x y <;> cases onX c d e f x y <;> rfl
  · cases h
noncomputable def C2 : EnvK := C1.addO 127 cIn
theorem okC2 : EnvOK Try.prog C2.env := okC1.addO oIn
end Go.Hg
/- Geometry: LineCorners: line.In as a plain function. -/
namespace Go.Hg
open Go.Hx Go.Proofs
theorem qTIn (a b c d e f x y : Int) : runP Try.prog C2 60 76 [ptv a b, ptv c d, ptv e f, ptv x y] =
  bif fin [ptv a b, ptv c d, ptv e f, ptv x y] then some (bv (inTr a b c d e f x y)) else some (bv false) := by kernel_rfl
/-- A point in a triangle, all four right. -/
def inR (a b c d e f x y : Int) : Bool := fin [ptv a b, ptv c d, ptv e f, ptv x y] && inTr a b c d e f x y
def cTIn : List PV → Option PV
  | [.agg [.val (.int .i64 a), .val (.int .i64 b)], .agg [.val (.int .i64 c), .val (.int .i64 d)], .agg [.val (.int .i64 e), .val (.int .i64 f)], .agg [.val (.int .i64 x), .val (.int .i64 y)]] => some (bv (inR a b c d e f x y))
  | _ => none
theorem oTIn (args : List PV) (r : PV) (h : cTIn args = some r) : Enters Try.prog 76 ∧ PCall Try.prog 76 args r := by
  unfold cTIn at h; split at h
  · rename_i a b c d e f x y; cases h
    refine runP_sound okC2 (n := 60) (Eq.trans (qTIn a b c d e f x y) ?_)
    unfold inR
    cases fin [ptv a b, ptv c d, ptv e f, ptv x y] <;> rfl
  · cases h
noncomputable def C3 : EnvK := C2.addO 76 cTIn
theorem okC3 : EnvOK Try.prog C3.env := okC2.addO oTIn
end Go.Hg
/- Geometry: a point in a triangle lies in its box (no program in sight). -/
namespace Go.Hg
theorem tri_lt {p q r D a c e x : Int} (hp : 0 ≤ p) (hq : 0 ≤ q) (hr : 0 ≤ r) (hs : p + q + r = D) (hD : 0 < D) (hx : D * x = p * a + q * c + r * e) (h1 : a < x) (h2 : c < x) (h3 : e < x) : False := by
  have k1 : p * a ≤ p * (x - 1) := Int.mul_le_mul_of_nonneg_left (by omega) hp
  have k2 : q * c ≤ q * (x - 1) := Int.mul_le_mul_of_nonneg_left (by omega) hq
  have k3 : r * e ≤ r * (x - 1) := Int.mul_le_mul_of_nonneg_left (by omega) hr
  have k4 : D * (x - 1) = p * (x - 1) + q * (x - 1) + r * (x - 1) := by rw [← hs, Int.add_mul, Int.add_mul]
  have k5 : D * (x - 1) = D * x - D := by rw [Int.mul_sub, Int.mul_one]
  omega
theorem tri_gt {p q r D a c e x : Int} (hp : 0 ≤ p) (hq : 0 ≤ q) (hr : 0 ≤ r) (hs : p + q + r = D) (hD : 0 < D) (hx : D * x = p * a + q * c + r * e) (h1 : x < a) (h2 : x < c) (h3 : x < e) : False := by
  refine tri_lt (a := -a) (c := -c) (e := -e) (x := -x) hp hq hr hs hD ?_ (by omega) (by omega) (by omega)
  rw [Int.mul_neg, Int.mul_neg, Int.mul_neg, Int.mul_neg, hx]; omega
/-- The three areas of a point and a triangle's sides. -/
def ar (a b c d x y : Int) : Int := (c - a) * (y - b) - (d - b) * (x - a)
theorem ar_sum (a b c d e f x y : Int) : ar c d e f x y + ar e f a b x y + ar a b c d x y = ar a b c d e f := by
  unfold ar; grind
theorem ar_x (a b c d e f x y : Int) : ar a b c d e f * x = ar c d e f x y * a + ar e f a b x y * c + ar a b c d x y * e := by
  unfold ar; grind
theorem ar_y (a b c d e f x y : Int) : ar a b c d e f * y = ar c d e f x y * b + ar e f a b x y * d + ar a b c d x y * f := by
  unfold ar; grind
/-- Sides that do not differ in sign: the point is in the triangle's box. -/
theorem tri_box {a b c d e f x y : Int} (hD : ar a b c d e f ≠ 0)
    (h : (0 ≤ ar a b c d x y ∧ 0 ≤ ar c d e f x y ∧ 0 ≤ ar e f a b x y) ∨ (ar a b c d x y ≤ 0 ∧ ar c d e f x y ≤ 0 ∧ ar e f a b x y ≤ 0)) :
    ¬ (a < x ∧ c < x ∧ e < x) ∧ ¬ (x < a ∧ x < c ∧ x < e) ∧ ¬ (b < y ∧ d < y ∧ f < y) ∧ ¬ (y < b ∧ y < d ∧ y < f) := by
  have hs := ar_sum a b c d e f x y
  have hx := ar_x a b c d e f x y
  have hy := ar_y a b c d e f x y
  generalize ar a b c d e f = D at *
  generalize ar a b c d x y = r at *
  generalize ar c d e f x y = p at *
  generalize ar e f a b x y = q at *
  rcases h with ⟨h1, h2, h3⟩ | ⟨h1, h2, h3⟩
  · have hD' : 0 < D := by omega
    exact ⟨fun ⟨g1, g2, g3⟩ => tri_lt h2 h3 h1 (by omega) hD' hx g1 g2 g3, fun ⟨g1, g2, g3⟩ => tri_gt h2 h3 h1 (by omega) hD' hx g1 g2 g3,
      fun ⟨g1, g2, g3⟩ => tri_lt h2 h3 h1 (by omega) hD' hy g1 g2 g3, fun ⟨g1, g2, g3⟩ => tri_gt h2 h3 h1 (by omega) hD' hy g1 g2 g3⟩
  · have hD' : 0 < -D := by omega
    have hx' : -D * x = -p * a + -q * c + -r * e := by simp only [Int.neg_mul]; omega
    have hy' : -D * y = -p * b + -q * d + -r * f := by simp only [Int.neg_mul]; omega
    exact ⟨fun ⟨g1, g2, g3⟩ => tri_lt (by omega) (by omega) (by omega) (by omega) hD' hx' g1 g2 g3, fun ⟨g1, g2, g3⟩ => tri_gt (by omega) (by omega) (by omega) (by omega) hD' hx' g1 g2 g3,
      fun ⟨g1, g2, g3⟩ => tri_lt (by omega) (by omega) (by omega) (by omega) hD' hy' g1 g2 g3, fun ⟨g1, g2, g3⟩ => tri_gt (by omega) (by omega) (by omega) (by omega) hD' hy' g1 g2 g3⟩
end Go.Hg
