/- Geometry: contracts: Mod, Turn. -/
import Derived.Test.YtneklpbkfmljfaaHgI
namespace Go.Hg
open Go.Hx Go.Proofs
def dMod : List PV → Option (DT PV) | [.val (.int .i64 n), .val (.int .i64 m)] => some (.br (decide (0 < m) && decide (m ≤ 4611686018427387904)) (.leaf (iv (n % m))) .no) | _ => none
def tpx (a b n : Int) : Int := if n % 4 = 1 then W (0 - b) else if n % 4 = 2 then W (0 - a) else if n % 4 = 3 then b else a
def tpy (a b n : Int) : Int := if n % 4 = 1 then a else if n % 4 = 2 then W (0 - b) else if n % 4 = 3 then W (0 - a) else b
def cTurn : List PV → Option PV | [.agg [.val (.int .i64 a), .val (.int .i64 b)], .val (.int .i64 n)] => some (ptv (tpx a b n) (tpy a b n)) | _ => none
theorem qMod (n m : Int) : runP Try.prog {} 60 30 [iv n, iv m] = bif !decide (m = 0) then (bif !decide (m = 0) then some (iv (Int.tmod (W (Int.tmod n m + m)) m)) else none) else none := by kernel_rfl
theorem mod_math {n m : Int} (h0 : 0 < m) (h1 : m ≤ 4611686018427387904) : Int.tmod (W (Int.tmod n m + m)) m = n % m := by
  have hb := Int.lt_tmod_of_pos n h0
  have hb2 := Int.tmod_lt_of_pos n h0
  rw [W_id (by omega) (by omega), Int.tmod_eq_emod_of_nonneg (by omega), Int.add_emod_right]
  rcases Int.le_total 0 n with hn | hn
  · rw [Int.tmod_eq_emod_of_nonneg hn, Int.emod_emod]
  · rw [Int.tmod_def, Int.sub_emod, Int.mul_emod_right]; simp
theorem eMod : Enters Try.prog 30 := (runP_sound envOK_zero (n := 60) (args := [iv 0, iv 1]) (p := iv 0) (by kernel_rfl)).1
theorem oMod (args : List PV) (d : DT PV) (r : PV) (h : dMod args = some d) (hd : d.run = some r) : PCall Try.prog 30 args r := by
  unfold dMod at h; split at h
  · rename_i n m
    cases h
    simp only [DT.run] at hd
    by_cases h0 : 0 < m
    · by_cases h1 : m ≤ 4611686018427387904
      · simp only [h0, h1, decide_true, Bool.and_true, cond_true] at hd
        cases hd
        refine (runP_sound envOK_zero (n := 60) ?_).2
        rw [qMod]
        have hm : decide (m = 0) = false := by simp; omega
        rw [hm, mod_math h0 h1]; rfl
      · simp [h1] at hd
    · simp [h0] at hd
  · cases h
theorem qTurn (a b n : Int) : runP Try.prog {} 60 36 [ptv a b, iv n] = bif bits .and .i64 n 3 == 1 then some (ptv (W (0 - b)) a) else bif bits .and .i64 n 3 == 2 then some (ptv (W (0 - a)) (W (0 - b))) else bif bits .and .i64 n 3 == 3 then some (ptv b (W (0 - a))) else some (ptv a b) := by kernel_rfl
theorem and3 (n : Int) : bits .and .i64 n 3 = n % 4 := by
  have h1 : BitVec.ofInt 64 3 = BitVec.ofNat 64 3 := rfl
  show IntKind.i64.wrap ((BitVec.ofInt 64 n &&& BitVec.ofInt 64 3).toNat : Int) = _
  have h2 : (BitVec.ofInt 64 n &&& BitVec.ofInt 64 3).toNat = (BitVec.ofInt 64 n).toNat % 4 := by
    rw [BitVec.toNat_and, h1]
    show (BitVec.ofInt 64 n).toNat &&& (2 ^ 2 - 1) = _
    rw [Nat.and_two_pow_sub_one_eq_mod]
  rw [h2]
  have h3 : ((BitVec.ofInt 64 n).toNat : Int) = n % 18446744073709551616 := by
    rw [BitVec.toNat_ofInt]
    omega
  rw [show (((BitVec.ofInt 64 n).toNat % 4 : Nat) : Int) = ((BitVec.ofInt 64 n).toNat : Int) % 4 by omega, h3]
  have := W_id (n := n % 18446744073709551616 % 4) (by omega) (by omega)
  rw [show IntKind.i64.wrap (n % 18446744073709551616 % 4) = n % 18446744073709551616 % 4 from this]
  omega
theorem oTurn (args : List PV) (r : PV) (h : cTurn args = some r) : Enters Try.prog 36 ∧ PCall Try.prog 36 args r := by
  unfold cTurn at h; split at h
  · cases h
    refine runP_sound envOK_zero (n := 60) ?_
    rename_i a b n
    rw [qTurn, and3]; unfold tpx tpy
    by_cases h1 : n % 4 = 1
    · simp [h1]
    · by_cases h2 : n % 4 = 2
      · simp [h2]
      · by_cases h3 : n % 4 = 3
        · simp [h3]
        · have e1 : (n % 4 == 1) = false := by simpa using h1
          have e2 : (n % 4 == 2) = false := by simpa using h2
          have e3 : (n % 4 == 3) = false := by simpa using h3
          simp only [e1, e2, e3, h1, h2, h3, cond_false, if_false]
  · cases h
/-- Mod by 4 that leaves r. -/
def m4 (r : Int) : List PV → Option (DT PV) | [.val (.int .i64 n), .val (.int .i64 4)] => some (.br (decide (n % 4 = r)) (.leaf (iv r)) .no) | _ => none
theorem om4 (r : Int) (args : List PV) (d : DT PV) (p : PV) (h : m4 r args = some d) (hd : d.run = some p) : PCall Try.prog 30 args p := by
  unfold m4 at h; split at h
  · rename_i n
    cases h
    simp only [DT.run] at hd
    by_cases h0 : n % 4 = r
    · simp only [h0, decide_true, cond_true] at hd
      cases hd
      rw [← h0]
      exact oMod [iv n, iv 4] _ _ rfl rfl
    · simp [h0] at hd
  · cases h
def ET (r : Int) : EnvK := ({} : EnvK).addD 30 (m4 r)
theorem okT (r : Int) : EnvOK Try.prog (ET r).env := envOK_zero.addD eMod (om4 r)
/-- hachureref04.Turn. -/
def trx (a b n : Int) : Int := if n % 4 = 0 then a else if n % 4 = 1 then W (0 - b) else if n % 4 = 2 then W (0 - a) else W (0 - W (0 - b))
def tryy (a b n : Int) : Int := if n % 4 = 0 then b else if n % 4 = 1 then a else if n % 4 = 2 then W (0 - b) else W (0 - a)
def cRTurn : List PV → Option PV | [.agg [.val (.int .i64 a), .val (.int .i64 b)], .val (.int .i64 n)] => some (ptv (trx a b n) (tryy a b n)) | _ => none
theorem qRTurn_0 (a b n : Int) : runP Try.prog (ET 0) 60 48 [ptv a b, iv n] = bif decide (n % 4 = 0) then some (ptv a b) else none := by kernel_rfl
theorem qRTurn_1 (a b n : Int) : runP Try.prog (ET 1) 60 48 [ptv a b, iv n] = bif decide (n % 4 = 1) then bif decide (n % 4 = 1) then some (ptv (W (0 - b)) a) else none else none := by kernel_rfl
theorem qRTurn_2 (a b n : Int) : runP Try.prog (ET 2) 60 48 [ptv a b, iv n] = bif decide (n % 4 = 2) then bif decide (n % 4 = 2) then bif decide (n % 4 = 2) then some (ptv (W (0 - a)) (W (0 - b))) else none else none else none := by kernel_rfl
theorem qRTurn_3 (a b n : Int) : runP Try.prog (ET 3) 60 48 [ptv a b, iv n] = bif decide (n % 4 = 3) then bif decide (n % 4 = 3) then bif decide (n % 4 = 3) then bif decide (n % 4 = 3) then some (ptv (W (0 - W (0 - b))) (W (0 - a))) else none else none else none else none := by kernel_rfl
theorem oRTurn (args : List PV) (r : PV) (h : cRTurn args = some r) : Enters Try.prog 48 ∧ PCall Try.prog 48 args r := by
  unfold cRTurn at h; split at h
  · rename_i a b n
    cases h
    have h4 : n % 4 = 0 ∨ n % 4 = 1 ∨ n % 4 = 2 ∨ n % 4 = 3 := by omega
    rcases h4 with h | h | h | h
    · exact runP_sound (okT 0) (n := 60) (by rw [qRTurn_0]; simp [h, trx, tryy])
    · exact runP_sound (okT 1) (n := 60) (by rw [qRTurn_1]; simp [h, trx, tryy])
    · exact runP_sound (okT 2) (n := 60) (by rw [qRTurn_2]; simp [h, trx, tryy])
    · exact runP_sound (okT 3) (n := 60) (by rw [qRTurn_3]; simp [h, trx, tryy])
  · cases h
def E12 : EnvK := ((E11.addF 30 dMod).addO 36 cTurn).addO 48 cRTurn
theorem ok12 : EnvOK Try.prog E12.env := ((ok11.addF eMod oMod).addO oTurn).addO oRTurn
end Go.Hg
