/- The view: contracts of the small functions. -/
import Derived.Test.YtmcbhfkaedchdaaProg
import Derived.Test.YtmcbhfkaedchdaaHxShape
import Derived.KernelRfl
namespace Go.Hv
open Go.Hx Go.Proofs

abbrev iv (n : Int) : PV := PV.val (.int .i64 n)
abbrev bv (b : Bool) : PV := PV.val (.bool b)
abbrev ptv (x y : Int) : PV := .agg [iv x, iv y]
abbrev vwv (ax ay ux uy w h hr : Int) : PV := .agg [iv ax, iv ay, iv ux, iv uy, iv w, iv h, iv hr]
abbrev W (n : Int) : Int := IntKind.wrap .i64 n
theorem W_eq (n : Int) : W n = (n + 9223372036854775808) % 18446744073709551616 - 9223372036854775808 := by
  show (if (true && decide (n % (2 ^ 64 : Int) ≥ (2 ^ 63 : Int))) = true then n % (2 ^ 64 : Int) - (2 ^ 64 : Int) else n % (2 ^ 64 : Int)) = _
  simp only [Bool.true_and, decide_eq_true_eq]
  split <;> omega
theorem W_id {n : Int} (h1 : -9223372036854775808 ≤ n) (h2 : n < 9223372036854775808) : W n = n := by rw [W_eq]; omega
theorem W_range (n : Int) : -9223372036854775808 ≤ W n ∧ W n < 9223372036854775808 := by rw [W_eq]; omega

def subX (a c : Int) : Int := W (a - c)
def addX (a c : Int) : Int := W (a + c)
def dotX (a b c d : Int) : Int := W (W (a * c) + W (b * d))
def crsX (a b c d : Int) : Int := W (W (a * d) - W (b * c))
def bey (a b : Int) : Bool := decide (a < W (0 - b)) || decide (a > b)
def farX (a b : Int) : Bool := decide (a < -1048576) || decide (a > 1048576) || (decide (b < -1048576) || decide (b > 1048576))
def wx (ax ux uy i j : Int) : Int := W (W (ax + W (i * ux)) - W (j * uy))
def wy (ay ux uy i j : Int) : Int := W (W (ay + W (i * uy)) + W (j * ux))
def btw (n a b : Int) : Bool := decide (a ≤ n) && decide (n ≤ b)
/-- point.Turn. -/
def tpx (a b n : Int) : Int := if n % 4 = 1 then W (0 - b) else if n % 4 = 2 then W (0 - a) else if n % 4 = 3 then b else a
def tpy (a b n : Int) : Int := if n % 4 = 1 then a else if n % 4 = 2 then W (0 - b) else if n % 4 = 3 then W (0 - a) else b

def c26 : List PV → Option PV | [.agg [.val (.int .i64 a), .val (.int .i64 b)], .agg [.val (.int .i64 c), .val (.int .i64 d)]] => some (ptv (subX a c) (subX b d)) | _ => none
def c27 : List PV → Option PV | [.agg [.val (.int .i64 a), .val (.int .i64 b)], .agg [.val (.int .i64 c), .val (.int .i64 d)]] => some (iv (dotX a b c d)) | _ => none
def c28 : List PV → Option PV | [.agg [.val (.int .i64 a), .val (.int .i64 b)], .agg [.val (.int .i64 c), .val (.int .i64 d)]] => some (ptv (addX a c) (addX b d)) | _ => none
def c42 : List PV → Option PV | [.agg [.val (.int .i64 a), .val (.int .i64 b)], .agg [.val (.int .i64 c), .val (.int .i64 d)]] => some (iv (crsX a b c d)) | _ => none
def c29 : List PV → Option PV | [.agg [.val (.int .i64 a), .val (.int .i64 b)], .val (.int .i64 n)] => some (ptv (tpx a b n) (tpy a b n)) | _ => none
def c32 : List PV → Option PV | [.val (.int .i64 a), .val (.int .i64 b)] => some (bv (bey a b)) | _ => none
def c33 : List PV → Option PV | [.agg [.val (.int .i64 a), .val (.int .i64 b)]] => some (bv (farX a b)) | _ => none
def c37 : List PV → Option PV
  | [.agg [.val (.int .i64 ax), .val (.int .i64 ay), .val (.int .i64 ux), .val (.int .i64 uy), .val (.int .i64 _), .val (.int .i64 _), .val (.int .i64 _)], .agg [.val (.int .i64 i), .val (.int .i64 j)]] => some (ptv (wx ax ux uy i j) (wy ay ux uy i j))
  | _ => none
def c14 : List PV → Option PV
  | [.agg [.val (.int .i64 ax), .val (.int .i64 ay), .val (.int .i64 ux), .val (.int .i64 uy), .val (.int .i64 _), .val (.int .i64 _), .val (.int .i64 _)], .val (.int .i64 i), .val (.int .i64 j)] => some (ptv (wx ax ux uy i j) (wy ay ux uy i j))
  | _ => none
def c38 : List PV → Option PV | [.val (.int .i64 n), .val (.int .i64 a), .val (.int .i64 b)] => some (bv (btw n a b)) | _ => none
/-- Mod, for positive moduli. -/
def d25 : List PV → Option (DT PV) | [.val (.int .i64 n), .val (.int .i64 m)] => some (.br (decide (0 < m) && decide (m ≤ 4611686018427387904)) (.leaf (iv (n % m))) .no) | _ => none

theorem o26 (args : List PV) (r : PV) (h : c26 args = some r) : Enters Try.prog 26 ∧ PCall Try.prog 26 args r := by
  unfold c26 at h; split at h
  · cases h; exact runP_sound envOK_zero (n := 60) (by kernel_rfl)
  · cases h
theorem o27 (args : List PV) (r : PV) (h : c27 args = some r) : Enters Try.prog 27 ∧ PCall Try.prog 27 args r := by
  unfold c27 at h; split at h
  · cases h; exact runP_sound envOK_zero (n := 60) (by kernel_rfl)
  · cases h
theorem o28 (args : List PV) (r : PV) (h : c28 args = some r) : Enters Try.prog 28 ∧ PCall Try.prog 28 args r := by
  unfold c28 at h; split at h
  · cases h; exact runP_sound envOK_zero (n := 60) (by kernel_rfl)
  · cases h
theorem o42 (args : List PV) (r : PV) (h : c42 args = some r) : Enters Try.prog 42 ∧ PCall Try.prog 42 args r := by
  unfold c42 at h; split at h
  · cases h; exact runP_sound envOK_zero (n := 60) (by kernel_rfl)
  · cases h
theorem q32 (a b : Int) : runP Try.prog {} 60 32 [iv a, iv b] = bif decide (a < W (0 - b)) then some (bv true) else some (bv (decide (a > b))) := by kernel_rfl
theorem o32 (args : List PV) (r : PV) (h : c32 args = some r) : Enters Try.prog 32 ∧ PCall Try.prog 32 args r := by
  unfold c32 at h; split at h
  · cases h
    refine runP_sound envOK_zero (n := 60) ?_
    rw [q32]; unfold bey
    rename_i a b
    cases decide (a < W (0 - b)) <;> rfl
  · cases h
theorem q33 (a b : Int) : runP Try.prog {} 60 33 [ptv a b] = bif decide (a < -1048576) then some (bv true) else bif decide (a > 1048576) then some (bv true) else bif decide (b < -1048576) then some (bv true) else some (bv (decide (b > 1048576))) := by kernel_rfl
theorem o33 (args : List PV) (r : PV) (h : c33 args = some r) : Enters Try.prog 33 ∧ PCall Try.prog 33 args r := by
  unfold c33 at h; split at h
  · cases h
    refine runP_sound envOK_zero (n := 60) ?_
    rw [q33]; unfold farX
    rename_i a b
    cases decide (a < -1048576) <;> cases decide (a > 1048576) <;> cases decide (b < -1048576) <;> rfl
  · cases h
theorem o37 (args : List PV) (r : PV) (h : c37 args = some r) : Enters Try.prog 37 ∧ PCall Try.prog 37 args r := by
  unfold c37 at h; split at h
  · cases h; exact runP_sound envOK_zero (n := 60) (by kernel_rfl)
  · cases h
theorem o14 (args : List PV) (r : PV) (h : c14 args = some r) : Enters Try.prog 14 ∧ PCall Try.prog 14 args r := by
  unfold c14 at h; split at h
  · cases h; exact runP_sound envOK_zero (n := 60) (by kernel_rfl)
  · cases h
theorem o15 (args : List PV) (r : PV) (h : c14 args = some r) : Enters Try.prog 15 ∧ PCall Try.prog 15 args r := by
  unfold c14 at h; split at h
  · cases h; exact runP_sound envOK_zero (n := 60) (by kernel_rfl)
  · cases h
theorem q38 (n a b : Int) : runP Try.prog {} 60 38 [iv n, iv a, iv b] = bif decide (a ≤ n) then some (bv (decide (n ≤ b))) else some (bv false) := by kernel_rfl
theorem o38 (args : List PV) (r : PV) (h : c38 args = some r) : Enters Try.prog 38 ∧ PCall Try.prog 38 args r := by
  unfold c38 at h; split at h
  · cases h
    refine runP_sound envOK_zero (n := 60) ?_
    rw [q38]; unfold btw
    rename_i n a b
    cases decide (a ≤ n) <;> rfl
  · cases h
theorem q25 (n m : Int) : runP Try.prog {} 60 25 [iv n, iv m] = bif !decide (m = 0) then (bif !decide (m = 0) then some (iv (Int.tmod (W (Int.tmod n m + m)) m)) else none) else none := by kernel_rfl
theorem mod_math {n m : Int} (h0 : 0 < m) (h1 : m ≤ 4611686018427387904) : Int.tmod (W (Int.tmod n m + m)) m = n % m := by
  have hb := Int.lt_tmod_of_pos n h0
  have hb2 := Int.tmod_lt_of_pos n h0
  rw [W_id (by omega) (by omega), Int.tmod_eq_emod_of_nonneg (by omega), Int.add_emod_right]
  rcases Int.le_total 0 n with hn | hn
  · rw [Int.tmod_eq_emod_of_nonneg hn, Int.emod_emod]
  · rw [Int.tmod_def, Int.sub_emod, Int.mul_emod_right]; simp
theorem e25 : Enters Try.prog 25 := (runP_sound envOK_zero (n := 60) (args := [iv 0, iv 1]) (p := iv 0) (by kernel_rfl)).1
theorem o25 (args : List PV) (d : DT PV) (r : PV) (h : d25 args = some d) (hd : d.run = some r) : PCall Try.prog 25 args r := by
  unfold d25 at h; split at h
  · rename_i n m
    cases h
    simp only [DT.run] at hd
    by_cases h0 : 0 < m
    · by_cases h1 : m ≤ 4611686018427387904
      · simp only [h0, h1, decide_true, Bool.and_true, cond_true] at hd
        cases hd
        refine (runP_sound envOK_zero (n := 60) ?_).2
        rw [q25]
        have hm : decide (m = 0) = false := by simp; omega
        rw [hm, mod_math h0 h1]; rfl
      · simp [h1] at hd
    · simp [h0] at hd
  · cases h
theorem q29 (a b n : Int) : runP Try.prog {} 60 29 [ptv a b, iv n] = bif bits .and .i64 n 3 == 1 then some (ptv (W (0 - b)) a) else bif bits .and .i64 n 3 == 2 then some (ptv (W (0 - a)) (W (0 - b))) else bif bits .and .i64 n 3 == 3 then some (ptv b (W (0 - a))) else some (ptv a b) := by kernel_rfl
theorem and3 (n : Int) : bits .and .i64 n 3 = n % 4 := by
  have h1 : BitVec.ofInt 64 3 = BitVec.ofNat 64 3 := rfl
  show IntKind.i64.wrap ((BitVec.ofInt 64 n &&& BitVec.ofInt 64 3).toNat : Int) = _
  have h2 : (BitVec.ofInt 64 n &&& BitVec.ofInt 64 3).toNat = (BitVec.ofInt 64 n).toNat % 4 := by
    rw [BitVec.toNat_and, h1]
    show (BitVec.ofInt 64 n).toNat &&& (2 ^ 2 - 1) = _
    rw [Nat.and_two_pow_sub_one_eq_mod]
  rw [h2]
  have h3 : ((BitVec.ofInt 64 n).toNat : Int) = n % 18446744073709551616 := by
    rw [BitVec.toNat_ofInt]
    omega
  rw [show (((BitVec.ofInt 64 n).toNat % 4 : Nat) : Int) = ((BitVec.ofInt 64 n).toNat : Int) % 4 by omega, h3]
  have := W_id (n := n % 18446744073709551616 % 4) (by omega) (by omega)
  rw [show IntKind.i64.wrap (n % 18446744073709551616 % 4) = n % 18446744073709551616 % 4 from this]
  omega
theorem o29 (args : List PV) (r : PV) (h : c29 args = some r) : Enters Try.prog 29 ∧ PCall Try.prog 29 args r := by
  unfold c29 at h; split at h
  · cases h
    refine runP_sound envOK_zero (n := 60) ?_
    rename_i a b n
    rw [q29, and3]; unfold tpx tpy
    by_cases h1 : n % 4 = 1
    · simp [h1]
    · by_cases h2 : n % 4 = 2
      · simp [h2]
      · by_cases h3 : n % 4 = 3
        · simp [h3]
        · have e1 : (n % 4 == 1) = false := by simpa using h1
          have e2 : (n % 4 == 2) = false := by simpa using h2
          have e3 : (n % 4 == 3) = false := by simpa using h3
          simp only [e1, e2, e3, h1, h2, h3, cond_false, if_false]
  · cases h
/-- Mod by 4 that leaves r. -/
def m4 (r : Int) : List PV → Option (DT PV) | [.val (.int .i64 n), .val (.int .i64 4)] => some (.br (decide (n % 4 = r)) (.leaf (iv r)) .no) | _ => none
theorem om4 (r : Int) (args : List PV) (d : DT PV) (p : PV) (h : m4 r args = some d) (hd : d.run = some p) : PCall Try.prog 25 args p := by
  unfold m4 at h; split at h
  · rename_i n
    cases h
    simp only [DT.run] at hd
    by_cases h0 : n % 4 = r
    · simp only [h0, decide_true, cond_true] at hd
      cases hd
      rw [← h0]
      exact o25 [iv n, iv 4] _ _ rfl rfl
    · simp [h0] at hd
  · cases h
def E4 (r : Int) : EnvK := ({} : EnvK).addD 25 (m4 r)
theorem ok4 (r : Int) : EnvOK Try.prog (E4 r).env := envOK_zero.addD e25 (om4 r)
/-- hachureref04.Turn. -/
def trx (a b n : Int) : Int := if n % 4 = 0 then a else if n % 4 = 1 then W (0 - b) else if n % 4 = 2 then W (0 - a) else W (0 - W (0 - b))
def tryy (a b n : Int) : Int := if n % 4 = 0 then b else if n % 4 = 1 then a else if n % 4 = 2 then W (0 - b) else W (0 - a)
def c41 : List PV → Option PV | [.agg [.val (.int .i64 a), .val (.int .i64 b)], .val (.int .i64 n)] => some (ptv (trx a b n) (tryy a b n)) | _ => none
theorem q41_0 (a b n : Int) : runP Try.prog (E4 0) 60 41 [ptv a b, iv n] = bif decide (n % 4 = 0) then some (ptv a b) else none := by kernel_rfl
theorem q41_1 (a b n : Int) : runP Try.prog (E4 1) 60 41 [ptv a b, iv n] = bif decide (n % 4 = 1) then bif decide (n % 4 = 1) then some (ptv (W (0 - b)) a) else none else none := by kernel_rfl
theorem q41_2 (a b n : Int) : runP Try.prog (E4 2) 60 41 [ptv a b, iv n] = bif decide (n % 4 = 2) then bif decide (n % 4 = 2) then bif decide (n % 4 = 2) then some (ptv (W (0 - a)) (W (0 - b))) else none else none else none := by kernel_rfl
theorem q41_3 (a b n : Int) : runP Try.prog (E4 3) 60 41 [ptv a b, iv n] = bif decide (n % 4 = 3) then bif decide (n % 4 = 3) then bif decide (n % 4 = 3) then bif decide (n % 4 = 3) then some (ptv (W (0 - W (0 - b))) (W (0 - a))) else none else none else none else none := by kernel_rfl
theorem o41 (args : List PV) (r : PV) (h : c41 args = some r) : Enters Try.prog 41 ∧ PCall Try.prog 41 args r := by
  unfold c41 at h; split at h
  · rename_i a b n
    cases h
    have h4 : n % 4 = 0 ∨ n % 4 = 1 ∨ n % 4 = 2 ∨ n % 4 = 3 := by omega
    rcases h4 with h | h | h | h
    · exact runP_sound (ok4 0) (n := 60) (by rw [q41_0]; simp [h, trx, tryy])
    · exact runP_sound (ok4 1) (n := 60) (by rw [q41_1]; simp [h, trx, tryy])
    · exact runP_sound (ok4 2) (n := 60) (by rw [q41_2]; simp [h, trx, tryy])
    · exact runP_sound (ok4 3) (n := 60) (by rw [q41_3]; simp [h, trx, tryy])
  · cases h
/-- Smallest and greatest of numbers, as point.Box has them. -/
def mnI (a b : Int) : Int := if b < a then b else a
def mxI (a b : Int) : Int := if b > a then b else a
def c39 : List PV → Option PV
  | [.lst _ 26 [.agg [.val (.int .i64 a), .val (.int .i64 b)], .agg [.val (.int .i64 c), .val (.int .i64 d)], .agg [.val (.int .i64 e), .val (.int .i64 f)], .agg [.val (.int .i64 g), .val (.int .i64 h)]]] =>
    some (.agg [iv (mnI (mnI (mnI (mnI a a) c) e) g), iv (mnI (mnI (mnI (mnI b b) d) f) h), iv (mxI (mxI (mxI (mxI a a) c) e) g), iv (mxI (mxI (mxI (mxI b b) d) f) h)])
  | _ => none
theorem o39 (args : List PV) (r : PV) (h : c39 args = some r) : Enters Try.prog 39 ∧ PCall Try.prog 39 args r := by
  unfold c39 at h; split at h
  · cases h; exact runP_sound (envOK_zero.addK 45) (n := 60) (by kernel_rfl)
  · cases h
end Go.Hv
