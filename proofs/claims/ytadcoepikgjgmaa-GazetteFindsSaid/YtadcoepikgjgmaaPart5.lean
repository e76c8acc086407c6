/- Strings: plain laws: the order of strings; small letters. No program in sight. -/
import Derived.Test.YtadcoepikgjgmaaPart4
import Derived.Lib.Bytealg
import Derived.Test.YtadcoepikgjgmaaProg
import Derived.KernelRfl
import Derived.Shelf.SortM.Plain
namespace Go.Hs
open Go.Hx Go.Lib
theorem u8_tri (a b : UInt8) : a < b ∨ a = b ∨ b < a := by
  rcases Nat.lt_trichotomy a.toNat b.toNat with h | h | h
  · exact .inl (UInt8.lt_iff_toNat_lt.2 h)
  · exact .inr (.inl (UInt8.toNat_inj.1 h))
  · exact .inr (.inr (UInt8.lt_iff_toNat_lt.2 h))
theorem u8_asymm {a b : UInt8} (h : a < b) : ¬ b < a := fun k => by
  have h1 := UInt8.lt_iff_toNat_lt.1 h; have h2 := UInt8.lt_iff_toNat_lt.1 k; omega
theorem u8_ne {a b : UInt8} (h : a < b) : a ≠ b := fun k => by subst k; exact UInt8.lt_irrefl a h
theorem cb_less : ∀ x y : List UInt8, Op.bytesLess x y = decide (compareBytes x y < 0)
  | [], [] => rfl
  | [], _ :: _ => rfl
  | _ :: _, [] => rfl
  | a :: x, b :: y => by
    have ih := cb_less x y
    simp only [Op.bytesLess, compareBytes]
    rcases u8_tri a b with h | h | h
    · simp [h]
    · subst h; simp [UInt8.lt_irrefl, ih]
    · have h1 := u8_asymm h
      have h2 : (a == b) = false := by rw [beq_eq_false_iff_ne]; exact (u8_ne h).symm
      simp [h, h1, h2]
theorem cb_zero : ∀ x y : List UInt8, compareBytes x y = 0 ↔ x = y
  | [], [] => by simp [compareBytes]
  | [], _ :: _ => by simp [compareBytes]
  | _ :: _, [] => by simp [compareBytes]
  | a :: x, b :: y => by
    have ih := cb_zero x y
    simp only [compareBytes]
    rcases u8_tri a b with h | h | h
    · simp [h, u8_ne h]
    · subst h; simp [UInt8.lt_irrefl, ih]
    · simp [h, u8_asymm h, (u8_ne h).symm]
theorem cb_neg : ∀ x y : List UInt8, compareBytes y x = - compareBytes x y
  | [], [] => rfl
  | [], _ :: _ => rfl
  | _ :: _, [] => rfl
  | a :: x, b :: y => by
    have ih := cb_neg x y
    simp only [compareBytes]
    rcases u8_tri a b with h | h | h
    · simp [h, u8_asymm h]
    · subst h; simp [UInt8.lt_irrefl, ih]
    · simp [h, u8_asymm h]
theorem cb_three (x y : List UInt8) : compareBytes x y = 0 ∨ compareBytes x y = 1 ∨ compareBytes x y = -1 := by
  induction x generalizing y with
  | nil => cases y <;> simp [compareBytes]
  | cons a x ih =>
    cases y with
    | nil => simp [compareBytes]
    | cons b y => simp only [compareBytes]; (repeat' split) <;> first | exact ih y | simp
theorem cb_trans : ∀ x y z : List UInt8, compareBytes x y < 0 → compareBytes y z < 0 → compareBytes x z < 0
  | [], [], _, h, _ => by simp [compareBytes] at h
  | [], b :: y, [], _, h => by simp [compareBytes] at h
  | [], _ :: _, _ :: _, _, _ => by simp [compareBytes]
  | _ :: _, [], _, h, _ => by simp [compareBytes] at h
  | _ :: _, _ :: _, [], _, h => by simp [compareBytes] at h
  | a :: x, b :: y, c :: z, h, k => by
    have ih := cb_trans x y z
    simp only [compareBytes] at h k ⊢
    rcases u8_tri a b with h1 | h1 | h1
    · rcases u8_tri b c with h2 | h2 | h2
      · have : a < c := UInt8.lt_trans h1 h2
        simp [this]
      · subst h2; simp [h1]
      · simp [h2, u8_asymm h2] at k
    · subst h1
      rcases u8_tri a c with h2 | h2 | h2
      · simp [h2]
      · subst h2; simp [UInt8.lt_irrefl] at h k ⊢; exact ih h k
      · simp [h2, u8_asymm h2] at k
    · simp [h1, u8_asymm h1] at h
/-- A string's bytes. -/
abbrev bl (s : ByteArray) : List UInt8 := s.data.toList
theorem toL (s : ByteArray) : s.toList = bl s := ByteArray.toList_eq s
theorem less_cb (a b : ByteArray) : Op.bytesLess a.toList b.toList = decide (compareBytes (bl a) (bl b) < 0) := by rw [toL, toL, cb_less]
theorem ba_eq {a b : ByteArray} : bl a = bl b ↔ a = b := by
  constructor
  · intro h; cases a; cases b; simp only [bl] at h; rw [Array.toList_inj] at h; rw [h]
  · intro h; rw [h]
/-- The small letter of a byte. -/
def lowB (c : UInt8) : UInt8 := if 65 ≤ c.toNat ∧ c.toNat ≤ 90 then UInt8.ofNat (c.toNat + 32) else c
def fold (s : ByteArray) : ByteArray := ⟨((bl s).map lowB).toArray⟩
theorem bl_fold (s : ByteArray) : bl (fold s) = (bl s).map lowB := by simp [bl, fold]
theorem lowB_lowB (c : UInt8) : lowB (lowB c) = lowB c := by
  unfold lowB
  by_cases h : 65 ≤ c.toNat ∧ c.toNat ≤ 90
  · rw [if_pos h]
    have : (UInt8.ofNat (c.toNat + 32)).toNat = c.toNat + 32 := by rw [UInt8.toNat_ofNat']; omega
    rw [this, if_neg (by omega)]
  · rw [if_neg h, if_neg h]
theorem fold_fold (s : ByteArray) : fold (fold s) = fold s := by
  rw [← ba_eq, bl_fold, bl_fold, List.map_map]
  exact List.map_congr_left fun c _ => lowB_lowB c
theorem fold_size (s : ByteArray) : (fold s).size = s.size := by
  show (fold s).data.size = s.data.size
  simp [fold]
/-- Names in order: first without large letters, then as they are. -/
def cmpN (a b : ByteArray) : Int := if compareBytes (bl (fold a)) (bl (fold b)) = 0 then compareBytes (bl a) (bl b) else compareBytes (bl (fold a)) (bl (fold b))
theorem cmpN_self (a : ByteArray) : cmpN a a = 0 := by unfold cmpN; rw [if_pos ((cb_zero _ _).2 rfl)]; exact (cb_zero _ _).2 rfl
theorem cmpN_neg (a b : ByteArray) : cmpN b a = - cmpN a b := by
  unfold cmpN
  rw [cb_neg (bl (fold a)) (bl (fold b)), cb_neg (bl a) (bl b)]
  by_cases h : compareBytes (bl (fold a)) (bl (fold b)) = 0
  · rw [if_pos h, if_pos (by omega)]
  · rw [if_neg h, if_neg (by omega)]
theorem cmpN_zero (a b : ByteArray) : cmpN a b = 0 ↔ a = b := by
  unfold cmpN
  by_cases h : compareBytes (bl (fold a)) (bl (fold b)) = 0
  · rw [if_pos h, cb_zero, ba_eq]
  · rw [if_neg h]
    constructor
    · intro k; exact absurd k h
    · intro k; subst k; exact absurd ((cb_zero _ _).2 rfl) h
theorem cmpN_trans {a b c : ByteArray} (h : cmpN a b < 0) (k : cmpN b c < 0) : cmpN a c < 0 := by
  unfold cmpN at *
  have t := cb_trans (bl (fold a)) (bl (fold b)) (bl (fold c))
  have z1 := cb_zero (bl (fold a)) (bl (fold b))
  have z2 := cb_zero (bl (fold b)) (bl (fold c))
  have z3 := cb_zero (bl (fold a)) (bl (fold c))
  by_cases h1 : compareBytes (bl (fold a)) (bl (fold b)) = 0
  · rw [if_pos h1] at h
    rw [z1.1 h1]
    by_cases h2 : compareBytes (bl (fold b)) (bl (fold c)) = 0
    · rw [if_pos h2] at k ⊢
      exact cb_trans _ _ _ h k
    · rw [if_neg h2] at k ⊢; exact k
  · rw [if_neg h1] at h
    by_cases h2 : compareBytes (bl (fold b)) (bl (fold c)) = 0
    · rw [← z2.1 h2, if_neg h1]; exact h
    · rw [if_neg h2] at k
      have := t h k
      rw [if_neg (by omega)]; exact this
end Go.Hs
/- Strings (gazette): the base. -/
namespace Go.Hs
open Go.Hx Go.Proofs
abbrev iv (n : Int) : PV := PV.val (.int .i64 n)
abbrev cv (n : Int) : PV := PV.val (.int .u8 n)
abbrev bv (b : Bool) : PV := PV.val (.bool b)
abbrev sv (s : ByteArray) : PV := PV.val (.string s)
abbrev W (n : Int) : Int := IntKind.wrap .i64 n
abbrev B8 (n : Int) : Int := IntKind.wrap .u8 n
theorem W_eq (n : Int) : W n = (n + 9223372036854775808) % 18446744073709551616 - 9223372036854775808 := by
  show (if (true && decide (n % (2 ^ 64 : Int) ≥ (2 ^ 63 : Int))) = true then n % (2 ^ 64 : Int) - (2 ^ 64 : Int) else n % (2 ^ 64 : Int)) = _
  simp only [Bool.true_and, decide_eq_true_eq]
  split <;> omega
theorem W_id {n : Int} (h1 : -9223372036854775808 ≤ n) (h2 : n < 9223372036854775808) : W n = n := by rw [W_eq]; omega
theorem B8_eq (n : Int) : B8 n = n % 256 := by
  show (if (false && decide (n % (2 ^ 8 : Int) ≥ (2 ^ 7 : Int))) = true then n % (2 ^ 8 : Int) - (2 ^ 8 : Int) else n % (2 ^ 8 : Int)) = _
  simp
noncomputable def E0 : EnvK := {}
theorem ok0 : EnvOK Try.prog E0.env := envOK_zero
end Go.Hs
/- Strings (gazette): the sort of ints, laid at this program: slices.Sort has the contract that the library proves. -/
namespace Go.Hs
open Go.Hx Go.Proofs Go.Shelf
def layR : Go.Shelf.Ren := ⟨fun | 5 => 46 | 8 => 55 | 7 => 54 | 19 => 68 | 20 => 69 | 10 => 59 | 11 => 60 | 12 => 61 | 13 => 62 | 14 => 63 | 15 => 64 | 16 => 65 | 17 => 66 | 18 => 67 | 30 => 72 | 31 => 73 | 32 => 74 | 33 => 75 | 34 => 76 | 35 => 53 | 40 => 78 | n => n, fun | 23 => 44 | 25 => 3 | 3 => 3 | 32 => 83 | 22 => 44 | 0 => 0 | 44 => 96 | 46 => 98 | 4 => 4 | 36 => 88 | 35 => 87 | 41 => 93 | 5 => 5 | 9 => 9 | 53 => 99 | 57 => 103 | 63 => 105 | 64 => 106 | n => n, fun | n => n⟩
theorem layS : Go.Proofs.SlLaysM.n5 Try.prog layR := {
  mixed := by kernel_rfl,
  f5 := ⟨Try.f46.name, by decide, Try.func46.trans (congrArg some (by kernel_rfl))⟩,
  f7 := ⟨Try.f54.name, by decide, Try.func54.trans (congrArg some (by kernel_rfl))⟩,
  f8 := Try.func55.trans (congrArg some (by kernel_rfl)),
  f10 := ⟨Try.f59.name, by decide, Try.func59.trans (congrArg some (by kernel_rfl))⟩,
  f11 := ⟨Try.f60.name, by decide, Try.func60.trans (congrArg some (by kernel_rfl))⟩,
  f12 := ⟨Try.f61.name, by decide, Try.func61.trans (congrArg some (by kernel_rfl))⟩,
  f13 := ⟨Try.f62.name, by decide, Try.func62.trans (congrArg some (by kernel_rfl))⟩,
  f14 := ⟨Try.f63.name, by decide, Try.func63.trans (congrArg some (by kernel_rfl))⟩,
  f15 := ⟨Try.f64.name, by decide, Try.func64.trans (congrArg some (by kernel_rfl))⟩,
  f16 := ⟨Try.f65.name, by decide, Try.func65.trans (congrArg some (by kernel_rfl))⟩,
  f17 := ⟨Try.f66.name, by decide, Try.func66.trans (congrArg some (by kernel_rfl))⟩,
  f18 := ⟨Try.f67.name, by decide, Try.func67.trans (congrArg some (by kernel_rfl))⟩,
  f19 := Try.func68.trans (congrArg some (by kernel_rfl)),
  f20 := Try.func69.trans (congrArg some (by kernel_rfl)),
  f30 := ⟨Try.f72.name, by decide, Try.func72.trans (congrArg some (by kernel_rfl))⟩,
  f31 := Try.func73.trans (congrArg some (by kernel_rfl)),
  f32 := Try.func74.trans (congrArg some (by kernel_rfl)),
  f33 := ⟨Try.f75.name, by decide, Try.func75.trans (congrArg some (by kernel_rfl))⟩,
  f34 := ⟨Try.f76.name, by decide, Try.func76.trans (congrArg some (by kernel_rfl))⟩,
  f35 := ⟨Try.f53.name, by decide, Try.func53.trans (congrArg some (by kernel_rfl))⟩,
  f40 := ⟨Try.f78.name, by decide, Try.func78.trans (congrArg some (by kernel_rfl))⟩,
  t0 := Try.underlying0,
  a0 := Try.isAgg0,
  z0 := Try.sizeOf0,
  v0 := Try.zeroValue0,
  t3 := Try.underlying3,
  a3 := Try.isAgg3,
  z3 := Try.sizeOf3,
  v3 := Try.zeroValue3,
  t4 := Try.underlying4,
  a4 := Try.isAgg4,
  z4 := Try.sizeOf4,
  v4 := Try.zeroValue4,
  t5 := Try.underlying5,
  a5 := Try.isAgg5,
  z5 := Try.sizeOf5,
  v5 := Try.zeroValue5,
  t9 := Try.underlying9,
  a9 := Try.isAgg9,
  z9 := Try.sizeOf9,
  v9 := Try.zeroValue9,
  t22 := Try.underlying44,
  a22 := Try.isAgg44,
  z22 := Try.sizeOf44,
  v22 := Try.zeroValue44,
  t23 := Try.underlying44,
  a23 := Try.isAgg44,
  z23 := Try.sizeOf44,
  v23 := Try.zeroValue44,
  t25 := Try.underlying3,
  a25 := Try.isAgg3,
  z25 := Try.sizeOf3,
  v25 := Try.zeroValue3,
  t32 := Try.underlying83,
  a32 := Try.isAgg83,
  z32 := Try.sizeOf83,
  v32 := Try.zeroValue83,
  t35 := Try.underlying87,
  a35 := Try.isAgg87,
  z35 := Try.sizeOf87,
  v35 := Try.zeroValue87,
  t36 := Try.underlying88,
  a36 := Try.isAgg88,
  z36 := Try.sizeOf88,
  v36 := Try.zeroValue88,
  t41 := Try.underlying93,
  a41 := Try.isAgg93,
  z41 := Try.sizeOf93,
  v41 := Try.zeroValue93,
  t44 := Try.underlying96,
  a44 := Try.isAgg96,
  z44 := Try.sizeOf96,
  v44 := Try.zeroValue96,
  t46 := Try.underlying98,
  a46 := Try.isAgg98,
  z46 := Try.sizeOf98,
  v46 := Try.zeroValue98,
  t53 := Try.underlying99,
  a53 := Try.isAgg99,
  z53 := Try.sizeOf99,
  v53 := Try.zeroValue99,
  t57 := Try.underlying103,
  a57 := Try.isAgg103,
  z57 := Try.sizeOf103,
  v57 := Try.zeroValue103,
  t63 := Try.underlying105,
  a63 := Try.isAgg105,
  z63 := Try.sizeOf105,
  v63 := Try.zeroValue105,
  t64 := Try.underlying106,
  a64 := Try.isAgg106,
  z64 := Try.sizeOf106,
  v64 := Try.zeroValue106 }
end Go.Hs
/- Strings (gazette): the sanity of chapter 09. -/
namespace Go.Hs
open Go.Hx Go.Proofs
noncomputable def E1 : EnvK := ((((E0.addK 31).addK 39).addK 40).addK 42).addK 44
theorem ok1 : EnvOK Try.prog E1.env := ((((ok0.addK 31).addK 39).addK 40).addK 42).addK 44
theorem qSan : runP Try.prog E1 100 9 [] = some (bv true) := by kernel_rfl
def cSan : List PV → Option PV | [] => some (bv true) | _ => none
theorem oSan (args : List PV) (r : PV) (h : cSan args = some r) : Hx.Enters Try.prog 9 ∧ PCall Try.prog 9 args r := by
  unfold cSan at h; split at h
  · cases h; exact runP_sound ok1 (n := 100) qSan
  · cases h
noncomputable def E2 : EnvK := E1.addO 9 cSan
theorem ok2 : EnvOK Try.prog E2.env := ok1.addO oSan
end Go.Hs
/- Strings (gazette): names and classes: the scans of bytes. -/
namespace Go.Hs
open Go.Hx Go.Proofs
/-- The byte at a place: of a list, of a string. -/
def eB (es : List PV) (i : Int) : Int := ((es.getD i.toNat .any).cellAt 0).getI
def sB (s : ByteArray) (i : Int) : Int := ((s.data.getD i.toNat 0).toNat : Int)
def inr (es : List PV) (i : Int) : Bool := decide (0 ≤ i) && decide (i < (es.length : Int))
def inS (s : ByteArray) (i : Int) : Bool := decide (0 ≤ i) && decide (i < (s.size : Int))
theorem inr_of {es : List PV} {i : Int} (h1 : 0 ≤ i) (h2 : i < (es.length : Int)) : inr es i = true := by unfold inr; simp; omega
theorem inS_of {s : ByteArray} {i : Int} (h1 : 0 ≤ i) (h2 : i < (s.size : Int)) : inS s i = true := by unfold inS; simp; omega
abbrev big (es : List PV) : Bool := decide (es.length ≤ 1000000)
abbrev bigS (s : ByteArray) : Bool := decide (s.size ≤ 1000000)
def fr (es : List PV) (n : Nat) (k : List PV → Option PV) : Option PV := bif es.length == n then k ((es.drop 0).take n) else none
theorem fr_eq {es : List PV} {n : Nat} (h : es.length = n) (k : List PV → Option PV) : fr es n k = k es := by
  unfold fr; rw [h, List.drop_zero, ← h, List.take_length]; simp
theorem bytesL_len (s : ByteArray) : (bytesL s).length = s.size := by simp only [bytesL, List.length_map, Array.length_toList]; rfl
theorem bytesL_at (s : ByteArray) (i : Int) (h1 : 0 ≤ i) (h2 : i < (s.size : Int)) : eB (bytesL s) i = sB s i := by
  have hs : i.toNat < s.data.toList.length := by rw [Array.length_toList]; have : s.size = s.data.size := rfl; omega
  unfold eB sB bytesL
  rw [List.getD_eq_getElem?_getD, List.getElem?_map, List.getElem?_eq_getElem hs]
  show (s.data.toList[i.toNat].toNat : Int) = _
  rw [Array.getD_eq_getD_getElem?, ← Array.getElem?_toList, List.getElem?_eq_getElem hs]; rfl
def p1 (c : Int) : Bool := decide (c < 32) || decide (c > 126) || (c == 34)
def p2 (c : Int) : Bool := decide (c < 97) || decide (c > 122)
/-- Is there a byte from i on? The first one. -/
def anyG (p : Int → Bool) (g : Int → Int) (i : Int) : Nat → Bool
  | 0 => false
  | n + 1 => p (g i) || anyG p g (i + 1) n
def idxG (p : Int → Bool) (g : Int → Int) (i : Int) : Nat → Int
  | 0 => -1
  | n + 1 => bif p (g i) then i else idxG p g (i + 1) n
theorem idxG_any (p : Int → Bool) (g : Int → Int) : ∀ (n : Nat) (i : Int), 0 ≤ i → anyG p g i n = true → 0 ≤ idxG p g i n
  | 0, _, _, h => by cases h
  | n + 1, i, h0, h => by
    simp only [anyG] at h
    simp only [idxG]
    cases hp : p (g i) with
    | true => exact h0
    | false => rw [hp, Bool.false_or] at h; exact idxG_any p g n (i + 1) (by omega) h
theorem anyG_congr {p : Int → Bool} {g h : Int → Int} : ∀ {n : Nat} {i : Int}, (∀ j : Nat, j < n → g (i + j) = h (i + j)) → anyG p g i n = anyG p h i n
  | 0, _, _ => rfl
  | n + 1, i, hh => by
    simp only [anyG]
    have h0 := hh 0 (by omega)
    rw [show i + ((0 : Nat) : Int) = i by omega] at h0
    have ih := anyG_congr (p := p) (g := g) (h := h) (n := n) (i := i + 1) fun j hj => by
      have := hh (j + 1) (by omega)
      rwa [show i + ((j + 1 : Nat) : Int) = i + 1 + (j : Int) by omega] at this
    rw [h0, ih]
theorem any_bytes (p : Int → Bool) (s : ByteArray) : anyG p (eB (bytesL s)) 0 s.size = anyG p (sB s) 0 s.size :=
  anyG_congr fun j hj => bytesL_at s (0 + j) (by omega) (by omega)
/-! The closures. -/
theorem qP1 (c : Int) : runP Try.prog E2 20 27 [cv c] = bif decide (c < 32) then some (bv true) else bif decide (c > 126) then some (bv true) else some (bv (c == 34)) := by kernel_rfl
theorem qP2 (c : Int) : runP Try.prog E2 20 28 [cv c] = bif decide (c < 97) then some (bv true) else some (bv (decide (c > 122))) := by kernel_rfl
def cP1 : List PV → Option PV | [.val (.int .u8 c)] => some (bv (p1 c)) | _ => none
def cP2 : List PV → Option PV | [.val (.int .u8 c)] => some (bv (p2 c)) | _ => none
theorem oP1 (args : List PV) (r : PV) (h : cP1 args = some r) : Hx.Enters Try.prog 27 ∧ PCall Try.prog 27 args r := by
  unfold cP1 at h; split at h
  · rename_i c; cases h; exact runP_sound ok2 (n := 20) (by rw [qP1]; unfold p1; cases decide (c < 32) <;> cases decide (c > 126) <;> rfl)
  · cases h
theorem oP2 (args : List PV) (r : PV) (h : cP2 args = some r) : Hx.Enters Try.prog 28 ∧ PCall Try.prog 28 args r := by
  unfold cP2 at h; split at h
  · rename_i c; cases h; exact runP_sound ok2 (n := 20) (by rw [qP2]; unfold p2; cases decide (c < 97) <;> rfl)
  · cases h
noncomputable def E3 : EnvK := (E2.addO 27 cP1).addO 28 cP2
theorem ok3 : EnvOK Try.prog E3.env := (ok2.addO oP1).addO oP2
/-! The loop of IndexFunc, for each of the closures. -/
def shI (k : FuncId) : S1 := ⟨19, [(0, .lst 5), (1, .fn k [] []), (7, I64), (8, I64)], []⟩
abbrev xI0 : PX × List PV × List Row := (.exit 0, tm 19 [], [])
abbrev xI1 (i : Int) : PX × List PV × List Row := (.ret, tm 19 [(4, iv i)], [])
theorem qI1 (f : Bool) (es : List PV) (l i : Int) : runB Try.prog E3 60 48 (lpb Try.f48 2) [0, 1, 7, 8] [4] ((shI 27).put ([.l f es, .i l, .i i], [])).1 ((shI 27).put ([.l f es, .i l, .i i], [])).2 =
  bif decide (i < l) then bif inr es i then bif p1 (eB es i) then some (xI1 i) else some (.normal, (shI 27).put ([.l f es, .i l, .i (W (i + 1))], [])) else none else some xI0 := by kernel_rfl
def pI : LS → Bool
  | ([.l _ es, .i l, .i i], []) => decide (0 ≤ i) && decide (i ≤ l) && decide (l = (es.length : Int)) && big es
  | _ => false
def fI (p : Int → Bool) : LS → DT (PX × List PV × List Row)
  | ([.l _ es, .i l, .i i], []) => .br (anyG p (eB es) i (l - i).toNat) (.leaf (xI1 (idxG p (eB es) i (l - i).toNat))) (.leaf xI0)
  | _ => .no
def mI : LS → Nat
  | ([.l _ _, .i l, .i i], []) => (l - i).toNat
  | _ => 0
theorem run_br2 {α : Type} {b : Bool} {a c r : α} (h : (DT.br b (.leaf a) (.leaf c)).run = some r) : r = bif b then a else c := by
  cases b <;> exact (Option.some.inj h).symm
theorem run_br1 {α : Type} {b : Bool} {a r : α} (h : (DT.br b (.leaf a) .no).run = some r) : b = true ∧ r = a := by
  cases b
  · cases h
  · exact ⟨rfl, (Option.some.inj h).symm⟩
theorem stepI (p : Int → Bool) (B : Bool → List PV → Int → Int → Option (PX × List PV × List Row)) (N : Bool → List PV → Int → Int → PX × List PV × List Row)
    (hB : ∀ f es l i, B f es l i = bif decide (i < l) then bif inr es i then bif p (eB es i) then some (xI1 i) else some (N f es l (W (i + 1))) else none else some xI0)
    (f : Bool) (es : List PV) (l i : Int) (r : PX × List PV × List Row) (hp : pI ([.l f es, .i l, .i i], []) = true) (hr : (fI p ([.l f es, .i l, .i i], [])).run = some r) :
    r.1 ≠ .normal ∧ (B f es l i = some r ∨ (B f es l i = some (N f es l (i + 1)) ∧ pI ([.l f es, .i l, .i (i + 1)], []) = true ∧ mI ([.l f es, .i l, .i (i + 1)], []) < mI ([.l f es, .i l, .i i], []) ∧ (fI p ([.l f es, .i l, .i (i + 1)], [])).run = some r)) := by
  simp only [pI, Bool.and_eq_true, decide_eq_true_eq] at hp
  obtain ⟨⟨⟨h1, h2⟩, rfl⟩, h9⟩ := hp
  have hr' := run_br2 hr
  refine ⟨by rw [hr']; cases anyG p (eB es) i ((es.length : Int) - i).toNat <;> simp, ?_⟩
  rw [hB]
  by_cases hi : i < (es.length : Int)
  · rw [decide_eq_true hi, cond_true, inr_of h1 hi, cond_true, W_id (by omega) (by omega)]
    obtain ⟨m, hm⟩ : ∃ m, ((es.length : Int) - i).toNat = m + 1 := ⟨((es.length : Int) - i).toNat - 1, by omega⟩
    have hm2 : ((es.length : Int) - (i + 1)).toNat = m := by omega
    rw [hm] at hr'
    simp only [anyG, idxG] at hr'
    cases hR : p (eB es i) with
    | true => rw [hR] at hr'; exact .inl (by rw [hr']; rfl)
    | false =>
      rw [hR] at hr'
      refine .inr ⟨rfl, by simp [pI]; omega, by simp only [mI]; omega, ?_⟩
      rw [hr']
      simp only [fI, hm2, Bool.false_or, cond_false]
      cases anyG p (eB es) (i + 1) m <;> rfl
  · rw [decide_eq_false hi]
    rw [show ((es.length : Int) - i).toNat = 0 by omega] at hr'
    exact .inl (by rw [hr']; rfl)
theorem sI1 : ∀ s r, pI s = true → ((fI p1) s).run = some r → r.1 ≠ .normal ∧ (runB Try.prog E3 60 48 (lpb Try.f48 2) [0, 1, 7, 8] [4] ((shI 27).put s).1 ((shI 27).put s).2 = some r ∨
      ∃ s', runB Try.prog E3 60 48 (lpb Try.f48 2) [0, 1, 7, 8] [4] ((shI 27).put s).1 ((shI 27).put s).2 = some (.normal, (shI 27).put s') ∧ pI s' = true ∧ mI s' < mI s ∧ ((fI p1) s').run = some r) := by
  intro s r hp hr
  have hp0 := hp
  unfold pI at hp; split at hp
  · rename_i f es l i
    obtain ⟨h1, h2⟩ := stepI p1 (fun f es l i => runB Try.prog E3 60 48 (lpb Try.f48 2) [0, 1, 7, 8] [4] ((shI 27).put ([.l f es, .i l, .i i], [])).1 ((shI 27).put ([.l f es, .i l, .i i], [])).2) (fun f es l i => (.normal, (shI 27).put ([.l f es, .i l, .i i], []))) qI1 f es l i r hp0 hr
    refine ⟨h1, ?_⟩
    rcases h2 with h2 | ⟨h2, h3, h4, h5⟩
    · exact .inl h2
    · exact .inr ⟨_, h2, h3, h4, h5⟩
  · cases hp
noncomputable def E4 : EnvK := E3.addW 48 2 [0, 1, 7, 8] [] (shI 27) pI (fI p1)
theorem ok4 : EnvOK Try.prog E4.env :=
  ok3.addW (n := 60) Try.func48 (show Try.f48.body = some (bod Try.f48) by kernel_rfl) (show (loops (bod Try.f48)).filter (fun b => rid b == 2) = [lpb Try.f48 2] by kernel_rfl) [0, 1, 7, 8] [4] [] (shI 27) mI sI1
theorem qI2 (f : Bool) (es : List PV) (l i : Int) : runB Try.prog E4 60 48 (lpb Try.f48 2) [0, 1, 7, 8] [4] ((shI 28).put ([.l f es, .i l, .i i], [])).1 ((shI 28).put ([.l f es, .i l, .i i], [])).2 =
  bif decide (i < l) then bif inr es i then bif p2 (eB es i) then some (xI1 i) else some (.normal, (shI 28).put ([.l f es, .i l, .i (W (i + 1))], [])) else none else some xI0 := by kernel_rfl
theorem sI2 : ∀ s r, pI s = true → ((fI p2) s).run = some r → r.1 ≠ .normal ∧ (runB Try.prog E4 60 48 (lpb Try.f48 2) [0, 1, 7, 8] [4] ((shI 28).put s).1 ((shI 28).put s).2 = some r ∨
      ∃ s', runB Try.prog E4 60 48 (lpb Try.f48 2) [0, 1, 7, 8] [4] ((shI 28).put s).1 ((shI 28).put s).2 = some (.normal, (shI 28).put s') ∧ pI s' = true ∧ mI s' < mI s ∧ ((fI p2) s').run = some r) := by
  intro s r hp hr
  have hp0 := hp
  unfold pI at hp; split at hp
  · rename_i f es l i
    obtain ⟨h1, h2⟩ := stepI p2 (fun f es l i => runB Try.prog E4 60 48 (lpb Try.f48 2) [0, 1, 7, 8] [4] ((shI 28).put ([.l f es, .i l, .i i], [])).1 ((shI 28).put ([.l f es, .i l, .i i], [])).2) (fun f es l i => (.normal, (shI 28).put ([.l f es, .i l, .i i], []))) qI2 f es l i r hp0 hr
    refine ⟨h1, ?_⟩
    rcases h2 with h2 | ⟨h2, h3, h4, h5⟩
    · exact .inl h2
    · exact .inr ⟨_, h2, h3, h4, h5⟩
  · cases hp
noncomputable def E5 : EnvK := E4.addW 48 2 [0, 1, 7, 8] [] (shI 28) pI (fI p2)
theorem ok5 : EnvOK Try.prog E5.env :=
  ok4.addW (n := 60) Try.func48 (show Try.f48.body = some (bod Try.f48) by kernel_rfl) (show (loops (bod Try.f48)).filter (fun b => rid b == 2) = [lpb Try.f48 2] by kernel_rfl) [0, 1, 7, 8] [4] [] (shI 28) mI sI2
end Go.Hs
/- Strings (gazette): names and classes. -/
namespace Go.Hs
open Go.Hx Go.Proofs
def ctT (_ : FuncId) (p : Int → Bool) (f : Bool) (es : List PV) : Option PV :=
  bif pI ([.l f es, .i (es.length : Int), .i 0], []) then bif anyG p (eB es) 0 ((es.length : Int) - 0).toNat then some (bv (decide (idxG p (eB es) 0 ((es.length : Int) - 0).toNat ≥ 0))) else some (bv false) else none
theorem qCt1 (f : Bool) (es : List PV) : runP Try.prog E5 40 26 [.lst f 5 es, .fn (.func 27) [] []] = ctT 27 p1 f es := by kernel_rfl
theorem qCt2 (f : Bool) (es : List PV) : runP Try.prog E5 40 26 [.lst f 5 es, .fn (.func 28) [] []] = ctT 28 p2 f es := by kernel_rfl
theorem ctT_eq (k : FuncId) (p : Int → Bool) (f : Bool) (es : List PV) (h : big es = true) : ctT k p f es = some (bv (anyG p (eB es) 0 es.length)) := by
  unfold ctT
  rw [show pI ([.l f es, .i (es.length : Int), .i 0], []) = true by simp [pI]; simpa using h, show ((es.length : Int) - 0).toNat = es.length by omega, cond_true]
  cases ha : anyG p (eB es) 0 es.length with
  | true => rw [cond_true, decide_eq_true (idxG_any p (eB es) es.length 0 (by omega) ha)]
  | false => rfl
def cCt : List PV → Option (DT PV)
  | [.lst _ 5 es, .fn (.func 27) [] []] => some (.br (big es) (.leaf (bv (anyG p1 (eB es) 0 es.length))) .no)
  | [.lst _ 5 es, .fn (.func 28) [] []] => some (.br (big es) (.leaf (bv (anyG p2 (eB es) 0 es.length))) .no)
  | _ => none
theorem eCt : Hx.Enters Try.prog 26 := (runP_sound ok5 ((qCt1 true []).trans (ctT_eq _ _ _ _ rfl))).1
theorem oCt (args : List PV) (d : DT PV) (r : PV) (h : cCt args = some d) (hr : d.run = some r) : PCall Try.prog 26 args r := by
  unfold cCt at h; split at h
  · rename_i f es; cases h; obtain ⟨h1, rfl⟩ := run_br1 hr; exact (runP_sound ok5 ((qCt1 f es).trans (ctT_eq _ _ _ _ h1))).2
  · rename_i f es; cases h; obtain ⟨h1, rfl⟩ := run_br1 hr; exact (runP_sound ok5 ((qCt2 f es).trans (ctT_eq _ _ _ _ h1))).2
  · cases h
noncomputable def E6 : EnvK := E5.addF 26 cCt
theorem ok6 : EnvOK Try.prog E6.env := ok5.addF eCt oCt
/-! Right. -/
def headR (s : ByteArray) (k : Option PV) : Option PV :=
  bif decide ((s.size : Int) < 1) then some (bv false) else bif decide ((s.size : Int) > 24) then some (bv false) else bif inS s 0 then bif sB s 0 == 32 then some (bv false) else
    bif inS s (W ((s.size : Int) - 1)) then bif sB s (W ((s.size : Int) - 1)) == 32 then some (bv false) else k else none else none
theorem qRight (s : ByteArray) : runP Try.prog E6 40 11 [sv s] = headR s (fr (bytesL s) s.size fun es => bif big es then some (bv (!anyG p1 (eB es) 0 es.length)) else none) := by kernel_rfl
/-- P9.1: the first and the last byte are no blanks, and all can be seen. -/
def rightS (s : ByteArray) : Bool := !(decide ((s.size : Int) < 1) || decide ((s.size : Int) > 24) || (sB s 0 == 32) || (sB s ((s.size : Int) - 1) == 32) || anyG p1 (sB s) 0 s.size)
theorem headR_eq (s : ByteArray) (k : Option PV) (hs : bigS s = true) (hk : ¬ (s.size : Int) < 1 → k = some (bv (!anyG p1 (sB s) 0 s.size))) : headR s k = some (bv (rightS s)) := by
  have hs' := of_decide_eq_true hs
  unfold headR rightS
  by_cases h1 : (s.size : Int) < 1
  · rw [decide_eq_true h1]; rfl
  · rw [hk h1, decide_eq_false h1, W_id (by omega) (by omega), inS_of (i := 0) (by omega) (by omega), inS_of (i := (s.size : Int) - 1) (by omega) (by omega)]
    cases decide ((s.size : Int) > 24) <;> cases sB s 0 == 32 <;> cases sB s ((s.size : Int) - 1) == 32 <;> rfl
theorem qRight' (s : ByteArray) (hs : bigS s = true) : runP Try.prog E6 40 11 [sv s] = some (bv (rightS s)) := by
  rw [qRight]
  have hs' := of_decide_eq_true hs
  refine headR_eq s _ hs fun _ => ?_
  rw [fr_eq (bytesL_len s), show big (bytesL s) = true by simp [big, bytesL_len]; exact hs', bytesL_len, any_bytes]; rfl
/-! Class. -/
theorem qClass (s : ByteArray) : runP Try.prog E6 40 13 [sv s] =
  bif decide ((s.size : Int) ≥ 1) then bif decide ((s.size : Int) ≤ 12) then fr (bytesL s) s.size fun es => bif big es then some (bv (!anyG p2 (eB es) 0 es.length)) else none else some (bv false) else some (bv false) := by kernel_rfl
def classS (s : ByteArray) : Bool := decide ((s.size : Int) ≥ 1) && decide ((s.size : Int) ≤ 12) && !anyG p2 (sB s) 0 s.size
theorem qClass' (s : ByteArray) (hs : bigS s = true) : runP Try.prog E6 40 13 [sv s] = some (bv (classS s)) := by
  rw [qClass]
  have hs' := of_decide_eq_true hs
  rw [fr_eq (bytesL_len s), show big (bytesL s) = true by simp [big, bytesL_len]; exact hs', bytesL_len, any_bytes]
  unfold classS
  cases decide ((s.size : Int) ≥ 1) <;> cases decide ((s.size : Int) ≤ 12) <;> rfl
/-! The reference. -/
def shS47 : S1 := ⟨47, [(0, .str), (3, I64)], []⟩
def shS28 : S1 := ⟨28, [(0, .str), (3, I64)], []⟩
theorem qRR (s : ByteArray) (i : Int) : runB Try.prog E6 60 12 (lpb Try.f12 4) [0, 3] [2] (shS47.put ([.s s, .i i], [])).1 (shS47.put ([.s s, .i i], [])).2 =
  bif decide (i < (s.size : Int)) then bif inS s i then bif decide (sB s i < 32) then some (.ret, tm 47 [(2, bv false)], []) else bif inS s i then bif decide (sB s i > 126) then some (.ret, tm 47 [(2, bv false)], []) else
    bif inS s i then bif sB s i == 34 then some (.ret, tm 47 [(2, bv false)], []) else some (.normal, shS47.put ([.s s, .i (W (i + 1))], [])) else none else none else none else some (.exit 0, tm 47 [], []) := by kernel_rfl
theorem qRC (s : ByteArray) (i : Int) : runB Try.prog E6 60 14 (lpb Try.f14 2) [0, 3] [0, 2] (shS28.put ([.s s, .i i], [])).1 (shS28.put ([.s s, .i i], [])).2 =
  bif decide (i < (s.size : Int)) then bif inS s i then bif decide (sB s i < 97) then some (.ret, tm 28 [(0, sv s), (2, bv false)], []) else bif inS s i then bif decide (sB s i > 122) then some (.ret, tm 28 [(0, sv s), (2, bv false)], []) else
    some (.normal, shS28.put ([.s s, .i (W (i + 1))], [])) else none else none else some (.exit 0, tm 28 [(0, sv s)], []) := by kernel_rfl
def pS : LS → Bool
  | ([.s s, .i i], []) => decide (0 ≤ i) && decide (i ≤ (s.size : Int)) && bigS s
  | _ => false
def fRR : LS → DT (PX × List PV × List Row)
  | ([.s s, .i i], []) => .br (anyG p1 (sB s) i ((s.size : Int) - i).toNat) (.leaf (.ret, tm 47 [(2, bv false)], [])) (.leaf (.exit 0, tm 47 [], []))
  | _ => .no
def fRC : LS → DT (PX × List PV × List Row)
  | ([.s s, .i i], []) => .br (anyG p2 (sB s) i ((s.size : Int) - i).toNat) (.leaf (.ret, tm 28 [(0, sv s), (2, bv false)], [])) (.leaf (.exit 0, tm 28 [(0, sv s)], []))
  | _ => .no
def mS : LS → Nat
  | ([.s s, .i i], []) => ((s.size : Int) - i).toNat
  | _ => 0
theorem sRR : ∀ s r, pS s = true → (fRR s).run = some r → r.1 ≠ .normal ∧ (runB Try.prog E6 60 12 (lpb Try.f12 4) [0, 3] [2] (shS47.put s).1 (shS47.put s).2 = some r ∨
      ∃ s', runB Try.prog E6 60 12 (lpb Try.f12 4) [0, 3] [2] (shS47.put s).1 (shS47.put s).2 = some (.normal, shS47.put s') ∧ pS s' = true ∧ mS s' < mS s ∧ (fRR s').run = some r) := by
  intro t r hp hr
  unfold pS at hp; split at hp
  · rename_i s i
    simp only [Bool.and_eq_true, decide_eq_true_eq] at hp
    obtain ⟨⟨h1, h2⟩, h9⟩ := hp
    have hr' := run_br2 hr
    refine ⟨by rw [hr']; cases anyG p1 (sB s) i ((s.size : Int) - i).toNat <;> simp, ?_⟩
    rw [qRR]
    by_cases hi : i < (s.size : Int)
    · rw [decide_eq_true hi, cond_true, inS_of h1 hi, W_id (by omega) (by omega)]
      obtain ⟨m, hm⟩ : ∃ m, ((s.size : Int) - i).toNat = m + 1 := ⟨((s.size : Int) - i).toNat - 1, by omega⟩
      have hm2 : ((s.size : Int) - (i + 1)).toNat = m := by omega
      rw [hm] at hr'
      simp only [anyG, p1] at hr'
      cases c1 : decide (sB s i < 32) with
      | true => rw [c1] at hr'; exact .inl (by rw [hr']; rfl)
      | false =>
        cases c2 : decide (sB s i > 126) with
        | true => rw [c1, c2] at hr'; exact .inl (by rw [hr']; rfl)
        | false =>
          cases c3 : sB s i == 34 with
          | true => rw [c1, c2, c3] at hr'; exact .inl (by rw [hr']; rfl)
          | false =>
            rw [c1, c2, c3] at hr'
            refine .inr ⟨([.s s, .i (i + 1)], []), rfl, by simp [pS]; omega, by simp only [mS]; omega, ?_⟩
            rw [hr']
            simp only [fRR, hm2, Bool.false_or]
            show _ = some (bif anyG p1 (sB s) (i + 1) m then _ else _)
            cases anyG p1 (sB s) (i + 1) m <;> rfl
    · rw [decide_eq_false hi]
      rw [show ((s.size : Int) - i).toNat = 0 by omega] at hr'
      exact .inl (by rw [hr']; rfl)
  · cases hp
theorem sRC : ∀ s r, pS s = true → (fRC s).run = some r → r.1 ≠ .normal ∧ (runB Try.prog E6 60 14 (lpb Try.f14 2) [0, 3] [0, 2] (shS28.put s).1 (shS28.put s).2 = some r ∨
      ∃ s', runB Try.prog E6 60 14 (lpb Try.f14 2) [0, 3] [0, 2] (shS28.put s).1 (shS28.put s).2 = some (.normal, shS28.put s') ∧ pS s' = true ∧ mS s' < mS s ∧ (fRC s').run = some r) := by
  intro t r hp hr
  unfold pS at hp; split at hp
  · rename_i s i
    simp only [Bool.and_eq_true, decide_eq_true_eq] at hp
    obtain ⟨⟨h1, h2⟩, h9⟩ := hp
    have hr' := run_br2 hr
    refine ⟨by rw [hr']; cases anyG p2 (sB s) i ((s.size : Int) - i).toNat <;> simp, ?_⟩
    rw [qRC]
    by_cases hi : i < (s.size : Int)
    · rw [decide_eq_true hi, cond_true, inS_of h1 hi, W_id (by omega) (by omega)]
      obtain ⟨m, hm⟩ : ∃ m, ((s.size : Int) - i).toNat = m + 1 := ⟨((s.size : Int) - i).toNat - 1, by omega⟩
      have hm2 : ((s.size : Int) - (i + 1)).toNat = m := by omega
      rw [hm] at hr'
      simp only [anyG, p2] at hr'
      cases c1 : decide (sB s i < 97) with
      | true => rw [c1] at hr'; exact .inl (by rw [hr']; rfl)
      | false =>
        cases c2 : decide (sB s i > 122) with
        | true => rw [c1, c2] at hr'; exact .inl (by rw [hr']; rfl)
        | false =>
          rw [c1, c2] at hr'
          refine .inr ⟨([.s s, .i (i + 1)], []), rfl, by simp [pS]; omega, by simp only [mS]; omega, ?_⟩
          rw [hr']
          simp only [fRC, hm2, Bool.false_or]
          show _ = some (bif anyG p2 (sB s) (i + 1) m then _ else _)
          cases anyG p2 (sB s) (i + 1) m <;> rfl
    · rw [decide_eq_false hi]
      rw [show ((s.size : Int) - i).toNat = 0 by omega] at hr'
      exact .inl (by rw [hr']; rfl)
  · cases hp
noncomputable def E7a : EnvK := E6.addW 12 4 [0, 3] [] shS47 pS fRR
theorem ok7a : EnvOK Try.prog E7a.env :=
  ok6.addW (n := 60) Try.func12 (show Try.f12.body = some (bod Try.f12) by kernel_rfl) (show (loops (bod Try.f12)).filter (fun b => rid b == 4) = [lpb Try.f12 4] by kernel_rfl) [0, 3] [2] [] shS47 mS sRR
noncomputable def E7b : EnvK := E6.addW 14 2 [0, 3] [] shS28 pS fRC
theorem ok7b : EnvOK Try.prog E7b.env :=
  ok6.addW (n := 60) Try.func14 (show Try.f14.body = some (bod Try.f14) by kernel_rfl) (show (loops (bod Try.f14)).filter (fun b => rid b == 2) = [lpb Try.f14 2] by kernel_rfl) [0, 3] [0, 2] [] shS28 mS sRC
theorem qRRight (s : ByteArray) : runP Try.prog E7a 40 12 [sv s] = headR s (bif pS ([.s s, .i 0], []) then bif anyG p1 (sB s) 0 ((s.size : Int) - 0).toNat then some (bv false) else some (bv true) else none) := by kernel_rfl
theorem qRClass (s : ByteArray) : runP Try.prog E7b 40 14 [sv s] = bif pS ([.s s, .i 0], []) then bif anyG p2 (sB s) 0 ((s.size : Int) - 0).toNat then some (bv false) else
  bif decide ((s.size : Int) ≥ 1) then some (bv (decide ((s.size : Int) ≤ 12))) else some (bv false) else none := by kernel_rfl
theorem qRRight' (s : ByteArray) (hs : bigS s = true) : runP Try.prog E7a 40 12 [sv s] = some (bv (rightS s)) := by
  rw [qRRight]
  refine headR_eq s _ hs fun _ => ?_
  rw [show pS ([.s s, .i 0], []) = true by simp [pS]; simpa using hs, show ((s.size : Int) - 0).toNat = s.size by omega]
  cases anyG p1 (sB s) 0 s.size <;> rfl
theorem qRClass' (s : ByteArray) (hs : bigS s = true) : runP Try.prog E7b 40 14 [sv s] = some (bv (classS s)) := by
  rw [qRClass]
  rw [show pS ([.s s, .i 0], []) = true by simp [pS]; simpa using hs, show ((s.size : Int) - 0).toNat = s.size by omega]
  unfold classS
  cases anyG p2 (sB s) 0 s.size <;> cases decide ((s.size : Int) ≥ 1) <;> cases decide ((s.size : Int) ≤ 12) <;> rfl
def cRight : List PV → Option (DT PV) | [.val (.string s)] => some (.br (bigS s) (.leaf (bv (rightS s))) .no) | _ => none
def cClass : List PV → Option (DT PV) | [.val (.string s)] => some (.br (bigS s) (.leaf (bv (classS s))) .no) | _ => none
theorem oRight (args : List PV) (d : DT PV) (r : PV) (h : cRight args = some d) (hr : d.run = some r) : PCall Try.prog 11 args r := by
  unfold cRight at h; split at h
  · rename_i s; cases h; obtain ⟨h1, rfl⟩ := run_br1 hr; exact (runP_sound ok6 (qRight' s h1)).2
  · cases h
theorem oClass (args : List PV) (d : DT PV) (r : PV) (h : cClass args = some d) (hr : d.run = some r) : PCall Try.prog 13 args r := by
  unfold cClass at h; split at h
  · rename_i s; cases h; obtain ⟨h1, rfl⟩ := run_br1 hr; exact (runP_sound ok6 (qClass' s h1)).2
  · cases h
theorem oRRight (args : List PV) (d : DT PV) (r : PV) (h : cRight args = some d) (hr : d.run = some r) : PCall Try.prog 12 args r := by
  unfold cRight at h; split at h
  · rename_i s; cases h; obtain ⟨h1, rfl⟩ := run_br1 hr; exact (runP_sound ok7a (qRRight' s h1)).2
  · cases h
theorem oRClass (args : List PV) (d : DT PV) (r : PV) (h : cClass args = some d) (hr : d.run = some r) : PCall Try.prog 14 args r := by
  unfold cClass at h; split at h
  · rename_i s; cases h; obtain ⟨h1, rfl⟩ := run_br1 hr; exact (runP_sound ok7b (qRClass' s h1)).2
  · cases h
theorem eRight : Hx.Enters Try.prog 11 := (runP_sound ok6 (qRight' .empty rfl)).1
theorem eClass : Hx.Enters Try.prog 13 := (runP_sound ok6 (qClass' .empty rfl)).1
theorem eRRight : Hx.Enters Try.prog 12 := (runP_sound ok7a (qRRight' .empty rfl)).1
theorem eRClass : Hx.Enters Try.prog 14 := (runP_sound ok7b (qRClass' .empty rfl)).1
noncomputable def E8 : EnvK := (((E6.addF 11 cRight).addF 13 cClass).addF 12 cRight).addF 14 cClass
theorem ok8 : EnvOK Try.prog E8.env := (((ok6.addF eRight oRight).addF eClass oClass).addF eRRight oRRight).addF eRClass oRClass
end Go.Hs
/- Strings (gazette): small letters. -/
namespace Go.Hs
open Go.Hx Go.Proofs
def eR (es : List PV) (i : Int) : Int := ((es.getD (0 + i.toNat) .any).cellAt 0).getI
theorem eR_eq (es : List PV) (i : Int) : eR es i = eB es i := by unfold eR eB; rw [Nat.zero_add]
def shF : S1 := ⟨30, [(3, .sl 0), (8, .sl 0), (9, I64), (10, I64)], [.many 5 1]⟩
abbrev lF (n3 l3 n8 l8 : Nat) (len i : Int) (nl : Bool) (es : List PV) : LS := ([.n n3, .n l3, .n n8, .n l8, .i len, .i i], [.l nl es])
noncomputable abbrev xF (n3 l3 : Nat) (nl : Bool) (es : List PV) : PX × List PV × List Row := (.exit 0, tm 30 [(3, .sl 0 n3 0 l3)], (shF.put (lF n3 l3 0 0 0 0 nl es)).2)
def lowJ (c : Int) : Int := B8 (B8 (c + 97) - 65)
def lowI (c : Int) : Int := bif decide (c ≥ 65) then bif decide (c ≤ 90) then B8 (B8 (c - 65) + 97) else c else c
theorem qFo (n3 l3 n8 l8 : Nat) (len i : Int) (nl : Bool) (es : List PV) : runB Try.prog E8 60 15 (lpb Try.f15 3) [3, 8, 9, 10] [3] (shF.put (lF n3 l3 n8 l8 len i nl es)).1 (shF.put (lF n3 l3 n8 l8 len i nl es)).2 =
  bif decide (i < len) then bif (es.length == n8) && true then bif decide (0 ≤ i) && decide (i < (l8 : Int)) then bif es.length == n8 then
    bif decide (eR es i ≥ 65) then bif decide (eR es i ≤ 90) then
      bif (es.length == n3) && true then bif decide (0 ≤ i) && decide (i < (l3 : Int)) then bif (es.length == n3) && true && true && true then
        some (.normal, shF.put (lF n3 l3 n8 l8 len (W (i + 1)) nl (es.set (0 + i.toNat) (cv (lowJ (eR es i))))))
      else none else none else none
    else some (.normal, shF.put (lF n3 l3 n8 l8 len (W (i + 1)) nl es)) else some (.normal, shF.put (lF n3 l3 n8 l8 len (W (i + 1)) nl es))
  else none else none else none else some (xF n3 l3 nl es) := by kernel_rfl
def lowE (es : List PV) (i : Int) : List PV := bif decide (eR es i ≥ 65) then bif decide (eR es i ≤ 90) then es.set (0 + i.toNat) (cv (lowJ (eR es i))) else es else es
def lowF (es : List PV) (i : Int) : Nat → List PV
  | 0 => es
  | m + 1 => lowF (lowE es i) (i + 1) m
theorem lowE_len (es : List PV) (i : Int) : (lowE es i).length = es.length := by
  unfold lowE; cases decide (eR es i ≥ 65) <;> cases decide (eR es i ≤ 90) <;> simp
theorem lowF_len : ∀ (m : Nat) (es : List PV) (i : Int), (lowF es i m).length = es.length
  | 0, _, _ => rfl
  | m + 1, es, i => by rw [lowF, lowF_len m, lowE_len]
def pF : LS → Bool
  | ([.n n3, .n l3, .n n8, .n l8, .i len, .i i], [.l _ es]) => decide (n3 = es.length) && decide (l3 = es.length) && decide (n8 = es.length) && decide (l8 = es.length) && decide (len = (es.length : Int)) && decide (0 ≤ i) && decide (i ≤ len) && big es
  | _ => false
noncomputable def fF : LS → DT (PX × List PV × List Row)
  | ([.n n3, .n l3, .n _, .n _, .i len, .i i], [.l nl es]) => .leaf (xF n3 l3 nl (lowF es i (len - i).toNat))
  | _ => .no
def mF : LS → Nat
  | ([.n _, .n _, .n _, .n _, .i len, .i i], [.l _ _]) => (len - i).toNat
  | _ => 0
theorem sF : ∀ s r, pF s = true → (fF s).run = some r → r.1 ≠ .normal ∧ (runB Try.prog E8 60 15 (lpb Try.f15 3) [3, 8, 9, 10] [3] (shF.put s).1 (shF.put s).2 = some r ∨
      ∃ s', runB Try.prog E8 60 15 (lpb Try.f15 3) [3, 8, 9, 10] [3] (shF.put s).1 (shF.put s).2 = some (.normal, shF.put s') ∧ pF s' = true ∧ mF s' < mF s ∧ (fF s').run = some r) := by
  intro s r hp hr
  unfold pF at hp; split at hp
  · rename_i n3 l3 n8 l8 len i nl es
    simp only [Bool.and_eq_true, decide_eq_true_eq] at hp
    obtain ⟨⟨⟨⟨⟨⟨⟨rfl, rfl⟩, rfl⟩, rfl⟩, rfl⟩, h6⟩, h7⟩, h8⟩ := hp
    have hr' := (Option.some.inj hr).symm
    refine ⟨by rw [hr']; simp, ?_⟩
    rw [show shF.put ([.n es.length, .n es.length, .n es.length, .n es.length, .i (es.length : Int), .i i], [.l nl es]) = shF.put (lF es.length es.length es.length es.length (es.length : Int) i nl es) from rfl, qFo]
    by_cases hi : i < (es.length : Int)
    · rw [decide_eq_true hi, cond_true, W_id (by omega) (by omega), decide_eq_true h6, beq_self_eq_true]
      simp only [Bool.and_true, cond_true]
      obtain ⟨m, hm⟩ : ∃ m, ((es.length : Int) - i).toNat = m + 1 := ⟨((es.length : Int) - i).toNat - 1, by omega⟩
      have hm2 : ((es.length : Int) - (i + 1)).toNat = m := by omega
      rw [hm] at hr'
      simp only [lowF] at hr'
      right
      refine ⟨lF es.length es.length es.length es.length (es.length : Int) (i + 1) nl (lowE es i), ?_, by simp [pF, lowE_len]; omega, by simp only [mF]; omega, ?_⟩
      · unfold lowE
        cases decide (eR es i ≥ 65) <;> cases decide (eR es i ≤ 90) <;> rfl
      · rw [hr']; simp only [fF, hm2]; rfl
    · rw [decide_eq_false hi]
      rw [show ((es.length : Int) - i).toNat = 0 by omega] at hr'
      exact .inl (by rw [hr']; rfl)
  · cases hp
noncomputable def E9 : EnvK := E8.addW 15 3 [3, 8, 9, 10] [] shF pF fF
theorem ok9 : EnvOK Try.prog E9.env :=
  ok8.addW (n := 60) Try.func15 (show Try.f15.body = some (bod Try.f15) by kernel_rfl) (show (loops (bod Try.f15)).filter (fun b => rid b == 3) = [lpb Try.f15 3] by kernel_rfl) [3, 8, 9, 10] [3] [] shF mF sF
theorem qFold (s : ByteArray) : runP Try.prog E9 40 15 [sv s] =
  bif pF (lF s.size s.size s.size s.size (s.size : Int) 0 false (bytesL s)) then
    bif ((lowF (bytesL s) 0 ((s.size : Int) - 0).toNat).length == s.size) && true then some (sv (strB (((lowF (bytesL s) 0 ((s.size : Int) - 0).toNat).drop 0).take s.size))) else none
  else none := by kernel_rfl
/-! The reference. -/
noncomputable def E10 : EnvK := E8.addN 16 3 [(3, 5, 1)]
theorem ok10 : EnvOK Try.prog E10.env := ok8.addN 16 3 [(3, 5, 1)]
def shG : S1 := ⟨30, [(0, .str), (3, .sl 0), (4, I64)], [.many 5 1]⟩
abbrev lG (s : ByteArray) (n l : Nat) (i : Int) (nl : Bool) (es : List PV) : LS := ([.s s, .n n, .n l, .i i], [.l nl es])
noncomputable abbrev xG (n l : Nat) (nl : Bool) (es : List PV) : PX × List PV × List Row := (.exit 0, tm 30 [(3, .sl 0 n 0 l)], (shG.put (lG .empty 0 0 0 nl es)).2)
def room1 (es : List PV) (n l : Nat) : Bool := decide (es.length = n) && decide (n = l) && decide ((n + 1) * 1 ≤ 140737488355328)
noncomputable def apG (s : ByteArray) (n l : Nat) (i : Int) (nl : Bool) (es : List PV) (c : Int) : Option (PX × List PV × List Row) :=
  bif room1 es n l then some (.normal, shG.put (lG s (n + 1) (n + 1) (W (i + 1)) (nl && false) (es ++ [cv c]))) else none
theorem qG (s : ByteArray) (n l : Nat) (i : Int) (nl : Bool) (es : List PV) : runB Try.prog E10 60 16 (lpb Try.f16 3) [0, 3, 4] [3] (shG.put (lG s n l i nl es)).1 (shG.put (lG s n l i nl es)).2 =
  bif decide (i < (s.size : Int)) then bif inS s i then bif decide (sB s i ≥ 65) then bif decide (sB s i ≤ 90) then apG s n l i nl es (B8 (B8 (sB s i - 65) + 97)) else apG s n l i nl es (sB s i) else apG s n l i nl es (sB s i) else none
  else some (xG n l nl es) := by kernel_rfl
def outF (s : ByteArray) (i : Int) : Nat → List PV
  | 0 => []
  | m + 1 => cv (lowI (sB s i)) :: outF s (i + 1) m
theorem outF_len (s : ByteArray) : ∀ (m : Nat) (i : Int), (outF s i m).length = m
  | 0, _ => rfl
  | m + 1, i => by simp [outF, outF_len s m (i + 1)]
def pG : LS → Bool
  | ([.s s, .n n, .n l, .i i], [.l _ es]) => decide (n = es.length) && decide (l = es.length) && decide ((es.length : Int) ≤ i) && decide (i ≤ (s.size : Int)) && bigS s
  | _ => false
noncomputable def fG : LS → DT (PX × List PV × List Row)
  | ([.s s, .n n, .n l, .i i], [.l nl es]) => .leaf (xG (n + ((s.size : Int) - i).toNat) (l + ((s.size : Int) - i).toNat) (nl && decide (((s.size : Int) - i).toNat = 0)) (es ++ outF s i ((s.size : Int) - i).toNat))
  | _ => .no
def mG : LS → Nat
  | ([.s s, .n _, .n _, .i i], [.l _ _]) => ((s.size : Int) - i).toNat
  | _ => 0
theorem sG : ∀ s r, pG s = true → (fG s).run = some r → r.1 ≠ .normal ∧ (runB Try.prog E10 60 16 (lpb Try.f16 3) [0, 3, 4] [3] (shG.put s).1 (shG.put s).2 = some r ∨
      ∃ s', runB Try.prog E10 60 16 (lpb Try.f16 3) [0, 3, 4] [3] (shG.put s).1 (shG.put s).2 = some (.normal, shG.put s') ∧ pG s' = true ∧ mG s' < mG s ∧ (fG s').run = some r) := by
  intro t r hp hr
  unfold pG at hp; split at hp
  · rename_i s n l i nl es
    simp only [Bool.and_eq_true, decide_eq_true_eq] at hp
    obtain ⟨⟨⟨⟨rfl, rfl⟩, h3⟩, h4⟩, h5⟩ := hp
    have hr' := (Option.some.inj hr).symm
    refine ⟨by rw [hr']; simp, ?_⟩
    rw [show shG.put ([.s s, .n es.length, .n es.length, .i i], [.l nl es]) = shG.put (lG s es.length es.length i nl es) from rfl, qG]
    by_cases hi : i < (s.size : Int)
    · rw [decide_eq_true hi, cond_true, inS_of (by omega) hi, cond_true]
      obtain ⟨m, hm⟩ : ∃ m, ((s.size : Int) - i).toNat = m + 1 := ⟨((s.size : Int) - i).toNat - 1, by omega⟩
      have hm2 : ((s.size : Int) - (i + 1)).toNat = m := by omega
      rw [hm] at hr'
      simp only [outF] at hr'
      have hroom : room1 es es.length es.length = true := by unfold room1; simp; omega
      have hap : ∀ c, apG s es.length es.length i nl es c = some (.normal, shG.put (lG s (es.length + 1) (es.length + 1) (i + 1) false (es ++ [cv c]))) := fun c => by
        unfold apG; rw [hroom, W_id (by omega) (by omega), Bool.and_false]; rfl
      right
      refine ⟨lG s (es.length + 1) (es.length + 1) (i + 1) false (es ++ [cv (lowI (sB s i))]), ?_, by simp [pG]; omega, by simp only [mG]; omega, ?_⟩
      · rw [hap, hap]
        unfold lowI
        cases decide (sB s i ≥ 65) <;> cases decide (sB s i ≤ 90) <;> rfl
      · rw [hr']
        simp only [fG, hm2, List.append_assoc, List.cons_append, List.nil_append, Bool.false_and]
        rw [show es.length + 1 + m = es.length + (m + 1) by omega]
        simp [DT.run]
    · rw [decide_eq_false hi]
      rw [show ((s.size : Int) - i).toNat = 0 by omega] at hr'
      exact .inl (by rw [hr']; simp [outF])
  · cases hp
noncomputable def E11 : EnvK := E10.addW 16 3 [0, 3, 4] [] shG pG fG
theorem ok11 : EnvOK Try.prog E11.env :=
  ok10.addW (n := 60) Try.func16 (show Try.f16.body = some (bod Try.f16) by kernel_rfl) (show (loops (bod Try.f16)).filter (fun b => rid b == 3) = [lpb Try.f16 3] by kernel_rfl) [0, 3, 4] [3] [] shG mG sG
theorem qRFold (s : ByteArray) : runP Try.prog E11 40 16 [sv s] =
  bif pG (lG s 0 0 0 true []) then
    bif (([] ++ outF s 0 ((s.size : Int) - 0).toNat).length == 0 + ((s.size : Int) - 0).toNat) && true then some (sv (strB ((([] ++ outF s 0 ((s.size : Int) - 0).toNat).drop 0).take (0 + ((s.size : Int) - 0).toNat)))) else none
  else none := by kernel_rfl
end Go.Hs
/- Strings (gazette): small letters: both implementations; the order of names. -/
namespace Go.Hs
open Go.Hx Go.Proofs
theorem sB_range (s : ByteArray) (i : Int) : 0 ≤ sB s i ∧ sB s i < 256 := by
  unfold sB; have := (s.data.getD i.toNat 0).toNat_lt; omega
theorem lowI_byte (b : UInt8) : UInt8.ofNat (lowI (b.toNat : Int)).toNat = lowB b := by
  have hb := b.toNat_lt
  unfold lowI lowB
  by_cases h1 : (b.toNat : Int) ≥ 65
  · rw [decide_eq_true h1, cond_true]
    by_cases h2 : (b.toNat : Int) ≤ 90
    · rw [decide_eq_true h2, cond_true, if_pos (by omega), B8_eq, B8_eq, show (((b.toNat : Int) - 65) % 256 + 97) % 256 = ((b.toNat + 32 : Nat) : Int) by omega, Int.toNat_natCast]
    · rw [decide_eq_false h2, cond_false, if_neg (by omega), Int.toNat_natCast]
      exact UInt8.ofNat_toNat
  · rw [decide_eq_false h1, cond_false, if_neg (by omega), Int.toNat_natCast]
    exact UInt8.ofNat_toNat
theorem lowJ_I {c : Int} (_ : 0 ≤ c ∧ c < 256) : (bif decide (c ≥ 65) then bif decide (c ≤ 90) then lowJ c else c else c) = lowI c := by
  unfold lowI lowJ
  by_cases h1 : c ≥ 65
  · by_cases h2 : c ≤ 90
    · rw [decide_eq_true h1, decide_eq_true h2, B8_eq, B8_eq, B8_eq, B8_eq]; simp only [cond_true]; omega
    · rw [decide_eq_false h2]; rfl
  · rw [decide_eq_false h1]; rfl
/-- The string of a list of bytes. -/
theorem strB_eq {es : List PV} {l : List UInt8} (hl : es.length = l.length) (h : ∀ j (hj : j < l.length), UInt8.ofNat (eB es (j : Int)).toNat = l[j]) : strB es = ⟨l.toArray⟩ := by
  unfold strB Go.strOfNums
  congr 2
  rw [List.map_map]
  refine List.ext_getElem (by simpa using hl) fun j h1 h2 => ?_
  rw [List.getElem_map]
  have := h j h2
  rw [← this]
  have hj : j < es.length := by omega
  show UInt8.ofNat (((es[j]).cellAt 0).getI).toNat = _
  unfold eB
  rw [Int.toNat_natCast, List.getD_eq_getElem?_getD, List.getElem?_eq_getElem hj]; rfl
theorem outF_at (s : ByteArray) : ∀ (m : Nat) (i : Int) (j : Nat), j < m → eB (outF s i m) (j : Int) = lowI (sB s (i + j))
  | 0, _, _, h => by omega
  | m + 1, i, 0, _ => by
    rw [show i + ((0 : Nat) : Int) = i by omega]; rfl
  | m + 1, i, j + 1, h => by
    have := outF_at s m (i + 1) j (by omega)
    rw [show i + ((j + 1 : Nat) : Int) = i + 1 + (j : Int) by omega, ← this]
    unfold eB
    rw [Int.toNat_natCast, Int.toNat_natCast]; rfl
theorem lowE_at (es : List PV) (i : Int) (h0 : 0 ≤ i) (h1 : i < (es.length : Int)) (hb : ∀ j : Nat, j < es.length → 0 ≤ eB es j ∧ eB es j < 256) (j : Nat) (_ : j < es.length) : eB (lowE es i) (j : Int) = if (j : Int) = i then lowI (eB es i) else eB es j := by
  have hI := lowJ_I (c := eB es i) (by have := hb i.toNat (by omega); rwa [show (i.toNat : Int) = i by omega] at this)
  have set : ∀ c, eB (es.set (0 + i.toNat) (cv c)) (j : Int) = if (j : Int) = i then c else eB es j := fun c => by
    unfold eB
    rw [Int.toNat_natCast, Nat.zero_add, List.getD_eq_getElem?_getD, List.getElem?_set]
    by_cases hji : (j : Int) = i
    · rw [if_pos hji, if_pos (by omega), if_pos (by omega)]; rfl
    · rw [if_neg hji, if_neg (by omega), ← List.getD_eq_getElem?_getD]
  unfold lowE
  rw [eR_eq]
  revert hI
  cases decide (eB es i ≥ 65) with
  | false => intro hI; simp only [cond_false] at hI ⊢; by_cases hji : (j : Int) = i
             · rw [if_pos hji, ← hI, hji]
             · rw [if_neg hji]
  | true =>
    cases decide (eB es i ≤ 90) with
    | false => intro hI; simp only [cond_true, cond_false] at hI ⊢; by_cases hji : (j : Int) = i
               · rw [if_pos hji, ← hI, hji]
               · rw [if_neg hji]
    | true => intro hI; simp only [cond_true] at hI ⊢; rw [set, hI]
theorem lowI_range {c : Int} (h : 0 ≤ c ∧ c < 256) : 0 ≤ lowI c ∧ lowI c < 256 := by
  rw [← lowJ_I h]; unfold lowJ; rw [B8_eq, B8_eq]
  cases decide (c ≥ 65) <;> cases decide (c ≤ 90) <;> simp only [cond_true, cond_false] <;> omega
theorem lowF_at : ∀ (m : Nat) (es : List PV) (i : Int), 0 ≤ i → i + m ≤ (es.length : Int) → (∀ j : Nat, j < es.length → 0 ≤ eB es j ∧ eB es j < 256) → ∀ j : Nat, j < es.length →
    eB (lowF es i m) (j : Int) = if i ≤ (j : Int) ∧ (j : Int) < i + m then lowI (eB es j) else eB es j
  | 0, es, i, _, _, _, j, _ => by rw [if_neg (by omega)]; rfl
  | m + 1, es, i, h0, h1, hb, j, hj => by
    have hE := lowE_at es i h0 (by omega) hb
    rw [lowF, lowF_at m (lowE es i) (i + 1) (by omega) (by rw [lowE_len]; omega) (fun k hk => by
      rw [lowE_len] at hk
      rw [hE k hk]
      split
      · exact lowI_range (by have := hb i.toNat (by omega); rwa [show (i.toNat : Int) = i by omega] at this)
      · exact hb k hk) j (by rw [lowE_len]; exact hj), hE j hj]
    by_cases hji : (j : Int) = i
    · rw [if_neg (by omega), if_pos hji, if_pos (by omega), hji]
    · rw [if_neg hji]
      by_cases hr : i + 1 ≤ (j : Int) ∧ (j : Int) < i + 1 + m
      · rw [if_pos hr, if_pos (by omega)]
      · rw [if_neg hr, if_neg (by omega)]
theorem bl_len (s : ByteArray) : (bl s).length = s.size := by simp only [bl, Array.length_toList]; rfl
theorem sB_bl (s : ByteArray) (j : Nat) (hj : j < (bl s).length) : sB s (j : Int) = ((bl s)[j].toNat : Int) := by
  unfold sB
  rw [Int.toNat_natCast, Array.getD_eq_getD_getElem?, ← Array.getElem?_toList, List.getElem?_eq_getElem (show j < s.data.toList.length from hj)]; rfl
theorem strB_low (s : ByteArray) : strB (lowF (bytesL s) 0 s.size) = fold s := by
  have hl := bytesL_len s
  have hbl := bl_len s
  refine strB_eq (by rw [lowF_len, hl, List.length_map, hbl]) fun j hj => ?_
  rw [List.length_map] at hj
  have hb : ∀ k : Nat, k < (bytesL s).length → 0 ≤ eB (bytesL s) k ∧ eB (bytesL s) k < 256 := fun k hk => by
    rw [bytesL_at s k (by omega) (by omega)]; exact sB_range s k
  rw [lowF_at s.size (bytesL s) 0 (by omega) (by omega) hb j (by omega), if_pos (by omega), bytesL_at s j (by omega) (by omega), sB_bl s j hj, lowI_byte, List.getElem_map]
theorem strB_out (s : ByteArray) : strB (outF s 0 s.size) = fold s := by
  have hbl := bl_len s
  refine strB_eq (by rw [outF_len, List.length_map, hbl]) fun j hj => ?_
  rw [List.length_map] at hj
  rw [outF_at s s.size 0 j (by omega), Int.zero_add, sB_bl s j hj, lowI_byte, List.getElem_map]
theorem qFold' (s : ByteArray) (hs : bigS s = true) : runP Try.prog E9 40 15 [sv s] = some (sv (fold s)) := by
  have hs' := of_decide_eq_true hs
  rw [qFold, show ((s.size : Int) - 0).toNat = s.size by omega, show pF (lF s.size s.size s.size s.size (s.size : Int) 0 false (bytesL s)) = true by simp [pF, bytesL_len]; exact hs', cond_true, lowF_len, bytesL_len]
  rw [beq_self_eq_true, List.drop_zero, List.take_of_length_le (by rw [lowF_len, bytesL_len]; exact Nat.le_refl _), strB_low]; rfl
theorem qRFold' (s : ByteArray) (hs : bigS s = true) : runP Try.prog E11 40 16 [sv s] = some (sv (fold s)) := by
  have hs' := of_decide_eq_true hs
  rw [qRFold, show ((s.size : Int) - 0).toNat = s.size by omega, show pG (lG s 0 0 0 true []) = true by simp [pG]; exact hs', cond_true, List.nil_append, outF_len, Nat.zero_add]
  rw [beq_self_eq_true, List.drop_zero, List.take_of_length_le (by rw [outF_len]; exact Nat.le_refl _), strB_out]; rfl
def cFold : List PV → Option (DT PV) | [.val (.string s)] => some (.br (bigS s) (.leaf (sv (fold s))) .no) | _ => none
theorem oFold (args : List PV) (d : DT PV) (r : PV) (h : cFold args = some d) (hr : d.run = some r) : PCall Try.prog 15 args r := by
  unfold cFold at h; split at h
  · rename_i s; cases h; obtain ⟨h1, rfl⟩ := run_br1 hr; exact (runP_sound ok9 (qFold' s h1)).2
  · cases h
theorem oRFold (args : List PV) (d : DT PV) (r : PV) (h : cFold args = some d) (hr : d.run = some r) : PCall Try.prog 16 args r := by
  unfold cFold at h; split at h
  · rename_i s; cases h; obtain ⟨h1, rfl⟩ := run_br1 hr; exact (runP_sound ok11 (qRFold' s h1)).2
  · cases h
theorem eFold : Hx.Enters Try.prog 15 := (runP_sound ok9 (qFold' .empty rfl)).1
theorem eRFold : Hx.Enters Try.prog 16 := (runP_sound ok11 (qRFold' .empty rfl)).1
noncomputable def E12 : EnvK := (E8.addF 15 cFold).addF 16 cFold
theorem ok12 : EnvOK Try.prog E12.env := (ok8.addF eFold oFold).addF eRFold oRFold
/-! The order. -/
open Go.Extern.BytealgCompare in
theorem qCmp (a b : ByteArray) : runP Try.prog E12 40 29 [sv a, sv b] = bif bigS a then bif bigS b then
  bif cmp (fold a) (fold b) != 0 then some (iv (cmp (fold a) (fold b))) else bif cmp a b != 0 then some (iv (cmp a b)) else some (iv 0) else none else none := by kernel_rfl
theorem qCmp' (a b : ByteArray) (ha : bigS a = true) (hb : bigS b = true) : runP Try.prog E12 40 29 [sv a, sv b] = some (iv (cmpN a b)) := by
  rw [qCmp, ha, hb, Lib.cmp_eq, Lib.cmp_eq]
  unfold cmpN
  simp only [cond_true]
  by_cases h1 : Lib.compareBytes (bl (fold a)) (bl (fold b)) = 0
  · rw [if_pos h1, h1]
    by_cases h2 : Lib.compareBytes (bl a) (bl b) = 0
    · rw [h2]; rfl
    · rw [show (Lib.compareBytes (bl a) (bl b) != 0) = true by simpa using h2]; rfl
  · rw [if_neg h1, show (Lib.compareBytes (bl (fold a)) (bl (fold b)) != 0) = true by simpa using h1]; rfl
def cCmp : List PV → Option (DT PV) | [.val (.string a), .val (.string b)] => some (.br (bigS a && bigS b) (.leaf (iv (cmpN a b))) .no) | _ => none
theorem oCmp (args : List PV) (d : DT PV) (r : PV) (h : cCmp args = some d) (hr : d.run = some r) : PCall Try.prog 29 args r := by
  unfold cCmp at h; split at h
  · rename_i a b; cases h; obtain ⟨h1, rfl⟩ := run_br1 hr; rw [Bool.and_eq_true] at h1; exact (runP_sound ok12 (qCmp' a b h1.1 h1.2)).2
  · cases h
theorem eCmp : Hx.Enters Try.prog 29 := (runP_sound ok12 (qCmp' .empty .empty rfl rfl)).1
noncomputable def E13 : EnvK := E12.addF 29 cCmp
theorem ok13 : EnvOK Try.prog E13.env := ok12.addF eCmp oCmp
theorem qLess (a b : ByteArray) : runP Try.prog E13 40 17 [sv a, sv b] = bif bigS a && bigS b then some (bv (decide (cmpN a b < 0))) else none := by kernel_rfl
theorem qRLess (a b : ByteArray) : runP Try.prog E13 40 18 [sv a, sv b] = bif bigS a then bif bigS b then
  bif !((fold a).toList == (fold b).toList) then some (bv (Op.bytesLess (fold a).toList (fold b).toList)) else some (bv (Op.bytesLess a.toList b.toList)) else none else none := by kernel_rfl
theorem qRLess' (a b : ByteArray) (ha : bigS a = true) (hb : bigS b = true) : runP Try.prog E13 40 18 [sv a, sv b] = some (bv (decide (cmpN a b < 0))) := by
  rw [qRLess, ha, hb, less_cb, less_cb, toL, toL]
  unfold cmpN
  simp only [cond_true]
  by_cases h1 : Lib.compareBytes (bl (fold a)) (bl (fold b)) = 0
  · rw [if_pos h1, show (bl (fold a) == bl (fold b)) = true by rw [beq_iff_eq]; exact (cb_zero _ _).1 h1]; rfl
  · rw [if_neg h1, show (bl (fold a) == bl (fold b)) = false by rw [beq_eq_false_iff_ne]; exact fun t => h1 ((cb_zero _ _).2 t)]; rfl
def cLess : List PV → Option (DT PV) | [.val (.string a), .val (.string b)] => some (.br (bigS a && bigS b) (.leaf (bv (decide (cmpN a b < 0)))) .no) | _ => none
theorem oLess (args : List PV) (d : DT PV) (r : PV) (h : cLess args = some d) (hr : d.run = some r) : PCall Try.prog 17 args r := by
  unfold cLess at h; split at h
  · rename_i a b; cases h; obtain ⟨h1, rfl⟩ := run_br1 hr; exact (runP_sound ok13 (by rw [qLess, h1]; rfl)).2
  · cases h
theorem oRLess (args : List PV) (d : DT PV) (r : PV) (h : cLess args = some d) (hr : d.run = some r) : PCall Try.prog 18 args r := by
  unfold cLess at h; split at h
  · rename_i a b; cases h; obtain ⟨h1, rfl⟩ := run_br1 hr; rw [Bool.and_eq_true] at h1; exact (runP_sound ok13 (qRLess' a b h1.1 h1.2)).2
  · cases h
theorem eLess : Hx.Enters Try.prog 17 := (runP_sound ok13 (n := 40) (args := [sv .empty, sv .empty]) (p := bv false) (by rw [qLess]; rfl)).1
theorem eRLess : Hx.Enters Try.prog 18 := (runP_sound ok13 (qRLess' .empty .empty rfl rfl)).1
noncomputable def E14 : EnvK := (E13.addF 17 cLess).addF 18 cLess
theorem ok14 : EnvOK Try.prog E14.env := (ok13.addF eLess oLess).addF eRLess oRLess
end Go.Hs
/- Strings (gazette): GazetteNames and GazetteOrder answer true. -/
namespace Go.Hs
open Go.Hx Go.Proofs
def mn40 (s : ByteArray) : Int := if 40 < (s.size : Int) then 40 else (s.size : Int)
def cutS (s : ByteArray) : ByteArray := s.extract 0 (mn40 s).toNat
theorem qCut (s : ByteArray) : runP Try.prog E14 20 10 [sv s] = bif decide ((0 : Int) ≤ 0) && decide (0 ≤ mn40 s) && decide (mn40 s ≤ (s.size : Int)) then some (sv (cutS s)) else none := by kernel_rfl
theorem mn40_ok (s : ByteArray) : (decide ((0 : Int) ≤ 0) && decide (0 ≤ mn40 s) && decide (mn40 s ≤ (s.size : Int))) = true := by
  unfold mn40; simp; split <;> omega
theorem cutS_size (s : ByteArray) : (cutS s).size ≤ 40 := by
  unfold cutS mn40
  rw [ByteArray.size_extract]; split <;> omega
theorem cutS_big (s : ByteArray) : bigS (cutS s) = true := by have := cutS_size s; simp [bigS]; omega
theorem fold_big {s : ByteArray} (h : bigS s = true) : bigS (fold s) = true := by simp [bigS] at h ⊢; rw [fold_size]; exact h
def cCut : List PV → Option PV | [.val (.string s)] => some (sv (cutS s)) | _ => none
theorem oCut (args : List PV) (r : PV) (h : cCut args = some r) : Hx.Enters Try.prog 10 ∧ PCall Try.prog 10 args r := by
  unfold cCut at h; split at h
  · rename_i s; cases h; exact runP_sound ok14 (n := 20) (by rw [qCut, mn40_ok]; rfl)
  · cases h
noncomputable def E15 : EnvK := E14.addO 10 cCut
theorem ok15 : EnvOK Try.prog E15.env := ok14.addO oCut
abbrev lt (x y : ByteArray) : Bool := decide (cmpN x y < 0)
def nmT (A B : ByteArray) : Option PV :=
  bif bigS A then bif bigS A then bif rightS A == rightS A then bif bigS A then bif bigS A then bif classS A == classS A then bif bigS A then bif bigS A then bif (fold A).toList == (fold A).toList then
    bif bigS A && bigS B then bif bigS A && bigS B then bif lt A B == lt A B then bif bigS A then bif bigS (fold A) && bigS A then bif bigS A then bif bigS (fold A) && bigS A then
      some (bv (lt (fold A) A == lt (fold A) A)) else none else none else none else none else some (bv false) else none else none
  else some (bv false) else none else none else some (bv false) else none else none else some (bv false) else none else none
theorem qNames (a b : ByteArray) : runP Try.prog E15 60 3 [sv a, sv b] = nmT (cutS a) (cutS b) := by kernel_rfl
theorem lawNames (a b : ByteArray) : Hx.Enters Try.prog 3 ∧ PCall Try.prog 3 [sv a, sv b] (bv true) := by
  refine runP_sound ok15 (n := 60) ?_
  rw [qNames]
  unfold nmT
  have h1 := cutS_big a
  have h2 := cutS_big b
  rw [h1, h2, fold_big h1]
  simp
/-! The order. -/
def L2 (x y : ByteArray) (k : Option PV) : Option PV := bif bigS x && bigS y then k else none
def F1 (x : ByteArray) (k : Option PV) : Option PV := bif bigS x then k else none
def restO (A B : ByteArray) : Option PV :=
  F1 A (F1 (fold A) (F1 A (bif (fold (fold A)).toList == (fold A).toList then F1 A (bif ((fold A).size : Int) == (A.size : Int) then F1 A (F1 B (bif !((fold A).toList == (fold B).toList) then some (bv true) else
    bif A.toList == B.toList then some (bv true) else L2 A B (some (bv (lt A B == Op.bytesLess A.toList B.toList))))) else some (bv false)) else some (bv false))))
def thirdO (A B C : ByteArray) : Option PV := L2 A B (bif lt A B then L2 B C (bif lt B C then L2 A C (bif !lt A C then some (bv false) else restO A B) else restO A B) else restO A B)
def ordO (A B C : ByteArray) : Option PV :=
  L2 A A (bif lt A A then some (bv false) else bif !(A.toList == B.toList) then L2 A B (L2 B A (bif lt A B == lt B A then some (bv false) else thirdO A B C)) else thirdO A B C)
theorem qOrder (a b c : ByteArray) : runP Try.prog E15 60 5 [.agg [sv a, sv b, sv c]] = ordO (cutS a) (cutS b) (cutS c) := by kernel_rfl
theorem restO_eq {A B : ByteArray} (hA : bigS A = true) (hB : bigS B = true) : restO A B = some (bv true) := by
  unfold restO F1 L2
  rw [hA, hB, fold_big hA, fold_fold, fold_size]
  simp only [cond_true, beq_self_eq_true, Bool.and_true]
  by_cases h1 : fold A = fold B
  · rw [h1, beq_self_eq_true]
    simp only [Bool.not_true, cond_false]
    by_cases h2 : A = B
    · rw [h2, beq_self_eq_true]; rfl
    · rw [show (A.toList == B.toList) = false by rw [beq_eq_false_iff_ne, toL, toL]; exact fun t => h2 (ba_eq.1 t), less_cb]
      have : cmpN A B = Lib.compareBytes (bl A) (bl B) := by unfold cmpN; rw [if_pos ((cb_zero _ _).2 (by rw [h1]))]
      rw [← this]; simp
  · rw [show ((fold A).toList == (fold B).toList) = false by rw [beq_eq_false_iff_ne, toL, toL]; exact fun t => h1 (ba_eq.1 t)]; rfl
theorem ordO_eq {A B C : ByteArray} (hA : bigS A = true) (hB : bigS B = true) (hC : bigS C = true) : ordO A B C = some (bv true) := by
  have third : thirdO A B C = some (bv true) := by
    unfold thirdO L2
    rw [restO_eq hA hB, hA, hB, hC]
    simp only [Bool.and_true, cond_true]
    cases h1 : lt A B with
    | false => rfl
    | true =>
      cases h2 : lt B C with
      | false => rfl
      | true =>
        have := cmpN_trans (of_decide_eq_true h1) (of_decide_eq_true h2)
        rw [show lt A C = true from decide_eq_true this]; rfl
  unfold ordO L2
  rw [third, hA, hB]
  simp only [Bool.and_true, cond_true]
  rw [show lt A A = false from decide_eq_false (show ¬ cmpN A A < 0 by rw [cmpN_self]; omega)]
  simp only [cond_false]
  by_cases h : A = B
  · rw [h, beq_self_eq_true]; rfl
  · rw [show (A.toList == B.toList) = false by rw [beq_eq_false_iff_ne, toL, toL]; exact fun t => h (ba_eq.1 t)]
    simp only [Bool.not_false, cond_true]
    have n : cmpN B A = - cmpN A B := cmpN_neg A B
    have z : cmpN A B ≠ 0 := fun t => h ((cmpN_zero A B).1 t)
    have this : (lt A B == lt B A) = false := by
      unfold lt
      rw [n]
      generalize cmpN A B = c at z
      by_cases q : c < 0
      · have q2 : ¬ (-c < 0) := by omega
        rw [decide_eq_true q, decide_eq_false q2]; rfl
      · have q2 : -c < 0 := by omega
        rw [decide_eq_false q, decide_eq_true q2]; rfl
    rw [this]; rfl
theorem lawOrder (a b c : ByteArray) : Hx.Enters Try.prog 5 ∧ PCall Try.prog 5 [.agg [sv a, sv b, sv c]] (bv true) :=
  runP_sound ok15 (n := 60) ((qOrder a b c).trans (ordO_eq (cutS_big a) (cutS_big b) (cutS_big c)))
end Go.Hs
/- Strings (gazette): places: their order; prefixes. -/
namespace Go.Hs
open Go.Hx Go.Proofs
/-- A place: Id, X, Y, Class, Name, Weight, District. -/
abbrev pl (i x y : Int) (c n : ByteArray) (w d : Int) : PV := .agg [iv i, iv x, iv y, sv c, sv n, iv w, iv d]
def plE (e : PV) : PV := pl (e.cellAt 0).getI (e.cellAt 1).getI (e.cellAt 2).getI (e.cellAt 3).getS (e.cellAt 4).getS (e.cellAt 5).getI (e.cellAt 6).getI
def pId (e : PV) : Int := (e.cellAt 0).getI
def pNm (e : PV) : ByteArray := (e.cellAt 4).getS
def pWt (e : PV) : Int := (e.cellAt 5).getI
def cmpI (a b : Int) : Int := if a < b then -1 else if a > b then 1 else 0
theorem qCI (a b : Int) : runP Try.prog E15 20 37 [iv a, iv b] = bif a != a then (bif b != b then some (iv 0) else some (iv (-1))) else bif b != b then some (iv 1) else bif decide (a < b) then some (iv (-1)) else bif decide (a > b) then some (iv 1) else some (iv 0) := by kernel_rfl
def cCI : List PV → Option PV | [.val (.int .i64 a), .val (.int .i64 b)] => some (iv (cmpI a b)) | _ => none
theorem oCI (args : List PV) (r : PV) (h : cCI args = some r) : Hx.Enters Try.prog 37 ∧ PCall Try.prog 37 args r := by
  unfold cCI at h; split at h
  · rename_i a b; cases h
    refine runP_sound ok15 (n := 20) ?_
    rw [qCI, bne_self_eq_false, bne_self_eq_false]
    unfold cmpI
    by_cases h1 : a < b
    · rw [decide_eq_true h1, if_pos h1]; rfl
    · rw [decide_eq_false h1, if_neg h1]
      by_cases h2 : a > b
      · rw [decide_eq_true h2, if_pos h2]; rfl
      · rw [decide_eq_false h2, if_neg h2]; rfl
  · cases h
/-- A text begins with another one. -/
def hasP (s p : ByteArray) : Bool := decide ((s.size : Int) ≥ (p.size : Int)) && ((s.extract 0 (p.size : Int).toNat).toList == p.toList)
theorem qHP (s p : ByteArray) : runP Try.prog E15 20 33 [sv s, sv p] = bif decide ((s.size : Int) ≥ (p.size : Int)) then
  bif decide ((0 : Int) ≤ 0) && decide (0 ≤ (p.size : Int)) && decide ((p.size : Int) ≤ (s.size : Int)) then some (bv ((s.extract 0 (p.size : Int).toNat).toList == p.toList)) else none else some (bv false) := by kernel_rfl
def cHP : List PV → Option PV | [.val (.string s), .val (.string p)] => some (bv (hasP s p)) | _ => none
theorem oHP (args : List PV) (r : PV) (h : cHP args = some r) : Hx.Enters Try.prog 33 ∧ PCall Try.prog 33 args r := by
  unfold cHP at h; split at h
  · rename_i s p; cases h
    refine runP_sound ok15 (n := 20) ?_
    rw [qHP]
    unfold hasP
    by_cases h1 : (s.size : Int) ≥ (p.size : Int)
    · rw [decide_eq_true h1, decide_eq_true (show (0 : Int) ≤ (p.size : Int) by omega)]; rfl
    · rw [decide_eq_false h1]; rfl
  · cases h
noncomputable def E16 : EnvK := (E15.addO 37 cCI).addO 33 cHP
theorem ok16 : EnvOK Try.prog E16.env := (ok15.addO oCI).addO oHP
/-- P9.4: the greater weight, the name, the Id. -/
def cmp3 (w1 : Int) (n1 : ByteArray) (i1 w2 : Int) (n2 : ByteArray) (i2 : Int) : Int := bif cmpI w2 w1 != 0 then cmpI w2 w1 else bif cmpN n1 n2 != 0 then cmpN n1 n2 else cmpI i1 i2
def cmpP (a b : PV) : Int := cmp3 (pWt a) (pNm a) (pId a) (pWt b) (pNm b) (pId b)
theorem qC3 (i1 x1 y1 : Int) (c1 n1 : ByteArray) (w1 d1 i2 x2 y2 : Int) (c2 n2 : ByteArray) (w2 d2 : Int) : runP Try.prog E16 40 35 [pl i1 x1 y1 c1 n1 w1 d1, pl i2 x2 y2 c2 n2 w2 d2] =
  bif bigS n1 && bigS n2 then bif cmpI w2 w1 != 0 then some (iv (cmpI w2 w1)) else bif cmpN n1 n2 != 0 then some (iv (cmpN n1 n2)) else bif cmpI i1 i2 != 0 then some (iv (cmpI i1 i2)) else some (iv 0) else none := by kernel_rfl
def cC3 : List PV → Option (DT PV)
  | [.agg [.val (.int .i64 i1), .val (.int .i64 _), .val (.int .i64 _), .val (.string _), .val (.string n1), .val (.int .i64 w1), .val (.int .i64 _)], .agg [.val (.int .i64 i2), .val (.int .i64 _), .val (.int .i64 _), .val (.string _), .val (.string n2), .val (.int .i64 w2), .val (.int .i64 _)]] =>
    some (.br (bigS n1 && bigS n2) (.leaf (iv (cmp3 w1 n1 i1 w2 n2 i2))) .no)
  | _ => none
theorem qC3' (i1 x1 y1 : Int) (c1 n1 : ByteArray) (w1 d1 i2 x2 y2 : Int) (c2 n2 : ByteArray) (w2 d2 : Int) (h : (bigS n1 && bigS n2) = true) :
    runP Try.prog E16 40 35 [pl i1 x1 y1 c1 n1 w1 d1, pl i2 x2 y2 c2 n2 w2 d2] = some (iv (cmp3 w1 n1 i1 w2 n2 i2)) := by
  rw [qC3, h]
  unfold cmp3
  cases h1 : cmpI w2 w1 != 0 with
  | true => rfl
  | false =>
    cases h2 : cmpN n1 n2 != 0 with
    | true => rfl
    | false =>
      cases h3 : cmpI i1 i2 != 0 with
      | true => rfl
      | false =>
        have : cmpI i1 i2 = 0 := by simpa using h3
        rw [this]; rfl
theorem oC3 (args : List PV) (d : DT PV) (r : PV) (h : cC3 args = some d) (hr : d.run = some r) : PCall Try.prog 35 args r := by
  unfold cC3 at h; split at h
  · cases h; obtain ⟨h1, rfl⟩ := run_br1 hr; exact (runP_sound ok16 (qC3' _ _ _ _ _ _ _ _ _ _ _ _ _ _ h1)).2
  · cases h
theorem eC3 : Hx.Enters Try.prog 35 := (runP_sound ok16 (qC3' 0 0 0 .empty .empty 0 0 0 0 0 .empty .empty 0 0 rfl)).1
noncomputable def E17 : EnvK := E16.addF 35 cC3
theorem ok17 : EnvOK Try.prog E17.env := ok16.addF eC3 oC3
end Go.Hs
/- Strings (gazette): places whose names begin with a text: the loops of IndexFunc and DeleteFunc. -/
namespace Go.Hs
open Go.Hx Go.Proofs
abbrev fnD (j : Nat) : X1 := .fn 32 [] [.ptr j 1 0 0]
abbrev nilS : ByteArray := ByteArray.mk #[]
def shX : S1 := ⟨19, [(0, .sl 0), (1, fnD 1), (7, I64), (8, I64)], [.many 36 7, .one 9 1 .str]⟩
abbrev lX (n l : Nat) (len i : Int) (nl : Bool) (es : List PV) (p : ByteArray) : LS := ([.n n, .n l, .i len, .i i], [.l nl es, .s p])
/-- The place at an index of a row. -/
def rE (es : List PV) (i : Int) : PV := es.getD (0 + i.toNat) .any
def ixR (es : List PV) (n l : Nat) (i : Int) {α : Type} (k : Option α) : Option α := bif (es.length == n) && true then bif decide (0 ≤ i) && decide (i < (l : Int)) then k else none else none
def ldR (es : List PV) (n : Nat) {α : Type} (k : Option α) : Option α := bif es.length == n then k else none
noncomputable abbrev xX0 (nl : Bool) (es : List PV) (p : ByteArray) : PX × List PV × List Row := (.exit 0, tm 19 [], (shX.put (lX 0 0 0 0 nl es p)).2)
noncomputable abbrev xX1 (i : Int) (nl : Bool) (es : List PV) (p : ByteArray) : PX × List PV × List Row := (.ret, tm 19 [(4, iv i)], (shX.put (lX 0 0 0 0 nl es p)).2)
theorem qX (n l : Nat) (len i : Int) (nl : Bool) (es : List PV) (p : ByteArray) : runB Try.prog E17 60 50 (lpb Try.f50 2) [0, 1, 7, 8] [4] (shX.put (lX n l len i nl es p)).1 (shX.put (lX n l len i nl es p)).2 =
  bif decide (i < len) then ixR es n l i (ldR es n (bif (pNm (rE es i)).toList == nilS.toList then some (xX1 i nl es p) else bif bigS (pNm (rE es i)) then
    bif !hasP (fold (pNm (rE es i))) p then some (xX1 i nl es p) else some (.normal, shX.put (lX n l len (W (i + 1)) nl es p)) else none)) else some (xX0 nl es p) := by kernel_rfl
end Go.Hs
/- Strings (gazette): IndexFunc of places, its loop; the loop of DeleteFunc. -/
namespace Go.Hs
open Go.Hx Go.Proofs
/-- A place goes: it has no name, or one that does not begin so. -/
def delB (e : PV) (p : ByteArray) : Bool := ((pNm e).toList == nilS.toList) || !hasP (fold (pNm e)) p
def anyD (es : List PV) (p : ByteArray) (i : Int) : Nat → Bool
  | 0 => false
  | m + 1 => delB (rE es i) p || anyD es p (i + 1) m
def idxD (es : List PV) (p : ByteArray) (i : Int) : Nat → Int
  | 0 => -1
  | m + 1 => bif delB (rE es i) p then i else idxD es p (i + 1) m
def bigN (es : List PV) : Bool := es.all fun e => bigS (pNm e)
theorem rE_of {es : List PV} {i : Int} (h1 : 0 ≤ i) (h2 : i < (es.length : Int)) : ∃ h : i.toNat < es.length, rE es i = es[i.toNat]'h := by
  refine ⟨by omega, ?_⟩
  unfold rE
  rw [Nat.zero_add, List.getD_eq_getElem?_getD, List.getElem?_eq_getElem (by omega)]; rfl
theorem bigN_at {es : List PV} (h : bigN es = true) {i : Int} (h1 : 0 ≤ i) (h2 : i < (es.length : Int)) : bigS (pNm (rE es i)) = true := by
  obtain ⟨hl, he⟩ := rE_of h1 h2
  rw [he]; exact List.all_eq_true.1 h _ (List.getElem_mem hl)
theorem ixR_of {es : List PV} {n l : Nat} {i : Int} {α : Type} {k : Option α} (hn : es.length = n) (h1 : 0 ≤ i) (h2 : i < (l : Int)) : ixR es n l i k = k := by
  unfold ixR; rw [hn, beq_self_eq_true, decide_eq_true h1, decide_eq_true h2]; rfl
theorem ldR_of {es : List PV} {n : Nat} {α : Type} {k : Option α} (hn : es.length = n) : ldR es n k = k := by unfold ldR; rw [hn, beq_self_eq_true]; rfl
def pX : LS → Bool
  | ([.n n, .n l, .i len, .i i], [.l _ es, .s _]) => decide (n = es.length) && decide (l = es.length) && decide (len = (es.length : Int)) && decide (0 ≤ i) && decide (i ≤ len) && decide (es.length ≤ 1000) && bigN es
  | _ => false
noncomputable def fX : LS → DT (PX × List PV × List Row)
  | ([.n _, .n _, .i len, .i i], [.l nl es, .s p]) => .br (anyD es p i (len - i).toNat) (.leaf (xX1 (idxD es p i (len - i).toNat) nl es p)) (.leaf (xX0 nl es p))
  | _ => .no
def mX : LS → Nat
  | ([.n _, .n _, .i len, .i i], [.l _ _, .s _]) => (len - i).toNat
  | _ => 0
theorem sX : ∀ s r, pX s = true → (fX s).run = some r → r.1 ≠ .normal ∧ (runB Try.prog E17 60 50 (lpb Try.f50 2) [0, 1, 7, 8] [4] (shX.put s).1 (shX.put s).2 = some r ∨
      ∃ s', runB Try.prog E17 60 50 (lpb Try.f50 2) [0, 1, 7, 8] [4] (shX.put s).1 (shX.put s).2 = some (.normal, shX.put s') ∧ pX s' = true ∧ mX s' < mX s ∧ (fX s').run = some r) := by
  intro t r hp hr
  unfold pX at hp; split at hp
  · rename_i n l len i nl es p
    simp only [Bool.and_eq_true, decide_eq_true_eq] at hp
    obtain ⟨⟨⟨⟨⟨⟨rfl, rfl⟩, rfl⟩, h4⟩, h5⟩, h6⟩, h7⟩ := hp
    have hr' := run_br2 hr
    refine ⟨by rw [hr']; cases anyD es p i ((es.length : Int) - i).toNat <;> simp, ?_⟩
    rw [show shX.put ([.n es.length, .n es.length, .i (es.length : Int), .i i], [.l nl es, .s p]) = shX.put (lX es.length es.length (es.length : Int) i nl es p) from rfl, qX]
    by_cases hi : i < (es.length : Int)
    · rw [decide_eq_true hi, cond_true, ixR_of rfl h4 hi, ldR_of rfl, bigN_at h7 h4 hi, W_id (by omega) (by omega)]
      obtain ⟨m, hm⟩ : ∃ m, ((es.length : Int) - i).toNat = m + 1 := ⟨((es.length : Int) - i).toNat - 1, by omega⟩
      have hm2 : ((es.length : Int) - (i + 1)).toNat = m := by omega
      rw [hm] at hr'
      simp only [anyD, idxD, delB] at hr'
      cases c1 : (pNm (rE es i)).toList == nilS.toList with
      | true => rw [c1] at hr'; exact .inl (by rw [hr']; rfl)
      | false =>
        cases c2 : !hasP (fold (pNm (rE es i))) p with
        | true => rw [c1, c2] at hr'; exact .inl (by rw [hr']; rfl)
        | false =>
          rw [c1, c2] at hr'
          refine .inr ⟨lX es.length es.length (es.length : Int) (i + 1) nl es p, rfl, by simp only [pX, Bool.and_eq_true, decide_eq_true_eq]; exact ⟨⟨⟨⟨⟨⟨trivial, trivial⟩, trivial⟩, by omega⟩, by omega⟩, h6⟩, h7⟩, by simp only [mX]; omega, ?_⟩
          rw [hr']
          simp only [fX, hm2, Bool.or_self, Bool.false_or, cond_false]
          show _ = some (bif anyD es p (i + 1) m then _ else _)
          cases anyD es p (i + 1) m <;> rfl
    · rw [decide_eq_false hi]
      rw [show ((es.length : Int) - i).toNat = 0 by omega] at hr'
      exact .inl (by rw [hr']; rfl)
  · cases hp
noncomputable def E18 : EnvK := E17.addW 50 2 [0, 1, 7, 8] [] shX pX fX
theorem ok18 : EnvOK Try.prog E18.env :=
  ok17.addW (n := 60) Try.func50 (show Try.f50.body = some (bod Try.f50) by kernel_rfl) (show (loops (bod Try.f50)).filter (fun b => rid b == 2) = [lpb Try.f50 2] by kernel_rfl) [0, 1, 7, 8] [4] [] shX mX sX
/-! DeleteFunc. -/
def shY : S1 := ⟨42, [(0, .sl 0), (1, fnD 1), (5, I64), (6, I64)], [.many 36 7, .one 9 1 .str]⟩
abbrev lY (n l : Nat) (i j : Int) (nl : Bool) (es : List PV) (p : ByteArray) : LS := ([.n n, .n l, .i i, .i j], [.l nl es, .s p])
noncomputable abbrev xY (n l : Nat) (i : Int) (nl : Bool) (es : List PV) (p : ByteArray) : PX × List PV × List Row := (.exit 0, tm 42 [(0, .sl 0 n 0 l), (5, iv i)], (shY.put (lY n l i 0 nl es p)).2)
def stR (es : List PV) (n l : Nat) (i : Int) {α : Type} (k : Option α) : Option α := ixR es n l i (bif (es.length == n) && true && true && true then k else none)
theorem qY (n l : Nat) (i j : Int) (nl : Bool) (es : List PV) (p : ByteArray) : runB Try.prog E18 60 30 (lpb Try.f30 5) [0, 1, 5, 6] [0, 5] (shY.put (lY n l i j nl es p)).1 (shY.put (lY n l i j nl es p)).2 =
  bif decide (j < (l : Int)) then ixR es n l j (ldR es n (bif (pNm (rE es j)).toList == nilS.toList then some (.normal, shY.put (lY n l i (W (j + 1)) nl es p)) else bif bigS (pNm (rE es j)) then
    bif !(!hasP (fold (pNm (rE es j))) p) then stR es n l i (some (.normal, shY.put (lY n l (W (i + 1)) (W (j + 1)) nl (es.set (0 + i.toNat) (plE (rE es j))) p))) else some (.normal, shY.put (lY n l i (W (j + 1)) nl es p)) else none)) else some (xY n l i nl es p) := by kernel_rfl
end Go.Hs
/- Strings (gazette): DeleteFunc: what it comes to. -/
namespace Go.Hs
open Go.Hx Go.Proofs
/-- What the loop makes: the list, and how many are kept. -/
def delL (p : ByteArray) : List PV → Int → Int → Nat → List PV × Int
  | es, i, _, 0 => (es, i)
  | es, i, j, m + 1 => bif delB (rE es j) p then delL p es i (j + 1) m else delL p (es.set (0 + i.toNat) (plE (rE es j))) (i + 1) (j + 1) m
theorem delL_len (p : ByteArray) : ∀ (m : Nat) (es : List PV) (i j : Int), (delL p es i j m).1.length = es.length
  | 0, _, _, _ => rfl
  | m + 1, es, i, j => by
    rw [delL]
    cases delB (rE es j) p with
    | true => exact delL_len p m es i (j + 1)
    | false => simp only [cond_false]; rw [delL_len p m]; simp
theorem plE_nm (e : PV) : pNm (plE e) = pNm e := rfl
theorem bigN_set {es : List PV} (h : bigN es = true) {e : PV} (he : bigS (pNm e) = true) (k : Nat) : bigN (es.set k e) = true := by
  unfold bigN at *
  rw [List.all_eq_true] at *
  intro x hx
  rcases List.mem_or_eq_of_mem_set hx with g | g
  · exact h x g
  · rw [g]; exact he
def pY : LS → Bool
  | ([.n n, .n l, .i i, .i j], [.l _ es, .s _]) => decide (n = es.length) && decide (l = es.length) && decide (0 ≤ i) && decide (i < j) && decide (j ≤ (es.length : Int)) && decide (es.length ≤ 1000) && bigN es
  | _ => false
noncomputable def fY : LS → DT (PX × List PV × List Row)
  | ([.n n, .n l, .i i, .i j], [.l nl es, .s p]) => .leaf (xY n l (delL p es i j ((l : Int) - j).toNat).2 nl (delL p es i j ((l : Int) - j).toNat).1 p)
  | _ => .no
def mY : LS → Nat
  | ([.n _, .n l, .i _, .i j], [.l _ _, .s _]) => ((l : Int) - j).toNat
  | _ => 0
theorem sY : ∀ s r, pY s = true → (fY s).run = some r → r.1 ≠ .normal ∧ (runB Try.prog E18 60 30 (lpb Try.f30 5) [0, 1, 5, 6] [0, 5] (shY.put s).1 (shY.put s).2 = some r ∨
      ∃ s', runB Try.prog E18 60 30 (lpb Try.f30 5) [0, 1, 5, 6] [0, 5] (shY.put s).1 (shY.put s).2 = some (.normal, shY.put s') ∧ pY s' = true ∧ mY s' < mY s ∧ (fY s').run = some r) := by
  intro t r hp hr
  unfold pY at hp; split at hp
  · rename_i n l i j nl es p
    simp only [Bool.and_eq_true, decide_eq_true_eq] at hp
    obtain ⟨⟨⟨⟨⟨⟨rfl, rfl⟩, h3⟩, h4⟩, h5⟩, h6⟩, h7⟩ := hp
    have hr' := (Option.some.inj hr).symm
    refine ⟨by rw [hr']; simp, ?_⟩
    rw [show shY.put ([.n es.length, .n es.length, .i i, .i j], [.l nl es, .s p]) = shY.put (lY es.length es.length i j nl es p) from rfl, qY]
    by_cases hj : j < (es.length : Int)
    · rw [decide_eq_true hj, cond_true, ixR_of rfl (by omega) hj, ldR_of rfl, bigN_at h7 (by omega) hj, W_id (n := j + 1) (by omega) (by omega), W_id (n := i + 1) (by omega) (by omega)]
      obtain ⟨m, hm⟩ : ∃ m, ((es.length : Int) - j).toNat = m + 1 := ⟨((es.length : Int) - j).toNat - 1, by omega⟩
      have hm2 : ((es.length : Int) - (j + 1)).toNat = m := by omega
      rw [hm] at hr'
      simp only [delL, delB] at hr'
      have st : ∀ {α : Type} (k : Option α), stR es es.length es.length i k = k := fun k => by unfold stR; rw [ixR_of rfl h3 (by omega), beq_self_eq_true]; rfl
      rw [st]
      right
      cases c1 : (pNm (rE es j)).toList == nilS.toList with
      | true =>
        rw [c1] at hr'
        refine ⟨lY es.length es.length i (j + 1) nl es p, rfl, by simp only [pY, Bool.and_eq_true, decide_eq_true_eq]; exact ⟨⟨⟨⟨⟨⟨trivial, trivial⟩, h3⟩, by omega⟩, by omega⟩, h6⟩, h7⟩, by simp only [mY]; omega, ?_⟩
        rw [hr']; simp only [fY, hm2, Bool.true_or, cond_true]; rfl
      | false =>
        cases c2 : hasP (fold (pNm (rE es j))) p with
        | false =>
          rw [c1, c2] at hr'
          refine ⟨lY es.length es.length i (j + 1) nl es p, rfl, by simp only [pY, Bool.and_eq_true, decide_eq_true_eq]; exact ⟨⟨⟨⟨⟨⟨trivial, trivial⟩, h3⟩, by omega⟩, by omega⟩, h6⟩, h7⟩, by simp only [mY]; omega, ?_⟩
          rw [hr']; simp only [fY, hm2, Bool.not_false, Bool.or_true, cond_true]; rfl
        | true =>
          rw [c1, c2] at hr'
          refine ⟨lY es.length es.length (i + 1) (j + 1) nl (es.set (0 + i.toNat) (plE (rE es j))) p, rfl, by
            simp only [pY, Bool.and_eq_true, decide_eq_true_eq, List.length_set]; exact ⟨⟨⟨⟨⟨⟨trivial, trivial⟩, by omega⟩, by omega⟩, by omega⟩, h6⟩, bigN_set h7 (by rw [plE_nm]; exact bigN_at h7 (by omega) hj) _⟩, by simp only [mY]; omega, ?_⟩
          rw [hr']; simp only [fY, hm2, Bool.not_true, Bool.or_self, cond_false]; rfl
    · rw [decide_eq_false hj]
      rw [show ((es.length : Int) - j).toNat = 0 by omega] at hr'
      exact .inl (by rw [hr']; rfl)
  · cases hp
noncomputable def E19 : EnvK := E18.addW 30 5 [0, 1, 5, 6] [] shY pY fY
theorem ok19 : EnvOK Try.prog E19.env :=
  ok18.addW (n := 60) Try.func30 (show Try.f30.body = some (bod Try.f30) by kernel_rfl) (show (loops (bod Try.f30)).filter (fun b => rid b == 5) = [lpb Try.f30 5] by kernel_rfl) [0, 1, 5, 6] [0, 5] [] shY mY sY
/-- The place of nothing. -/
def zPl : Value := .agg #[.int .i64 0, .int .i64 0, .int .i64 0, .string nilS, .string nilS, .int .i64 0, .int .i64 0]
abbrev rwP (es : List PV) (p : ByteArray) : List Row := [rN 36 7 false es, r1 9 1 (sv p)]
def clrL (es : List PV) (i : Int) (l : Nat) : List PV := es.take (0 + i.toNat) ++ List.replicate ((l : Int) - i).toNat (.val zPl) ++ es.drop (0 + i.toNat + ((l : Int) - i).toNat)
def endD (n l : Nat) (p : ByteArray) (es : List PV) (i : Int) : Option (PV × List Row) :=
  bif (es.length == n) && true then bif decide (0 ≤ i) && decide (i < (l : Int)) && decide (i ≤ (l : Int)) && decide ((l : Int) ≤ (l : Int)) then bif es.length == n then
    bif ((clrL es i l).length == n) && true then bif decide (0 ≤ i) && decide (i ≤ (l : Int)) then some (.sl 0 n 0 i.toNat, rwP (clrL es i l) p) else none else none else none else none else none
def delT (n l : Nat) (es : List PV) (p : ByteArray) : Option (PV × List Row) :=
  ldR es n (bif pX (lX n l (l : Int) 0 false es p) then bif anyD es p 0 ((l : Int) - 0).toNat then
    bif idxD es p 0 ((l : Int) - 0).toNat == -1 then some (.sl 0 n 0 l, rwP es p) else
      bif pY (lY n l (idxD es p 0 ((l : Int) - 0).toNat) (W (idxD es p 0 ((l : Int) - 0).toNat + 1)) false es p) then
        endD n l p (delL p es (idxD es p 0 ((l : Int) - 0).toNat) (W (idxD es p 0 ((l : Int) - 0).toNat + 1)) ((l : Int) - W (idxD es p 0 ((l : Int) - 0).toNat + 1)).toNat).1
          (delL p es (idxD es p 0 ((l : Int) - 0).toNat) (W (idxD es p 0 ((l : Int) - 0).toNat + 1)) ((l : Int) - W (idxD es p 0 ((l : Int) - 0).toNat + 1)).toNat).2 else none
    else some (.sl 0 n 0 l, rwP es p) else none)
theorem qDel (n l : Nat) (es : List PV) (p : ByteArray) : runR Try.prog E19 60 0 30 [.sl 0 n 0 l, .fn (.func 32) [] [.ptr 1 1 0 0]] (rwP es p) = delT n l es p := by kernel_rfl
end Go.Hs
/- Strings (gazette): DeleteFunc: those that stay, in their order. -/
namespace Go.Hs
open Go.Hx Go.Proofs
def Norm (es : List PV) : Prop := ∀ e, e ∈ es → plE e = e
noncomputable def normB (es : List PV) : Bool := @decide (Norm es) (Classical.propDecidable _)
theorem normB_iff {es : List PV} : normB es = true ↔ Norm es := by unfold normB; exact @decide_eq_true_iff _ (Classical.propDecidable _)
/-- Those that stay. -/
def keepF (es : List PV) (p : ByteArray) : List PV := es.filter fun e => !delB e p
theorem norm_at {es : List PV} (h : Norm es) {i : Int} (h1 : 0 ≤ i) (h2 : i < (es.length : Int)) : plE (rE es i) = rE es i := by
  obtain ⟨hl, he⟩ := rE_of h1 h2
  rw [he]; exact h _ (List.getElem_mem hl)
theorem delL_take (p : ByteArray) : ∀ (m : Nat) (es : List PV) (i j : Int), Norm es → 0 ≤ i → i ≤ j → j + m ≤ (es.length : Int) →
    (delL p es i j m).1.take (delL p es i j m).2.toNat = es.take i.toNat ++ keepF ((es.drop j.toNat).take m) p ∧ i ≤ (delL p es i j m).2 ∧ (delL p es i j m).2 ≤ i + m
  | 0, es, i, j, _, _, _, _ => by simp [delL, keepF]
  | m + 1, es, i, j, hN, h0, h1, h2 => by
    obtain ⟨hl, he⟩ := rE_of (es := es) (i := j) (by omega) (by omega)
    have hd : (es.drop j.toNat).take (m + 1) = rE es j :: (es.drop (j + 1).toNat).take m := by
      rw [he, List.drop_eq_getElem_cons hl, List.take_succ_cons, show (j + 1).toNat = j.toNat + 1 by omega]
    rw [delL]
    cases hb : delB (rE es j) p with
    | true =>
      obtain ⟨g1, g2, g3⟩ := delL_take p m es i (j + 1) hN h0 (by omega) (by omega)
      simp only [cond_true]
      refine ⟨?_, g2, by omega⟩
      rw [g1, hd]
      unfold keepF
      rw [List.filter_cons, hb]; rfl
    | false =>
      simp only [cond_false]
      rw [norm_at hN (by omega) (by omega)]
      have hN1 : Norm (es.set (0 + i.toNat) (rE es j)) := fun e h => by
        rcases List.mem_or_eq_of_mem_set h with g | g
        · exact hN e g
        · rw [g]; exact norm_at hN (by omega) (by omega)
      obtain ⟨g1, g2, g3⟩ := delL_take p m (es.set (0 + i.toNat) (rE es j)) (i + 1) (j + 1) hN1 (by omega) (by omega) (by rw [List.length_set]; omega)
      refine ⟨?_, by omega, by omega⟩
      rw [g1, hd]
      have e1 : (es.set (0 + i.toNat) (rE es j)).take (i + 1).toNat = es.take i.toNat ++ [rE es j] := by
        rw [show (i + 1).toNat = i.toNat + 1 by omega, Nat.zero_add, List.take_add_one, List.getElem?_set, if_pos rfl, if_pos (by omega)]
        rw [List.take_set_of_le (Nat.le_refl _)]; rfl
      have e2 : (es.set (0 + i.toNat) (rE es j)).drop (j + 1).toNat = es.drop (j + 1).toNat := by
        rw [List.drop_set_of_lt (by omega)]
      rw [e1, e2]
      unfold keepF
      rw [List.filter_cons, hb, List.append_assoc]; rfl
theorem idxD_spec (es : List PV) (p : ByteArray) : ∀ (m : Nat) (i : Int), 0 ≤ i → i + m ≤ (es.length : Int) → anyD es p i m = true →
    i ≤ idxD es p i m ∧ idxD es p i m < i + m ∧ delB (rE es (idxD es p i m)) p = true ∧ keepF ((es.drop i.toNat).take (idxD es p i m - i).toNat) p = (es.drop i.toNat).take (idxD es p i m - i).toNat
  | 0, _, _, _, h => by cases h
  | m + 1, i, h0, h1, h => by
    obtain ⟨hl, he⟩ := rE_of (es := es) (i := i) (by omega) (by omega)
    simp only [anyD] at h
    simp only [idxD]
    cases hb : delB (rE es i) p with
    | true => simp only [cond_true]; exact ⟨Int.le_refl _, by omega, hb, by rw [Int.sub_self]; rfl⟩
    | false =>
      rw [hb, Bool.false_or] at h
      obtain ⟨g1, g2, g3, g4⟩ := idxD_spec es p m (i + 1) (by omega) (by omega) h
      simp only [cond_false]
      refine ⟨by omega, by omega, g3, ?_⟩
      have hd : (es.drop i.toNat).take (idxD es p (i + 1) m - i).toNat = rE es i :: (es.drop (i + 1).toNat).take (idxD es p (i + 1) m - (i + 1)).toNat := by
        rw [he, List.drop_eq_getElem_cons hl, show (idxD es p (i + 1) m - i).toNat = (idxD es p (i + 1) m - (i + 1)).toNat + 1 by omega, List.take_succ_cons, show (i + 1).toNat = i.toNat + 1 by omega]
      rw [hd]
      unfold keepF at g4 ⊢
      rw [List.filter_cons, hb, g4]; rfl
theorem anyD_none (es : List PV) (p : ByteArray) : ∀ (m : Nat) (i : Int), 0 ≤ i → i + m ≤ (es.length : Int) → anyD es p i m = false → keepF ((es.drop i.toNat).take m) p = (es.drop i.toNat).take m
  | 0, _, _, _, _ => by simp [keepF]
  | m + 1, i, h0, h1, h => by
    obtain ⟨hl, he⟩ := rE_of (es := es) (i := i) (by omega) (by omega)
    simp only [anyD, Bool.or_eq_false_iff] at h
    have ih := anyD_none es p m (i + 1) (by omega) (by omega) h.2
    have hd : (es.drop i.toNat).take (m + 1) = rE es i :: (es.drop (i + 1).toNat).take m := by
      rw [he, List.drop_eq_getElem_cons hl, List.take_succ_cons, show (i + 1).toNat = i.toNat + 1 by omega]
    rw [hd]
    unfold keepF at ih ⊢
    rw [List.filter_cons, h.1, ih]; rfl
noncomputable def okD (n l : Nat) (es : List PV) : Bool := decide (n = es.length) && decide (l = es.length) && decide (es.length ≤ 1000) && bigN es && normB es
abbrev afterD (es : List PV) (p : ByteArray) (l : Nat) : List PV := keepF es p ++ List.replicate (l - (keepF es p).length) (.val zPl)
theorem delT_eq {n l : Nat} {es : List PV} (p : ByteArray) (h : okD n l es = true) : delT n l es p = some (.sl 0 n 0 (keepF es p).length, rwP (afterD es p l) p) := by
  unfold okD at h
  simp only [Bool.and_eq_true, decide_eq_true_eq, normB_iff] at h
  obtain ⟨⟨⟨⟨rfl, rfl⟩, h3⟩, h4⟩, h5⟩ := h
  unfold delT
  have hp : pX (lX es.length es.length (es.length : Int) 0 false es p) = true := by simp only [pX, Bool.and_eq_true, decide_eq_true_eq]; exact ⟨⟨⟨⟨⟨⟨trivial, trivial⟩, trivial⟩, by omega⟩, by omega⟩, h3⟩, h4⟩
  rw [ldR_of rfl, hp, show ((es.length : Int) - 0).toNat = es.length by omega, cond_true]
  cases ha : anyD es p 0 es.length with
  | false =>
    have g := anyD_none es p es.length 0 (by omega) (by omega) ha
    rw [show (0 : Int).toNat = 0 from rfl, List.drop_zero, List.take_length] at g
    unfold afterD
    rw [g, Nat.sub_self, List.replicate_zero, List.append_nil]; rfl
  | true =>
    obtain ⟨g1, g2, g3, g4⟩ := idxD_spec es p es.length 0 (by omega) (by omega) ha
    generalize idxD es p 0 es.length = x at *
    have hw : W (x + 1) = x + 1 := W_id (by omega) (by omega)
    have hy : pY (lY es.length es.length x (x + 1) false es p) = true := by simp only [pY, Bool.and_eq_true, decide_eq_true_eq]; exact ⟨⟨⟨⟨⟨⟨trivial, trivial⟩, by omega⟩, by omega⟩, by omega⟩, h3⟩, h4⟩
    rw [hw, hy, cond_true, show (x == -1) = false by rw [beq_eq_false_iff_ne]; omega, cond_false, cond_true]
    have hlen := delL_len p ((es.length : Int) - (x + 1)).toNat es x (x + 1)
    obtain ⟨t1, t2, t3⟩ := delL_take p ((es.length : Int) - (x + 1)).toNat es x (x + 1) h5 (by omega) (by omega) (by omega)
    generalize delL p es x (x + 1) ((es.length : Int) - (x + 1)).toNat = r at *
    obtain ⟨es', i'⟩ := r
    dsimp only at hlen t1 t2 t3 ⊢
    obtain ⟨hl, he⟩ := rE_of (es := es) (i := x) (by omega) (by omega)
    have hF : es'.take i'.toNat = keepF es p := by
      have e3 : (es.drop (x + 1).toNat).take ((es.length : Int) - (x + 1)).toNat = es.drop (x + 1).toNat := List.take_of_length_le (by rw [List.length_drop]; omega)
      rw [t1, e3]
      rw [show (0 : Int).toNat = 0 from rfl, List.drop_zero, Int.sub_zero] at g4
      have : keepF es p = keepF (es.take x.toNat) p ++ keepF (es.drop x.toNat) p := by unfold keepF; rw [← List.filter_append, List.take_append_drop]
      rw [this, g4, List.drop_eq_getElem_cons hl, ← he]
      unfold keepF
      rw [List.filter_cons, g3, show (x + 1).toNat = x.toNat + 1 by omega]; rfl
    have hk : (keepF es p).length = i'.toNat := by rw [← hF, List.length_take, hlen]; omega
    have hc : clrL es' i' es.length = afterD es p es.length := by
      unfold clrL afterD
      rw [Nat.zero_add, hF, hk, show ((es.length : Int) - i').toNat = es.length - i'.toNat by omega, show i'.toNat + (es.length - i'.toNat) = es.length by omega, List.drop_of_length_le (by omega), List.append_nil]
    have hcl : (afterD es p es.length).length = es.length := by unfold afterD; rw [List.length_append, List.length_replicate, hk]; omega
    unfold endD
    rw [hc, hcl, hlen, beq_self_eq_true, show (decide (0 ≤ i') && decide (i' < (es.length : Int)) && decide (i' ≤ (es.length : Int)) && decide ((es.length : Int) ≤ (es.length : Int))) = true by simp; omega, show (decide (0 ≤ i') && decide (i' ≤ (es.length : Int))) = true by simp; omega, hk]
    rfl
noncomputable def cDel : List PV → List Row → Option (DT (PV × List Row))
  | [.sl 0 n 0 l, .fn (.func 32) [] [.ptr 1 1 0 0]], [⟨es, 7, 36, true, true, false, none⟩, ⟨[.val (.string p)], 1, 9, true, true, false, none⟩] =>
    some (.br (okD n l es) (.leaf (.sl 0 n 0 (keepF es p).length, rwP (afterD es p l) p)) .no)
  | _, _ => none
theorem eDel : Hx.Enters Try.prog 30 := (runR_sound ok19 ((qDel 0 0 [] .empty).trans (delT_eq .empty (by unfold okD; simp [bigN, normB_iff, Norm])))).1
theorem oDel (args : List PV) (H : List Row) (d : DT (PV × List Row)) (q : PV) (H' : List Row) (h : cDel args H = some d) (hd : d.run = some (q, H')) : RCall Try.prog 0 30 args H q H' := by
  unfold cDel at h; split at h
  · rename_i n l es p
    cases h
    obtain ⟨hc, he⟩ := run_br1 hd
    cases he
    exact (runR_sound ok19 ((qDel n l es p).trans (delT_eq p hc))).2
  · cases h
noncomputable def E20 : EnvK := E19.addR 30 cDel
theorem ok20 : EnvOK Try.prog E20.env := ok19.addR eDel oDel
end Go.Hs
/- Strings (gazette): insertion sort: the inner round. -/
namespace Go.Hs
open Go.Hx Go.Proofs
def shN : S1 := ⟨53, [(0, .sl 0), (1, I64), (2, I64), (3, .fn 35 [] []), (8, I64), (9, I64)], [.many 36 7]⟩
abbrev lN (n l : Nat) (a b i j : Int) (nl : Bool) (es : List PV) : LS := ([.n n, .n l, .i a, .i b, .i i, .i j], [.l nl es])
noncomputable abbrev xN (n l : Nat) (a b i : Int) (nl : Bool) (es : List PV) : PX × List PV × List Row :=
  (.exit 2, tm 53 [(0, .sl 0 n 0 l), (1, iv a), (2, iv b), (3, .fn (.func 35) [] []), (8, iv i)], (shN.put (lN n l a b i 0 nl es)).2)
def stC (es : List PV) (n : Nat) {α : Type} (k : Option α) : Option α := bif (es.length == n) && true && true && true then k else none
def swE1 (es : List PV) (j j1 : Int) : List PV := es.set (0 + j.toNat) (plE (rE es j1))
def swE (es : List PV) (j j1 : Int) : List PV := (swE1 es j j1).set (0 + j1.toNat) (plE (rE es j))
theorem qN (n l : Nat) (a b i j : Int) (nl : Bool) (es : List PV) : runB Try.prog E20 60 57 (lpb Try.f57 4) [0, 1, 2, 3, 8, 9] [0, 1, 2, 3, 8] (shN.put (lN n l a b i j nl es)).1 (shN.put (lN n l a b i j nl es)).2 =
  bif decide (j > a) then ixR es n l j (ldR es n (ixR es n l (W (j - 1)) (ldR es n (bif bigS (pNm (rE es j)) && bigS (pNm (rE es (W (j - 1)))) then
    bif decide (cmpP (rE es j) (rE es (W (j - 1))) < 0) then
      ixR es n l (W (j - 1)) (ldR es n (ixR es n l j (ldR es n (ixR es n l j (stC es n (ixR (swE1 es j (W (j - 1))) n l (W (j - 1)) (stC (swE1 es j (W (j - 1))) n
        (some (.normal, shN.put (lN n l a b i (W (j - 1)) nl (swE es j (W (j - 1)))))))))))))
    else some (xN n l a b i nl es) else none)))) else some (xN n l a b i nl es) := by kernel_rfl
end Go.Hs
/- Strings (gazette): insertion sort: its loops. -/
namespace Go.Hs
open Go.Hx Go.Proofs
/-- A place moves down as long as the one below is greater. -/
def insL (a : Int) : List PV → Int → Nat → List PV
  | es, _, 0 => es
  | es, j, m + 1 => bif decide (cmpP (rE es j) (rE es (j - 1)) < 0) then insL a (swE es j (j - 1)) (j - 1) m else es
theorem swE_len (es : List PV) (j j1 : Int) : (swE es j j1).length = es.length := by unfold swE swE1; simp
theorem swE1_len (es : List PV) (j j1 : Int) : (swE1 es j j1).length = es.length := by unfold swE1; simp
theorem insL_len (a : Int) : ∀ (m : Nat) (es : List PV) (j : Int), (insL a es j m).length = es.length
  | 0, _, _ => rfl
  | m + 1, es, j => by
    rw [insL]
    cases decide (cmpP (rE es j) (rE es (j - 1)) < 0) with
    | true => simp only [cond_true]; rw [insL_len a m, swE_len]
    | false => rfl
theorem bigN_sw {es : List PV} (h : bigN es = true) {j j1 : Int} (h1 : 0 ≤ j) (h2 : j < (es.length : Int)) (h3 : 0 ≤ j1) (h4 : j1 < (es.length : Int)) : bigN (swE es j j1) = true := by
  unfold swE swE1
  refine bigN_set (bigN_set h ?_ _) ?_ _
  · rw [plE_nm]; exact bigN_at h h3 h4
  · rw [plE_nm]; exact bigN_at h h1 h2
theorem insL_big (a : Int) : ∀ (m : Nat) (es : List PV) (j : Int), bigN es = true → (m : Int) ≤ j → j < (es.length : Int) → bigN (insL a es j m) = true
  | 0, _, _, h, _, _ => h
  | m + 1, es, j, h, h1, h2 => by
    rw [insL]
    cases decide (cmpP (rE es j) (rE es (j - 1)) < 0) with
    | true => simp only [cond_true]; exact insL_big a m _ _ (bigN_sw h (by omega) h2 (by omega) (by omega)) (by omega) (by rw [swE_len]; omega)
    | false => exact h
def pN : LS → Bool
  | ([.n n, .n l, .i a, .i _, .i _, .i j], [.l _ es]) => decide (n = es.length) && decide (l ≤ es.length) && decide (0 ≤ a) && decide (a ≤ j) && decide (j < (l : Int)) && decide (es.length ≤ 1000) && bigN es
  | _ => false
noncomputable def fN : LS → DT (PX × List PV × List Row)
  | ([.n n, .n l, .i a, .i b, .i i, .i j], [.l nl es]) => .leaf (xN n l a b i nl (insL a es j (j - a).toNat))
  | _ => .no
def mN : LS → Nat
  | ([.n _, .n _, .i a, .i _, .i _, .i j], [.l _ _]) => (j - a).toNat
  | _ => 0
theorem sN : ∀ s r, pN s = true → (fN s).run = some r → r.1 ≠ .normal ∧ (runB Try.prog E20 60 57 (lpb Try.f57 4) [0, 1, 2, 3, 8, 9] [0, 1, 2, 3, 8] (shN.put s).1 (shN.put s).2 = some r ∨
      ∃ s', runB Try.prog E20 60 57 (lpb Try.f57 4) [0, 1, 2, 3, 8, 9] [0, 1, 2, 3, 8] (shN.put s).1 (shN.put s).2 = some (.normal, shN.put s') ∧ pN s' = true ∧ mN s' < mN s ∧ (fN s').run = some r) := by
  intro t r hp hr
  unfold pN at hp; split at hp
  · rename_i n l a b i j nl es
    simp only [Bool.and_eq_true, decide_eq_true_eq] at hp
    obtain ⟨⟨⟨⟨⟨⟨rfl, h2⟩, h3⟩, h4⟩, h5⟩, h6⟩, h7⟩ := hp
    have hr' := (Option.some.inj hr).symm
    refine ⟨by rw [hr']; simp, ?_⟩
    rw [show shN.put ([.n es.length, .n l, .i a, .i b, .i i, .i j], [.l nl es]) = shN.put (lN es.length l a b i j nl es) from rfl, qN]
    by_cases hj : j > a
    · rw [decide_eq_true hj, cond_true, W_id (n := j - 1) (by omega) (by omega)]
      have i1 : ∀ {α : Type} (k : Option α), ixR es es.length l j k = k := fun k => ixR_of rfl (by omega) h5
      have i2 : ∀ {α : Type} (k : Option α), ixR es es.length l (j - 1) k = k := fun k => ixR_of rfl (by omega) (by omega)
      have i3 : ∀ {α : Type} (k : Option α), ixR (swE1 es j (j - 1)) es.length l (j - 1) k = k := fun k => ixR_of (swE1_len _ _ _) (by omega) (by omega)
      have i4 : ∀ {α : Type} (k : Option α), ldR es es.length k = k := fun k => ldR_of rfl
      have i5 : ∀ {α : Type} (k : Option α), stC es es.length k = k := fun k => by unfold stC; rw [beq_self_eq_true]; rfl
      have i6 : ∀ {α : Type} (k : Option α), stC (swE1 es j (j - 1)) es.length k = k := fun k => by unfold stC; rw [swE1_len, beq_self_eq_true]; rfl
      simp only [i1, i2, i3, i4, i5, i6]
      rw [bigN_at h7 (by omega) (by omega), bigN_at h7 (i := j - 1) (by omega) (by omega)]
      obtain ⟨m, hm⟩ : ∃ m, (j - a).toNat = m + 1 := ⟨(j - a).toNat - 1, by omega⟩
      have hm2 : (j - 1 - a).toNat = m := by omega
      rw [hm] at hr'
      simp only [insL] at hr'
      cases hc : decide (cmpP (rE es j) (rE es (j - 1)) < 0) with
      | false => rw [hc] at hr'; exact .inl (by rw [hr']; rfl)
      | true =>
        rw [hc] at hr'
        refine .inr ⟨lN es.length l a b i (j - 1) nl (swE es j (j - 1)), rfl, by
          simp only [pN, Bool.and_eq_true, decide_eq_true_eq, swE_len]; exact ⟨⟨⟨⟨⟨⟨trivial, h2⟩, h3⟩, by omega⟩, by omega⟩, h6⟩, bigN_sw h7 (by omega) (by omega) (by omega) (by omega)⟩, by simp only [mN]; omega, ?_⟩
        rw [hr']; simp only [fN, hm2, cond_true]; rfl
    · rw [decide_eq_false hj]
      rw [show (j - a).toNat = 0 by omega] at hr'
      exact .inl (by rw [hr']; rfl)
  · cases hp
noncomputable def E21 : EnvK := E20.addW 57 4 [0, 1, 2, 3, 8, 9] [] shN pN fN
theorem ok21 : EnvOK Try.prog E21.env :=
  ok20.addW (n := 60) Try.func57 (show Try.f57.body = some (bod Try.f57) by kernel_rfl) (show (loops (bod Try.f57)).filter (fun b => rid b == 4) = [lpb Try.f57 4] by kernel_rfl) [0, 1, 2, 3, 8, 9] [0, 1, 2, 3, 8] [] shN mN sN
/-! The outer loop. -/
def shO : S1 := ⟨53, [(0, .sl 0), (1, I64), (2, I64), (3, .fn 35 [] []), (8, I64)], [.many 36 7]⟩
abbrev lO (n l : Nat) (a b i : Int) (nl : Bool) (es : List PV) : LS := ([.n n, .n l, .i a, .i b, .i i], [.l nl es])
noncomputable abbrev xO (nl : Bool) (es : List PV) : PX × List PV × List Row := (.exit 0, tm 53 [], (shO.put (lO 0 0 0 0 0 nl es)).2)
theorem qO (n l : Nat) (a b i : Int) (nl : Bool) (es : List PV) : runB Try.prog E21 60 57 (lpb Try.f57 1) [0, 1, 2, 3, 8] [] (shO.put (lO n l a b i nl es)).1 (shO.put (lO n l a b i nl es)).2 =
  bif decide (i < b) then bif pN (lN n l a b i i nl es) then some (.normal, shO.put (lO n l a b (W (i + 1)) nl (insL a es i (i - a).toNat))) else none else some (xO nl es) := by kernel_rfl
def srtL (a : Int) : List PV → Int → Nat → List PV
  | es, _, 0 => es
  | es, i, m + 1 => srtL a (insL a es i (i - a).toNat) (i + 1) m
theorem srtL_len (a : Int) : ∀ (m : Nat) (es : List PV) (i : Int), (srtL a es i m).length = es.length
  | 0, _, _ => rfl
  | m + 1, es, i => by rw [srtL, srtL_len a m, insL_len]
def pO : LS → Bool
  | ([.n n, .n l, .i a, .i b, .i i], [.l _ es]) => decide (n = es.length) && decide (l ≤ es.length) && decide (0 ≤ a) && decide (a ≤ i) && decide (b ≤ (l : Int)) && decide (es.length ≤ 1000) && decide (i ≤ 2000) && bigN es
  | _ => false
noncomputable def fO : LS → DT (PX × List PV × List Row)
  | ([.n _, .n _, .i a, .i b, .i i], [.l nl es]) => .leaf (xO nl (srtL a es i (b - i).toNat))
  | _ => .no
def mO : LS → Nat
  | ([.n _, .n _, .i _, .i b, .i i], [.l _ _]) => (b - i).toNat
  | _ => 0
theorem sO : ∀ s r, pO s = true → (fO s).run = some r → r.1 ≠ .normal ∧ (runB Try.prog E21 60 57 (lpb Try.f57 1) [0, 1, 2, 3, 8] [] (shO.put s).1 (shO.put s).2 = some r ∨
      ∃ s', runB Try.prog E21 60 57 (lpb Try.f57 1) [0, 1, 2, 3, 8] [] (shO.put s).1 (shO.put s).2 = some (.normal, shO.put s') ∧ pO s' = true ∧ mO s' < mO s ∧ (fO s').run = some r) := by
  intro t r hp hr
  unfold pO at hp; split at hp
  · rename_i n l a b i nl es
    simp only [Bool.and_eq_true, decide_eq_true_eq] at hp
    obtain ⟨⟨⟨⟨⟨⟨⟨rfl, h2⟩, h3⟩, h4⟩, h5⟩, h6⟩, h7⟩, h8⟩ := hp
    have hr' := (Option.some.inj hr).symm
    refine ⟨by rw [hr']; simp, ?_⟩
    rw [show shO.put ([.n es.length, .n l, .i a, .i b, .i i], [.l nl es]) = shO.put (lO es.length l a b i nl es) from rfl, qO]
    by_cases hi : i < b
    · rw [decide_eq_true hi, cond_true, W_id (n := i + 1) (by omega) (by omega)]
      rw [show pN (lN es.length l a b i i nl es) = true by simp only [pN, Bool.and_eq_true, decide_eq_true_eq]; exact ⟨⟨⟨⟨⟨⟨trivial, h2⟩, h3⟩, by omega⟩, by omega⟩, h6⟩, h8⟩, cond_true]
      obtain ⟨m, hm⟩ : ∃ m, (b - i).toNat = m + 1 := ⟨(b - i).toNat - 1, by omega⟩
      have hm2 : (b - (i + 1)).toNat = m := by omega
      rw [hm] at hr'
      simp only [srtL] at hr'
      refine .inr ⟨lO es.length l a b (i + 1) nl (insL a es i (i - a).toNat), rfl, by
        simp only [pO, Bool.and_eq_true, decide_eq_true_eq, insL_len]; exact ⟨⟨⟨⟨⟨⟨⟨trivial, h2⟩, h3⟩, by omega⟩, h5⟩, h6⟩, by omega⟩, insL_big a _ _ _ h8 (by omega) (by omega)⟩, by simp only [mO]; omega, ?_⟩
      rw [hr']; simp only [fO, hm2]; rfl
    · rw [decide_eq_false hi]
      rw [show (b - i).toNat = 0 by omega] at hr'
      exact .inl (by rw [hr']; rfl)
  · cases hp
noncomputable def E22 : EnvK := E21.addW 57 1 [0, 1, 2, 3, 8] [] shO pO fO
theorem ok22 : EnvOK Try.prog E22.env :=
  ok21.addW (n := 60) Try.func57 (show Try.f57.body = some (bod Try.f57) by kernel_rfl) (show (loops (bod Try.f57)).filter (fun b => rid b == 1) = [lpb Try.f57 1] by kernel_rfl) [0, 1, 2, 3, 8] [] [] shO mO sO
end Go.Hs
/- Strings (gazette): the stable sort of few places. -/
namespace Go.Hs
open Go.Hx Go.Proofs
theorem enters_of {P : Program} {f : FuncId} {fn : Func} {b : Code} (hf : P.funcs[f]? = some fn) (hb : fn.body = some b) (hn : (fn.name == "runtime.NumGoroutine") = false) : Hx.Enters P f := by
  intro Vs w
  simp [callFunc, hf, hb]; simpa using hn
/-- What is never reached: merging. -/
def cNo (_ : Nat) (_ : List PV) (_ : List Row) : Option (DT (PV × List Row)) := some .no
theorem eNo : Hx.Enters Try.prog 58 := enters_of Try.func58 (show Try.f58.body = some (bod Try.f58) by kernel_rfl) (by kernel_rfl)
noncomputable def E23 : EnvK := E22.addC 58 cNo
theorem ok23 : EnvOK Try.prog E23.env := ok22.addC eNo fun ro args H d p H' h hd => by cases h; cases hd
def shB : S1 := ⟨63, [(0, .sl 0), (1, I64), (2, .fn 35 [] []), (6, I64), (7, I64), (8, I64)], [.many 36 7]⟩
abbrev lB (n l : Nat) (k bs a b : Int) (nl : Bool) (es : List PV) : LS := ([.n n, .n l, .i k, .i bs, .i a, .i b], [.l nl es])
noncomputable abbrev xB (n l : Nat) (k bs a : Int) (nl : Bool) (es : List PV) : PX × List PV × List Row :=
  (.exit 0, tm 63 [(0, .sl 0 n 0 l), (1, iv k), (2, .fn (.func 35) [] []), (6, iv bs), (7, iv a)], (shB.put (lB n l k bs a 0 nl es)).2)
theorem qB (n l : Nat) (k bs a b : Int) (nl : Bool) (es : List PV) : runB Try.prog E23 60 52 (lpb Try.f52 2) [0, 1, 2, 6, 7, 8] [0, 1, 2, 6, 7] (shB.put (lB n l k bs a b nl es)).1 (shB.put (lB n l k bs a b nl es)).2 =
  bif decide (b ≤ k) then ldR es n (bif pO (lO n l a b (W (a + 1)) nl es) then some (.normal, shB.put (lB n l k bs b (W (b + bs)) nl (srtL a es (W (a + 1)) (b - W (a + 1)).toNat))) else none) else some (xB n l k bs a nl es) := by kernel_rfl
def pB : LS → Bool
  | ([.n _, .n _, .i k, .i _, .i _, .i b], [.l _ _]) => decide (k < b)
  | _ => false
noncomputable def fB : LS → DT (PX × List PV × List Row)
  | ([.n n, .n l, .i k, .i bs, .i a, .i _], [.l nl es]) => .leaf (xB n l k bs a nl es)
  | _ => .no
theorem sB2 : ∀ s r, pB s = true → (fB s).run = some r → r.1 ≠ .normal ∧ (runB Try.prog E23 60 52 (lpb Try.f52 2) [0, 1, 2, 6, 7, 8] [0, 1, 2, 6, 7] (shB.put s).1 (shB.put s).2 = some r ∨
      ∃ s', runB Try.prog E23 60 52 (lpb Try.f52 2) [0, 1, 2, 6, 7, 8] [0, 1, 2, 6, 7] (shB.put s).1 (shB.put s).2 = some (.normal, shB.put s') ∧ pB s' = true ∧ (fun _ => 0) s' < (fun _ => 0) s ∧ (fB s').run = some r) := by
  intro t r hp hr
  unfold pB at hp; split at hp
  · rename_i n l k bs a b nl es
    have hp' := of_decide_eq_true hp
    have hr' := (Option.some.inj hr).symm
    refine ⟨by rw [hr']; simp, .inl ?_⟩
    rw [show shB.put ([.n n, .n l, .i k, .i bs, .i a, .i b], [.l nl es]) = shB.put (lB n l k bs a b nl es) from rfl, qB, decide_eq_false (show ¬ b ≤ k by omega), hr']; rfl
  · cases hp
noncomputable def E24 : EnvK := E23.addW 52 2 [0, 1, 2, 6, 7, 8] [] shB pB fB
theorem ok24 : EnvOK Try.prog E24.env :=
  ok23.addW (n := 60) Try.func52 (show Try.f52.body = some (bod Try.f52) by kernel_rfl) (show (loops (bod Try.f52)).filter (fun b => rid b == 2) = [lpb Try.f52 2] by kernel_rfl) [0, 1, 2, 6, 7, 8] [0, 1, 2, 6, 7] [] shB (fun _ => 0) sB2
def shM : S1 := ⟨63, [(0, .sl 0), (1, I64), (2, .fn 35 [] []), (6, I64)], [.many 36 7]⟩
abbrev lM (n l : Nat) (k bs : Int) (nl : Bool) (es : List PV) : LS := ([.n n, .n l, .i k, .i bs], [.l nl es])
noncomputable abbrev xM (nl : Bool) (es : List PV) : PX × List PV × List Row := (.exit 2, tm 63 [], (shM.put (lM 0 0 0 0 nl es)).2)
theorem qM (n l : Nat) (k bs : Int) (nl : Bool) (es : List PV) : runB Try.prog E24 60 52 (lpb Try.f52 7) [0, 1, 2, 6] [] (shM.put (lM n l k bs nl es)).1 (shM.put (lM n l k bs nl es)).2 =
  bif decide (bs < k) then bif decide (W (2 * bs) ≤ k) then ldR es n none else bif decide (W (0 + bs) < k) then ldR es n none else some (.normal, shM.put (lM n l k (W (bs * 2)) nl es)) else some (xM nl es) := by kernel_rfl
def pM : LS → Bool
  | ([.n _, .n _, .i k, .i bs], [.l _ _]) => decide (k ≤ bs)
  | _ => false
noncomputable def fM : LS → DT (PX × List PV × List Row)
  | ([.n _, .n _, .i _, .i _], [.l nl es]) => .leaf (xM nl es)
  | _ => .no
theorem sM : ∀ s r, pM s = true → (fM s).run = some r → r.1 ≠ .normal ∧ (runB Try.prog E24 60 52 (lpb Try.f52 7) [0, 1, 2, 6] [] (shM.put s).1 (shM.put s).2 = some r ∨
      ∃ s', runB Try.prog E24 60 52 (lpb Try.f52 7) [0, 1, 2, 6] [] (shM.put s).1 (shM.put s).2 = some (.normal, shM.put s') ∧ pM s' = true ∧ (fun _ => 0) s' < (fun _ => 0) s ∧ (fM s').run = some r) := by
  intro t r hp hr
  unfold pM at hp; split at hp
  · rename_i n l k bs nl es
    have hp' := of_decide_eq_true hp
    have hr' := (Option.some.inj hr).symm
    refine ⟨by rw [hr']; simp, .inl ?_⟩
    rw [show shM.put ([.n n, .n l, .i k, .i bs], [.l nl es]) = shM.put (lM n l k bs nl es) from rfl, qM, decide_eq_false (show ¬ bs < k by omega), hr']; rfl
  · cases hp
noncomputable def E25 : EnvK := E24.addW 52 7 [0, 1, 2, 6] [] shM pM fM
theorem ok25 : EnvOK Try.prog E25.env :=
  ok24.addW (n := 60) Try.func52 (show Try.f52.body = some (bod Try.f52) by kernel_rfl) (show (loops (bod Try.f52)).filter (fun b => rid b == 7) = [lpb Try.f52 7] by kernel_rfl) [0, 1, 2, 6] [] [] shM (fun _ => 0) sM
def srtT (n l : Nat) (es : List PV) : Option (PV × List Row) :=
  ldR es n (bif pB (lB n l (l : Int) 20 0 20 false es) then ldR es n (bif pO (lO n l 0 (l : Int) (W (0 + 1)) false es) then
    bif pM (lM n l (l : Int) 20 false (srtL 0 es (W (0 + 1)) ((l : Int) - W (0 + 1)).toNat)) then some (.tup [], [rN 36 7 false (srtL 0 es (W (0 + 1)) ((l : Int) - W (0 + 1)).toNat)]) else none else none) else none)
theorem qSrt (n l : Nat) (es : List PV) : runR Try.prog E25 60 0 34 [.sl 0 n 0 l, .fn (.func 35) [] []] [rN 36 7 false es] = srtT n l es := by kernel_rfl
end Go.Hs
/- Strings (gazette): Find: what it comes to. -/
namespace Go.Hs
open Go.Hx Go.Proofs
def okS (n l : Nat) (es : List PV) : Bool := decide (n = es.length) && decide (l ≤ es.length) && decide (l ≤ 19) && decide (es.length ≤ 1000) && bigN es
abbrev sortP (es : List PV) (l : Nat) : List PV := srtL 0 es 1 ((l : Int) - 1).toNat
theorem srtT_eq {n l : Nat} {es : List PV} (h : okS n l es = true) : srtT n l es = some (.tup [], [rN 36 7 false (sortP es l)]) := by
  unfold okS at h
  simp only [Bool.and_eq_true, decide_eq_true_eq] at h
  obtain ⟨⟨⟨⟨rfl, h2⟩, h3⟩, h4⟩, h5⟩ := h
  have hw : W (0 + 1) = 1 := W_id (by omega) (by omega)
  unfold srtT
  rw [hw, ldR_of rfl, ldR_of rfl]
  rw [show pB (lB es.length l (l : Int) 20 0 20 false es) = true from decide_eq_true (show (l : Int) < 20 by omega), show pO (lO es.length l 0 (l : Int) 1 false es) = true by
    simp only [pO, Bool.and_eq_true, decide_eq_true_eq]; exact ⟨⟨⟨⟨⟨⟨⟨trivial, h2⟩, by omega⟩, by omega⟩, by omega⟩, h4⟩, by omega⟩, h5⟩,
    show pM (lM es.length l (l : Int) 20 false (srtL 0 es 1 ((l : Int) - 1).toNat)) = true from decide_eq_true (show (l : Int) ≤ 20 by omega)]
  rfl
def cSrt : List PV → List Row → Option (DT (PV × List Row))
  | [.sl 0 n 0 l, .fn (.func 35) [] []], [⟨es, 7, 36, true, true, false, none⟩] => some (.br (okS n l es) (.leaf (.tup [], [rN 36 7 false (sortP es l)])) .no)
  | _, _ => none
theorem eSrt : Hx.Enters Try.prog 34 := (runR_sound ok25 ((qSrt 0 0 []).trans (srtT_eq rfl))).1
theorem oSrt (args : List PV) (H : List Row) (d : DT (PV × List Row)) (q : PV) (H' : List Row) (h : cSrt args H = some d) (hd : d.run = some (q, H')) : RCall Try.prog 0 34 args H q H' := by
  unfold cSrt at h; split at h
  · rename_i n l es
    cases h
    obtain ⟨hc, he⟩ := run_br1 hd
    cases he
    exact (runR_sound ok25 ((qSrt n l es).trans (srtT_eq hc))).2
  · cases h
noncomputable def E26 : EnvK := (E25.addR 34 cSrt).addN 21 6 [(7, 3, 1)]
theorem ok26 : EnvOK Try.prog E26.env := (ok25.addR eSrt oSrt).addN 21 6 [(7, 3, 1)]
/-! The loop that takes the Ids. -/
def shId : S1 := ⟨31, [(7, .sl 3), (18, .sl 2), (19, I64), (20, I64)], [.many 36 7, .one 9 1 .str, .many 36 7, .many 3 1]⟩
abbrev lId (ni li n l : Nat) (len i : Int) (nl0 : Bool) (es0 : List PV) (p : ByteArray) (nl : Bool) (es : List PV) (nli : Bool) (ids : List PV) : LS := ([.n ni, .n li, .n n, .n l, .i len, .i i], [.l nl0 es0, .s p, .l nl es, .l nli ids])
noncomputable abbrev xId (ni li : Nat) (nl0 : Bool) (es0 : List PV) (p : ByteArray) (nl : Bool) (es : List PV) (nli : Bool) (ids : List PV) : PX × List PV × List Row := (.exit 0, tm 31 [(7, .sl 3 ni 0 li)], (shId.put (lId 0 0 0 0 0 0 nl0 es0 p nl es nli ids)).2)
def room8 (es : List PV) (n l : Nat) : Bool := decide (es.length = n) && decide (n = l) && decide ((n + 1) * 8 ≤ 140737488355328)
theorem qId (ni li n l : Nat) (len i : Int) (nl0 : Bool) (es0 : List PV) (p : ByteArray) (nl : Bool) (es : List PV) (nli : Bool) (ids : List PV) :
  runB Try.prog E26 60 21 (lpb Try.f21 6) [7, 18, 19, 20] [7] (shId.put (lId ni li n l len i nl0 es0 p nl es nli ids)).1 (shId.put (lId ni li n l len i nl0 es0 p nl es nli ids)).2 =
  bif decide (i < len) then ixR es n l i (ldR es n (bif room8 ids ni li then some (.normal, shId.put (lId (ni + 1) (ni + 1) n l len (W (i + 1)) nl0 es0 p nl es (nli && false) (ids ++ [iv (pId (rE es i))]))) else none)) else some (xId ni li nl0 es0 p nl es nli ids) := by kernel_rfl
end Go.Hs
/- Strings (gazette): Find: the contract. -/
namespace Go.Hs
open Go.Hx Go.Proofs
def idsL (es : List PV) (i : Int) : Nat → List PV
  | 0 => []
  | m + 1 => iv (pId (rE es i)) :: idsL es (i + 1) m
theorem idsL_len (es : List PV) : ∀ (m : Nat) (i : Int), (idsL es i m).length = m
  | 0, _ => rfl
  | m + 1, i => by simp [idsL, idsL_len es m (i + 1)]
def pId2 : LS → Bool
  | ([.n ni, .n li, .n n, .n l, .i len, .i i], [.l _ _, .s _, .l _ es, .l _ ids]) => decide (ni = ids.length) && decide (li = ids.length) && decide (n = es.length) && decide (l ≤ es.length) && decide (len = (l : Int)) && decide (0 ≤ i) && decide (i ≤ len) && decide ((ids.length : Int) ≤ i) && decide (es.length ≤ 1000)
  | _ => false
noncomputable def fId : LS → DT (PX × List PV × List Row)
  | ([.n ni, .n li, .n _, .n _, .i len, .i i], [.l nl0 es0, .s p, .l nl es, .l nli ids]) => .leaf (xId (ni + (len - i).toNat) (li + (len - i).toNat) nl0 es0 p nl es (nli && decide ((len - i).toNat = 0)) (ids ++ idsL es i (len - i).toNat))
  | _ => .no
def mId : LS → Nat
  | ([.n _, .n _, .n _, .n _, .i len, .i i], [.l _ _, .s _, .l _ _, .l _ _]) => (len - i).toNat
  | _ => 0
theorem sId : ∀ s r, pId2 s = true → (fId s).run = some r → r.1 ≠ .normal ∧ (runB Try.prog E26 60 21 (lpb Try.f21 6) [7, 18, 19, 20] [7] (shId.put s).1 (shId.put s).2 = some r ∨
      ∃ s', runB Try.prog E26 60 21 (lpb Try.f21 6) [7, 18, 19, 20] [7] (shId.put s).1 (shId.put s).2 = some (.normal, shId.put s') ∧ pId2 s' = true ∧ mId s' < mId s ∧ (fId s').run = some r) := by
  intro t r hp hr
  unfold pId2 at hp; split at hp
  · rename_i ni li n l len i nl0 es0 p nl es nli ids
    simp only [Bool.and_eq_true, decide_eq_true_eq] at hp
    obtain ⟨⟨⟨⟨⟨⟨⟨⟨rfl, rfl⟩, rfl⟩, h4⟩, rfl⟩, h6⟩, h7⟩, h8⟩, h9⟩ := hp
    have hr' := (Option.some.inj hr).symm
    refine ⟨by rw [hr']; simp, ?_⟩
    rw [show shId.put ([.n ids.length, .n ids.length, .n es.length, .n l, .i (l : Int), .i i], [.l nl0 es0, .s p, .l nl es, .l nli ids]) = shId.put (lId ids.length ids.length es.length l (l : Int) i nl0 es0 p nl es nli ids) from rfl, qId]
    by_cases hi : i < (l : Int)
    · rw [decide_eq_true hi, cond_true, ixR_of rfl h6 hi, ldR_of rfl, show room8 ids ids.length ids.length = true by unfold room8; simp; omega, cond_true, W_id (by omega) (by omega), Bool.and_false]
      obtain ⟨m, hm⟩ : ∃ m, ((l : Int) - i).toNat = m + 1 := ⟨((l : Int) - i).toNat - 1, by omega⟩
      have hm2 : ((l : Int) - (i + 1)).toNat = m := by omega
      rw [hm] at hr'
      simp only [idsL] at hr'
      refine .inr ⟨lId (ids.length + 1) (ids.length + 1) es.length l (l : Int) (i + 1) nl0 es0 p nl es false (ids ++ [iv (pId (rE es i))]), rfl, by simp [pId2]; omega, by simp only [mId]; omega, ?_⟩
      rw [hr']
      simp only [fId, hm2, List.append_assoc, List.cons_append, List.nil_append, Bool.false_and]
      rw [show ids.length + 1 + m = ids.length + (m + 1) by omega]
      simp [DT.run]
    · rw [decide_eq_false hi]
      rw [show ((l : Int) - i).toNat = 0 by omega] at hr'
      exact .inl (by rw [hr']; simp [idsL])
  · cases hp
theorem qIdR (ni li n l : Nat) (len i : Int) (nl0 : Bool) (es0 : List PV) (p : ByteArray) (nl : Bool) (es : List PV) (nli : Bool) (ids : List PV) :
  runBr Try.prog E26 60 1 21 (lpb Try.f21 6) [7, 18, 19, 20] [7] (shId.put (lId ni li n l len i nl0 es0 p nl es nli ids)).1 (shId.put (lId ni li n l len i nl0 es0 p nl es nli ids)).2 =
  bif decide (i < len) then ixR es n l i (ldR es n (bif room8 ids ni li then some (.normal, shId.put (lId (ni + 1) (ni + 1) n l len (W (i + 1)) nl0 es0 p nl es (nli && false) (ids ++ [iv (pId (rE es i))]))) else none)) else some (xId ni li nl0 es0 p nl es nli ids) := by kernel_rfl
theorem sIdR : ∀ s r, pId2 s = true → (fId s).run = some r → r.1 ≠ .normal ∧ (runBr Try.prog E26 60 1 21 (lpb Try.f21 6) [7, 18, 19, 20] [7] (shId.put s).1 (shId.put s).2 = some r ∨
      ∃ s', runBr Try.prog E26 60 1 21 (lpb Try.f21 6) [7, 18, 19, 20] [7] (shId.put s).1 (shId.put s).2 = some (.normal, shId.put s') ∧ pId2 s' = true ∧ mId s' < mId s ∧ (fId s').run = some r) := by
  intro t r hp hr
  have h := sId t r hp hr
  unfold pId2 at hp; split at hp
  · rename_i ni li n l len i nl0 es0 p nl es nli ids
    rw [show shId.put ([.n ni, .n li, .n n, .n l, .i len, .i i], [.l nl0 es0, .s p, .l nl es, .l nli ids]) = shId.put (lId ni li n l len i nl0 es0 p nl es nli ids) from rfl, qId] at h
    rw [show shId.put ([.n ni, .n li, .n n, .n l, .i len, .i i], [.l nl0 es0, .s p, .l nl es, .l nli ids]) = shId.put (lId ni li n l len i nl0 es0 p nl es nli ids) from rfl, qIdR]
    exact h
  · cases hp
noncomputable def E27 : EnvK := E26.addWr 1 21 6 [7, 18, 19, 20] shId pId2 fId
theorem ok27 : EnvOK Try.prog E27.env :=
  ok26.addWr (n := 60) (q := 1) Try.func21 (show Try.f21.body = some (bod Try.f21) by kernel_rfl) (show (loops (bod Try.f21)).filter (fun b => rid b == 6) = [lpb Try.f21 6] by kernel_rfl) [7, 18, 19, 20] [7] shId mId sIdR
def tailF (n _ : Nat) (es0 : List PV) (p : ByteArray) (es : List PV) (k : Nat) : Option PV :=
  bif pId2 (lId 0 0 n k (k : Int) 0 false es0 p false es true []) then
    ldR ([] ++ idsL es 0 ((k : Int) - 0).toNat) (0 + ((k : Int) - 0).toNat) (some (.lst false 3 ((([] ++ idsL es 0 ((k : Int) - 0).toNat).drop 0).take (0 + ((k : Int) - 0).toNat)))) else none
noncomputable def findT (n l : Nat) (es : List PV) (p : ByteArray) : Option PV :=
  bif bigS p then ldR es n (ldR es n (ldR es n (bif decide ((0 + ((es.drop 0).take l).length) * 72 ≤ 140737488355328) then
    ldR ((es.drop 0).take l) (0 + ((es.drop 0).take l).length) (bif okD (0 + ((es.drop 0).take l).length) (0 + ((es.drop 0).take l).length) ((es.drop 0).take l) then
      ldR (afterD ((es.drop 0).take l) (fold p) (0 + ((es.drop 0).take l).length)) (0 + ((es.drop 0).take l).length) (bif okS (0 + ((es.drop 0).take l).length) (keepF ((es.drop 0).take l) (fold p)).length (afterD ((es.drop 0).take l) (fold p) (0 + ((es.drop 0).take l).length)) then
        tailF (0 + ((es.drop 0).take l).length) l es (fold p) (sortP (afterD ((es.drop 0).take l) (fold p) (0 + ((es.drop 0).take l).length)) (keepF ((es.drop 0).take l) (fold p)).length) (keepF ((es.drop 0).take l) (fold p)).length else none) else none) else none))) else none
theorem qFind (n l : Nat) (es : List PV) (p : ByteArray) : runSE Try.prog E27 60 21 [.sl 0 n 0 l, sv p] [rN 36 7 false es] = findT n l es p := by kernel_rfl
end Go.Hs
/- Strings (gazette): each: the base. -/
namespace Go.Hs
open Go.Hx Go.Proofs
def idN (e : PV) : Int := (e.cellAt 0).getI
noncomputable def EN0 : EnvK := ((((((E0.addK 40).addK 42).addK 44).addSort 46 3).addN 40 1 [(1401, 3, 1)]).addN 42 1 [(1401, 3, 1)]).addN 44 1 [(1401, 3, 1)]
theorem entS : Hx.Enters Try.prog (layR.f 5) := by
  have h := layS.f5.enters rfl
  intro Vs w; exact h Vs w
theorem okN0 : EnvOK Try.prog EN0.env := (((((((ok0.addK 40).addK 42).addK 44)).addSort layS (t := 3) (by kernel_rfl) (by kernel_rfl) entS).addN 40 1 [(1401, 3, 1)]).addN 42 1 [(1401, 3, 1)]).addN 44 1 [(1401, 3, 1)]
def isN (c : Nat) (s : ByteArray) (e : PV) : Bool := (e.cellAt c).getS.toList == s.toList
/-- The Ids of those with the name, from i on. -/
def idsN (c : Nat) (s : ByteArray) (L : List PV) (i : Int) : Nat → List PV
  | 0 => []
  | m + 1 => bif isN c s (rE L i) then iv (idN (rE L i)) :: idsN c s L (i + 1) m else idsN c s L (i + 1) m
theorem idsN_len (c : Nat) (s : ByteArray) (L : List PV) : ∀ (m : Nat) (i : Int), (idsN c s L i m).length ≤ m
  | 0, _ => Nat.le_refl _
  | m + 1, i => by
    simp only [idsN]
    have := idsN_len c s L m (i + 1)
    cases isN c s (rE L i) <;> simp <;> omega
end Go.Hs
/- Strings (gazette): the loops of each, over faces, ways and places. -/
namespace Go.Hs
open Go.Hx Go.Proofs

def shNF : S1 := ⟨22, [(1, .fn 41 [] []), (2, .fn 39 [.ptr 4 1 0 0] []), (8, .sl 0), (9, I64), (10, I64)], [.many 38 5, .many 41 8, .many 36 7, .onef 32 4 (.agg [.nil, .sl 0, .sl 1, .sl 2]), .onef 66 2 (.agg [.str, .sl 5]), .many 3 1]⟩
abbrev lNF (m q : Nat) (len k : Int) (z1 : Bool) (F : List PV) (z2 : Bool) (Y : List PV) (z3 : Bool) (Q : List PV) (a b c d e f : Nat) (s : ByteArray) (n l : Nat) (nl : Bool) (es : List PV) : LS := ([.n m, .n q, .i len, .i k], [.l z1 F, .l z2 Y, .l z3 Q, .n a, .n b, .n c, .n d, .n e, .n f, .s s, .n n, .n l, .l nl es])
noncomputable abbrev xNF (z1 : Bool) (F : List PV) (z2 : Bool) (Y : List PV) (z3 : Bool) (Q : List PV) (a b c d e f : Nat) (s : ByteArray) (n l : Nat) (nl : Bool) (es : List PV) : PX × List PV × List Row := (.exit 0, tm 22 [], (shNF.put (lNF 0 0 0 0 z1 F z2 Y z3 Q a b c d e f s n l nl es)).2)
theorem qNF (m q : Nat) (len k : Int) (z1 : Bool) (F : List PV) (z2 : Bool) (Y : List PV) (z3 : Bool) (Q : List PV) (a b c d e f : Nat) (s : ByteArray) (n l : Nat) (nl : Bool) (es : List PV) :
  runBr Try.prog EN0 60 3 40 (lpb Try.f40 1) [1, 2, 8, 9, 10] [] (shNF.put (lNF m q len k z1 F z2 Y z3 Q a b c d e f s n l nl es)).1 (shNF.put (lNF m q len k z1 F z2 Y z3 Q a b c d e f s n l nl es)).2 =
  bif decide (k < len) then ixR F m q k (ldR F m (bif isN 2 s (rE F k) then (bif room8 es n l then some (.normal, shNF.put (lNF m q len (W (k + 1)) z1 F z2 Y z3 Q a b c d e f s (n + 1) (n + 1) (nl && false) (es ++ [iv (idN (rE F k))]))) else none)
    else some (.normal, shNF.put (lNF m q len (W (k + 1)) z1 F z2 Y z3 Q a b c d e f s n l nl es)))) else some (xNF z1 F z2 Y z3 Q a b c d e f s n l nl es) := by kernel_rfl
def pNF : LS → Bool
  | ([.n m, .n q, .i len, .i k], [.l _ F, .l _ _, .l _ _, .n _, .n _, .n _, .n _, .n _, .n _, .s _, .n n, .n l, .l _ es]) => decide (n = es.length) && decide (l = es.length) && decide (m = F.length) && decide (q = F.length) && decide (len = (F.length : Int)) && decide (0 ≤ k) && decide (k ≤ len) && decide (F.length ≤ 1000000) && decide (es.length ≤ 4000000 - (len - k).toNat)
  | _ => false
noncomputable def fNF : LS → DT (PX × List PV × List Row)
  | ([.n _, .n _, .i len, .i k], [.l z1 F, .l z2 Y, .l z3 Q, .n a, .n b, .n c, .n d, .n e, .n f, .s s, .n _, .n _, .l nl es]) => .leaf (xNF z1 F z2 Y z3 Q a b c d e f s (es ++ idsN 2 s F k (len - k).toNat).length (es ++ idsN 2 s F k (len - k).toNat).length (nl && (idsN 2 s F k (len - k).toNat).isEmpty) (es ++ idsN 2 s F k (len - k).toNat))
  | _ => .no
def mNF : LS → Nat
  | ([.n _, .n _, .i len, .i k], [.l _ _, .l _ _, .l _ _, .n _, .n _, .n _, .n _, .n _, .n _, .s _, .n _, .n _, .l _ _]) => (len - k).toNat
  | _ => 0
theorem sNF : ∀ s r, pNF s = true → (fNF s).run = some r → r.1 ≠ .normal ∧ (runBr Try.prog EN0 60 3 40 (lpb Try.f40 1) [1, 2, 8, 9, 10] [] (shNF.put s).1 (shNF.put s).2 = some r ∨
      ∃ s', runBr Try.prog EN0 60 3 40 (lpb Try.f40 1) [1, 2, 8, 9, 10] [] (shNF.put s).1 (shNF.put s).2 = some (.normal, shNF.put s') ∧ pNF s' = true ∧ mNF s' < mNF s ∧ (fNF s').run = some r) := by
  intro t r hp hr
  unfold pNF at hp; split at hp
  · rename_i m q len k z1 F z2 Y z3 Q a b c d e f s n l nl es
    simp only [Bool.and_eq_true, decide_eq_true_eq] at hp
    obtain ⟨⟨⟨⟨⟨⟨⟨⟨rfl, rfl⟩, rfl⟩, rfl⟩, rfl⟩, h4⟩, h5⟩, h6⟩, h7⟩ := hp
    have hr' := (Option.some.inj hr).symm
    refine ⟨by rw [hr']; simp, ?_⟩
    rw [show shNF.put ([.n F.length, .n F.length, .i (F.length : Int), .i k], [.l z1 F, .l z2 Y, .l z3 Q, .n a, .n b, .n c, .n d, .n e, .n f, .s s, .n es.length, .n es.length, .l nl es]) = shNF.put (lNF F.length F.length (F.length : Int) k z1 F z2 Y z3 Q a b c d e f s es.length es.length nl es) from rfl, qNF]
    by_cases hi : k < (F.length : Int)
    · rw [decide_eq_true hi, cond_true, ixR_of rfl h4 hi, ldR_of rfl, W_id (by omega) (by omega)]
      obtain ⟨m, hm⟩ : ∃ m, ((F.length : Int) - k).toNat = m + 1 := ⟨((F.length : Int) - k).toNat - 1, by omega⟩
      have hm2 : ((F.length : Int) - (k + 1)).toNat = m := by omega
      rw [hm] at hr'
      simp only [idsN] at hr'
      cases hc : isN 2 s (rE F k) with
      | true =>
        rw [hc] at hr'
        rw [cond_true, show room8 es es.length es.length = true by unfold room8; simp; omega, cond_true, Bool.and_false]
        refine .inr ⟨lNF F.length F.length (F.length : Int) (k + 1) z1 F z2 Y z3 Q a b c d e f s (es.length + 1) (es.length + 1) false (es ++ [iv (idN (rE F k))]), rfl, by simp [pNF]; omega, by simp only [mNF]; omega, ?_⟩
        rw [hr']
        simp only [fNF, hm2, cond_true, List.append_assoc, List.cons_append, List.nil_append, Bool.false_and, List.isEmpty_cons, Bool.and_false]
        rfl
      | false =>
        rw [hc] at hr'
        rw [cond_false]
        refine .inr ⟨lNF F.length F.length (F.length : Int) (k + 1) z1 F z2 Y z3 Q a b c d e f s es.length es.length nl es, rfl, by simp [pNF]; omega, by simp only [mNF]; omega, ?_⟩
        rw [hr']
        simp only [fNF, hm2, cond_false]
        rfl
    · rw [decide_eq_false hi]
      rw [show ((F.length : Int) - k).toNat = 0 by omega] at hr'
      exact .inl (by rw [hr']; simp [idsN])
  · cases hp
noncomputable def ENF : EnvK := EN0.addWr 3 40 1 [1, 2, 8, 9, 10] shNF pNF fNF
theorem okNF : EnvOK Try.prog ENF.env :=
  okN0.addWr (n := 60) (q := 3) Try.func40 (show Try.f40.body = some (bod Try.f40) by kernel_rfl) (show (loops (bod Try.f40)).filter (fun b => rid b == 1) = [lpb Try.f40 1] by kernel_rfl) [1, 2, 8, 9, 10] [] shNF mNF sNF

def shNY : S1 := ⟨22, [(1, .fn 43 [] []), (2, .fn 39 [.ptr 4 1 0 0] []), (8, .sl 1), (9, I64), (10, I64)], [.many 38 5, .many 41 8, .many 36 7, .onef 32 4 (.agg [.nil, .sl 0, .sl 1, .sl 2]), .onef 66 2 (.agg [.str, .sl 5]), .many 3 1]⟩
abbrev lNY (m q : Nat) (len k : Int) (z1 : Bool) (F : List PV) (z2 : Bool) (Y : List PV) (z3 : Bool) (Q : List PV) (a b c d e f : Nat) (s : ByteArray) (n l : Nat) (nl : Bool) (es : List PV) : LS := ([.n m, .n q, .i len, .i k], [.l z1 F, .l z2 Y, .l z3 Q, .n a, .n b, .n c, .n d, .n e, .n f, .s s, .n n, .n l, .l nl es])
noncomputable abbrev xNY (z1 : Bool) (F : List PV) (z2 : Bool) (Y : List PV) (z3 : Bool) (Q : List PV) (a b c d e f : Nat) (s : ByteArray) (n l : Nat) (nl : Bool) (es : List PV) : PX × List PV × List Row := (.exit 0, tm 22 [], (shNY.put (lNY 0 0 0 0 z1 F z2 Y z3 Q a b c d e f s n l nl es)).2)
theorem qNY (m q : Nat) (len k : Int) (z1 : Bool) (F : List PV) (z2 : Bool) (Y : List PV) (z3 : Bool) (Q : List PV) (a b c d e f : Nat) (s : ByteArray) (n l : Nat) (nl : Bool) (es : List PV) :
  runBr Try.prog ENF 60 3 42 (lpb Try.f42 1) [1, 2, 8, 9, 10] [] (shNY.put (lNY m q len k z1 F z2 Y z3 Q a b c d e f s n l nl es)).1 (shNY.put (lNY m q len k z1 F z2 Y z3 Q a b c d e f s n l nl es)).2 =
  bif decide (k < len) then ixR Y m q k (ldR Y m (bif isN 4 s (rE Y k) then (bif room8 es n l then some (.normal, shNY.put (lNY m q len (W (k + 1)) z1 F z2 Y z3 Q a b c d e f s (n + 1) (n + 1) (nl && false) (es ++ [iv (idN (rE Y k))]))) else none)
    else some (.normal, shNY.put (lNY m q len (W (k + 1)) z1 F z2 Y z3 Q a b c d e f s n l nl es)))) else some (xNY z1 F z2 Y z3 Q a b c d e f s n l nl es) := by kernel_rfl
def pNY : LS → Bool
  | ([.n m, .n q, .i len, .i k], [.l _ _, .l _ Y, .l _ _, .n _, .n _, .n _, .n _, .n _, .n _, .s _, .n n, .n l, .l _ es]) => decide (n = es.length) && decide (l = es.length) && decide (m = Y.length) && decide (q = Y.length) && decide (len = (Y.length : Int)) && decide (0 ≤ k) && decide (k ≤ len) && decide (Y.length ≤ 1000000) && decide (es.length ≤ 4000000 - (len - k).toNat)
  | _ => false
noncomputable def fNY : LS → DT (PX × List PV × List Row)
  | ([.n _, .n _, .i len, .i k], [.l z1 F, .l z2 Y, .l z3 Q, .n a, .n b, .n c, .n d, .n e, .n f, .s s, .n _, .n _, .l nl es]) => .leaf (xNY z1 F z2 Y z3 Q a b c d e f s (es ++ idsN 4 s Y k (len - k).toNat).length (es ++ idsN 4 s Y k (len - k).toNat).length (nl && (idsN 4 s Y k (len - k).toNat).isEmpty) (es ++ idsN 4 s Y k (len - k).toNat))
  | _ => .no
def mNY : LS → Nat
  | ([.n _, .n _, .i len, .i k], [.l _ _, .l _ _, .l _ _, .n _, .n _, .n _, .n _, .n _, .n _, .s _, .n _, .n _, .l _ _]) => (len - k).toNat
  | _ => 0
theorem sNY : ∀ s r, pNY s = true → (fNY s).run = some r → r.1 ≠ .normal ∧ (runBr Try.prog ENF 60 3 42 (lpb Try.f42 1) [1, 2, 8, 9, 10] [] (shNY.put s).1 (shNY.put s).2 = some r ∨
      ∃ s', runBr Try.prog ENF 60 3 42 (lpb Try.f42 1) [1, 2, 8, 9, 10] [] (shNY.put s).1 (shNY.put s).2 = some (.normal, shNY.put s') ∧ pNY s' = true ∧ mNY s' < mNY s ∧ (fNY s').run = some r) := by
  intro t r hp hr
  unfold pNY at hp; split at hp
  · rename_i m q len k z1 F z2 Y z3 Q a b c d e f s n l nl es
    simp only [Bool.and_eq_true, decide_eq_true_eq] at hp
    obtain ⟨⟨⟨⟨⟨⟨⟨⟨rfl, rfl⟩, rfl⟩, rfl⟩, rfl⟩, h4⟩, h5⟩, h6⟩, h7⟩ := hp
    have hr' := (Option.some.inj hr).symm
    refine ⟨by rw [hr']; simp, ?_⟩
    rw [show shNY.put ([.n Y.length, .n Y.length, .i (Y.length : Int), .i k], [.l z1 F, .l z2 Y, .l z3 Q, .n a, .n b, .n c, .n d, .n e, .n f, .s s, .n es.length, .n es.length, .l nl es]) = shNY.put (lNY Y.length Y.length (Y.length : Int) k z1 F z2 Y z3 Q a b c d e f s es.length es.length nl es) from rfl, qNY]
    by_cases hi : k < (Y.length : Int)
    · rw [decide_eq_true hi, cond_true, ixR_of rfl h4 hi, ldR_of rfl, W_id (by omega) (by omega)]
      obtain ⟨m, hm⟩ : ∃ m, ((Y.length : Int) - k).toNat = m + 1 := ⟨((Y.length : Int) - k).toNat - 1, by omega⟩
      have hm2 : ((Y.length : Int) - (k + 1)).toNat = m := by omega
      rw [hm] at hr'
      simp only [idsN] at hr'
      cases hc : isN 4 s (rE Y k) with
      | true =>
        rw [hc] at hr'
        rw [cond_true, show room8 es es.length es.length = true by unfold room8; simp; omega, cond_true, Bool.and_false]
        refine .inr ⟨lNY Y.length Y.length (Y.length : Int) (k + 1) z1 F z2 Y z3 Q a b c d e f s (es.length + 1) (es.length + 1) false (es ++ [iv (idN (rE Y k))]), rfl, by simp [pNY]; omega, by simp only [mNY]; omega, ?_⟩
        rw [hr']
        simp only [fNY, hm2, cond_true, List.append_assoc, List.cons_append, List.nil_append, Bool.false_and, List.isEmpty_cons, Bool.and_false]
        rfl
      | false =>
        rw [hc] at hr'
        rw [cond_false]
        refine .inr ⟨lNY Y.length Y.length (Y.length : Int) (k + 1) z1 F z2 Y z3 Q a b c d e f s es.length es.length nl es, rfl, by simp [pNY]; omega, by simp only [mNY]; omega, ?_⟩
        rw [hr']
        simp only [fNY, hm2, cond_false]
        rfl
    · rw [decide_eq_false hi]
      rw [show ((Y.length : Int) - k).toNat = 0 by omega] at hr'
      exact .inl (by rw [hr']; simp [idsN])
  · cases hp
noncomputable def ENY : EnvK := ENF.addWr 3 42 1 [1, 2, 8, 9, 10] shNY pNY fNY
theorem okNY : EnvOK Try.prog ENY.env :=
  okNF.addWr (n := 60) (q := 3) Try.func42 (show Try.f42.body = some (bod Try.f42) by kernel_rfl) (show (loops (bod Try.f42)).filter (fun b => rid b == 1) = [lpb Try.f42 1] by kernel_rfl) [1, 2, 8, 9, 10] [] shNY mNY sNY

def shNP : S1 := ⟨22, [(1, .fn 45 [] []), (2, .fn 39 [.ptr 4 1 0 0] []), (8, .sl 2), (9, I64), (10, I64)], [.many 38 5, .many 41 8, .many 36 7, .onef 32 4 (.agg [.nil, .sl 0, .sl 1, .sl 2]), .onef 66 2 (.agg [.str, .sl 5]), .many 3 1]⟩
abbrev lNP (m q : Nat) (len k : Int) (z1 : Bool) (F : List PV) (z2 : Bool) (Y : List PV) (z3 : Bool) (Q : List PV) (a b c d e f : Nat) (s : ByteArray) (n l : Nat) (nl : Bool) (es : List PV) : LS := ([.n m, .n q, .i len, .i k], [.l z1 F, .l z2 Y, .l z3 Q, .n a, .n b, .n c, .n d, .n e, .n f, .s s, .n n, .n l, .l nl es])
noncomputable abbrev xNP (z1 : Bool) (F : List PV) (z2 : Bool) (Y : List PV) (z3 : Bool) (Q : List PV) (a b c d e f : Nat) (s : ByteArray) (n l : Nat) (nl : Bool) (es : List PV) : PX × List PV × List Row := (.exit 0, tm 22 [], (shNP.put (lNP 0 0 0 0 z1 F z2 Y z3 Q a b c d e f s n l nl es)).2)
theorem qNP (m q : Nat) (len k : Int) (z1 : Bool) (F : List PV) (z2 : Bool) (Y : List PV) (z3 : Bool) (Q : List PV) (a b c d e f : Nat) (s : ByteArray) (n l : Nat) (nl : Bool) (es : List PV) :
  runBr Try.prog ENY 60 3 44 (lpb Try.f44 1) [1, 2, 8, 9, 10] [] (shNP.put (lNP m q len k z1 F z2 Y z3 Q a b c d e f s n l nl es)).1 (shNP.put (lNP m q len k z1 F z2 Y z3 Q a b c d e f s n l nl es)).2 =
  bif decide (k < len) then ixR Q m q k (ldR Q m (bif isN 4 s (rE Q k) then (bif room8 es n l then some (.normal, shNP.put (lNP m q len (W (k + 1)) z1 F z2 Y z3 Q a b c d e f s (n + 1) (n + 1) (nl && false) (es ++ [iv (idN (rE Q k))]))) else none)
    else some (.normal, shNP.put (lNP m q len (W (k + 1)) z1 F z2 Y z3 Q a b c d e f s n l nl es)))) else some (xNP z1 F z2 Y z3 Q a b c d e f s n l nl es) := by kernel_rfl
def pNP : LS → Bool
  | ([.n m, .n q, .i len, .i k], [.l _ _, .l _ _, .l _ Q, .n _, .n _, .n _, .n _, .n _, .n _, .s _, .n n, .n l, .l _ es]) => decide (n = es.length) && decide (l = es.length) && decide (m = Q.length) && decide (q = Q.length) && decide (len = (Q.length : Int)) && decide (0 ≤ k) && decide (k ≤ len) && decide (Q.length ≤ 1000000) && decide (es.length ≤ 4000000 - (len - k).toNat)
  | _ => false
noncomputable def fNP : LS → DT (PX × List PV × List Row)
  | ([.n _, .n _, .i len, .i k], [.l z1 F, .l z2 Y, .l z3 Q, .n a, .n b, .n c, .n d, .n e, .n f, .s s, .n _, .n _, .l nl es]) => .leaf (xNP z1 F z2 Y z3 Q a b c d e f s (es ++ idsN 4 s Q k (len - k).toNat).length (es ++ idsN 4 s Q k (len - k).toNat).length (nl && (idsN 4 s Q k (len - k).toNat).isEmpty) (es ++ idsN 4 s Q k (len - k).toNat))
  | _ => .no
def mNP : LS → Nat
  | ([.n _, .n _, .i len, .i k], [.l _ _, .l _ _, .l _ _, .n _, .n _, .n _, .n _, .n _, .n _, .s _, .n _, .n _, .l _ _]) => (len - k).toNat
  | _ => 0
theorem sNP : ∀ s r, pNP s = true → (fNP s).run = some r → r.1 ≠ .normal ∧ (runBr Try.prog ENY 60 3 44 (lpb Try.f44 1) [1, 2, 8, 9, 10] [] (shNP.put s).1 (shNP.put s).2 = some r ∨
      ∃ s', runBr Try.prog ENY 60 3 44 (lpb Try.f44 1) [1, 2, 8, 9, 10] [] (shNP.put s).1 (shNP.put s).2 = some (.normal, shNP.put s') ∧ pNP s' = true ∧ mNP s' < mNP s ∧ (fNP s').run = some r) := by
  intro t r hp hr
  unfold pNP at hp; split at hp
  · rename_i m q len k z1 F z2 Y z3 Q a b c d e f s n l nl es
    simp only [Bool.and_eq_true, decide_eq_true_eq] at hp
    obtain ⟨⟨⟨⟨⟨⟨⟨⟨rfl, rfl⟩, rfl⟩, rfl⟩, rfl⟩, h4⟩, h5⟩, h6⟩, h7⟩ := hp
    have hr' := (Option.some.inj hr).symm
    refine ⟨by rw [hr']; simp, ?_⟩
    rw [show shNP.put ([.n Q.length, .n Q.length, .i (Q.length : Int), .i k], [.l z1 F, .l z2 Y, .l z3 Q, .n a, .n b, .n c, .n d, .n e, .n f, .s s, .n es.length, .n es.length, .l nl es]) = shNP.put (lNP Q.length Q.length (Q.length : Int) k z1 F z2 Y z3 Q a b c d e f s es.length es.length nl es) from rfl, qNP]
    by_cases hi : k < (Q.length : Int)
    · rw [decide_eq_true hi, cond_true, ixR_of rfl h4 hi, ldR_of rfl, W_id (by omega) (by omega)]
      obtain ⟨m, hm⟩ : ∃ m, ((Q.length : Int) - k).toNat = m + 1 := ⟨((Q.length : Int) - k).toNat - 1, by omega⟩
      have hm2 : ((Q.length : Int) - (k + 1)).toNat = m := by omega
      rw [hm] at hr'
      simp only [idsN] at hr'
      cases hc : isN 4 s (rE Q k) with
      | true =>
        rw [hc] at hr'
        rw [cond_true, show room8 es es.length es.length = true by unfold room8; simp; omega, cond_true, Bool.and_false]
        refine .inr ⟨lNP Q.length Q.length (Q.length : Int) (k + 1) z1 F z2 Y z3 Q a b c d e f s (es.length + 1) (es.length + 1) false (es ++ [iv (idN (rE Q k))]), rfl, by simp [pNP]; omega, by simp only [mNP]; omega, ?_⟩
        rw [hr']
        simp only [fNP, hm2, cond_true, List.append_assoc, List.cons_append, List.nil_append, Bool.false_and, List.isEmpty_cons, Bool.and_false]
        rfl
      | false =>
        rw [hc] at hr'
        rw [cond_false]
        refine .inr ⟨lNP Q.length Q.length (Q.length : Int) (k + 1) z1 F z2 Y z3 Q a b c d e f s es.length es.length nl es, rfl, by simp [pNP]; omega, by simp only [mNP]; omega, ?_⟩
        rw [hr']
        simp only [fNP, hm2, cond_false]
        rfl
    · rw [decide_eq_false hi]
      rw [show ((Q.length : Int) - k).toNat = 0 by omega] at hr'
      exact .inl (by rw [hr']; simp [idsN])
  · cases hp
noncomputable def ENP : EnvK := ENY.addWr 3 44 1 [1, 2, 8, 9, 10] shNP pNP fNP
theorem okNP : EnvOK Try.prog ENP.env :=
  okNY.addWr (n := 60) (q := 3) Try.func44 (show Try.f44.body = some (bod Try.f44) by kernel_rfl) (show (loops (bod Try.f44)).filter (fun b => rid b == 1) = [lpb Try.f44 1] by kernel_rfl) [1, 2, 8, 9, 10] [] shNP mNP sNP
end Go.Hs
/- Strings (gazette): Named: what it comes to. -/
namespace Go.Hs
open Go.Hx Go.Proofs
def n1 (F : List PV) (s : ByteArray) (b : Nat) : List PV := idsN 2 s F 0 ((b : Int) - 0).toNat
def n2 (Y : List PV) (s : ByteArray) (b : Nat) : List PV := idsN 4 s Y 0 ((b : Int) - 0).toNat
noncomputable def sortT (a : List PV) : Option PV :=
  ldR a a.length (bif (a.length == a.length && a.length == a.length && decide (a.length < 4611686018427387904)) then
    ldR (srtI a) a.length (some (.lst false 3 (((srtI a).drop 0).take a.length))) else none)
noncomputable def namedT (z1 : Bool) (F : List PV) (z2 : Bool) (Y : List PV) (z3 : Bool) (Q : List PV) (a b c d e f : Nat) (s : ByteArray) : Option PV :=
  bif s.toList == (ByteArray.mk #[]).toList then some (.val (.slice none 0 0)) else
  ldR F a (bif pNF (lNF a b (b : Int) 0 z1 F z2 Y z3 Q a b c d e f s 0 0 true []) then
  ldR Y c (bif pNY (lNY c d (d : Int) 0 z1 F z2 Y z3 Q a b c d e f s ([] ++ n1 F s b).length ([] ++ n1 F s b).length (true && (n1 F s b).isEmpty) ([] ++ n1 F s b)) then
  ldR Q e (bif pNP (lNP e f (f : Int) 0 z1 F z2 Y z3 Q a b c d e f s ([] ++ n1 F s b ++ n2 Y s d).length ([] ++ n1 F s b ++ n2 Y s d).length (true && (n1 F s b).isEmpty && (n2 Y s d).isEmpty) ([] ++ n1 F s b ++ n2 Y s d)) then
    sortT ([] ++ n1 F s b ++ n2 Y s d ++ n2 Q s f) else none) else none) else none)
theorem qNamed (z1 : Bool) (F : List PV) (z2 : Bool) (Y : List PV) (z3 : Bool) (Q : List PV) (a b c d e f : Nat) (s : ByteArray) :
  runSE Try.prog ENP 60 23 [.agg [.val (.slice none 0 0), .sl 0 a 0 b, .sl 1 c 0 d, .sl 2 e 0 f], sv s] [rN 38 5 z1 F, rN 41 8 z2 Y, rN 36 7 z3 Q] = namedT z1 F z2 Y z3 Q a b c d e f s := by kernel_rfl
/-- The Ids of the things with a name, in order. -/
def namL (F Y Q : List PV) (s : ByteArray) : List PV := srtI (n1 F s F.length ++ n2 Y s Y.length ++ n2 Q s Q.length)
def namP (F Y Q : List PV) (s : ByteArray) : PV := .lst false 3 (bif s.toList == (ByteArray.mk #[]).toList then [] else namL F Y Q s)
def okN (F Y Q : List PV) (a b c d e f : Nat) : Bool := decide (a = F.length ∧ b = F.length ∧ c = Y.length ∧ d = Y.length ∧ e = Q.length ∧ f = Q.length ∧ F.length ≤ 1000000 ∧ Y.length ≤ 1000000 ∧ Q.length ≤ 1000000)
theorem namedT_eq {z1 : Bool} {F : List PV} {z2 : Bool} {Y : List PV} {z3 : Bool} {Q : List PV} {a b c d e f : Nat} {s : ByteArray} (h : okN F Y Q a b c d e f = true) :
    namedT z1 F z2 Y z3 Q a b c d e f s = some (bif s.toList == (ByteArray.mk #[]).toList then .val (.slice none 0 0) else .lst false 3 (namL F Y Q s)) := by
  simp only [okN, decide_eq_true_eq] at h
  obtain ⟨rfl, rfl, rfl, rfl, rfl, rfl, h1, h2, h3⟩ := h
  unfold namedT
  cases s.toList == (ByteArray.mk #[]).toList with
  | true => rfl
  | false =>
    simp only [cond_false]
    have g1 : (n1 F s F.length).length ≤ 1000000 := by have := idsN_len 2 s F ((F.length : Int) - 0).toNat 0; unfold n1; omega
    have g2 : (n2 Y s Y.length).length ≤ 1000000 := by have := idsN_len 4 s Y ((Y.length : Int) - 0).toNat 0; unfold n2; omega
    have g3 : (n2 Q s Q.length).length ≤ 1000000 := by have := idsN_len 4 s Q ((Q.length : Int) - 0).toNat 0; unfold n2; omega
    have k1 : pNF (lNF F.length F.length (F.length : Int) 0 z1 F z2 Y z3 Q F.length F.length Y.length Y.length Q.length Q.length s 0 0 true []) = true := by simp [pNF]; omega
    have k2 : pNY (lNY Y.length Y.length (Y.length : Int) 0 z1 F z2 Y z3 Q F.length F.length Y.length Y.length Q.length Q.length s ([] ++ n1 F s F.length).length ([] ++ n1 F s F.length).length (true && (n1 F s F.length).isEmpty) ([] ++ n1 F s F.length)) = true := by simp [pNY]; omega
    have k3 : pNP (lNP Q.length Q.length (Q.length : Int) 0 z1 F z2 Y z3 Q F.length F.length Y.length Y.length Q.length Q.length s ([] ++ n1 F s F.length ++ n2 Y s Y.length).length ([] ++ n1 F s F.length ++ n2 Y s Y.length).length (true && (n1 F s F.length).isEmpty && (n2 Y s Y.length).isEmpty) ([] ++ n1 F s F.length ++ n2 Y s Y.length)) = true := by simp [pNP]; omega
    rw [ldR_of rfl, k1, cond_true, ldR_of rfl, k2, cond_true, ldR_of rfl, k3, cond_true]
    simp only [List.nil_append]
    unfold sortT namL
    rw [ldR_of rfl, beq_self_eq_true, decide_eq_true (show (n1 F s F.length ++ n2 Y s Y.length ++ n2 Q s Q.length).length < 4611686018427387904 by simp; omega), Bool.and_self, Bool.and_self, cond_true, ldR_of (srtI_length _), List.drop_zero, List.take_of_length_le (by rw [srtI_length]; exact Nat.le_refl _)]
theorem rcall_nil {P : Program} {ro : Nat} {k : FuncId} {args : List PV} {H H' : List Row} (t : TypeId) (h : RCall P ro k args H (.val (.slice none 0 0)) H') : RCall P ro k args H (.lst false t []) H' := by
  intro C hH hro hR Vs hv
  refine (h C hH hro hR Vs hv).mono ?_
  rintro e w' ⟨V, C', rfl, rfl, hc⟩
  refine ⟨V, C', rfl, rfl, hc.H, hc.ext, hc.rh, ?_⟩
  have h1 := hc.rv
  cases h1
  exact .lst 0 0 (fun _ _ => undef) (Nat.le_refl _) (fun h => by cases h) (fun h => by simp at h) (fun x e j p h1 _ => by simp at h1) (fun x e j p h1 _ => by simp at h1) (fun e h1 => by cases h1)
def cNam : List PV → List Row → Option (DT PV)
  | [.agg [.val (.slice none 0 0), .sl 0 a 0 b, .sl 1 c 0 d, .sl 2 e 0 f], .val (.string s)], [⟨F, 5, 38, true, true, _, none⟩, ⟨Y, 8, 41, true, true, _, none⟩, ⟨Q, 7, 36, true, true, _, none⟩] => some (.br (okN F Y Q a b c d e f) (.leaf (namP F Y Q s)) .no)
  | _, _ => none
theorem eNam : Hx.Enters Try.prog 23 := (runSE_sound okNP ((qNamed false [] false [] false [] 0 0 0 0 0 0 .empty).trans (namedT_eq rfl))).1
theorem oNam (args : List PV) (H : List Row) (d : DT PV) (r : PV) (h : cNam args H = some d) (hd : d.run = some r) : RCall Try.prog H.length 23 args H r H := by
  unfold cNam at h; split at h
  · rename_i a b c d e f s F z1 Y z2 Q z3
    cases h
    obtain ⟨hc, rfl⟩ := run_br1 hd
    have h1 := (runSE_sound okNP ((qNamed z1 F z2 Y z3 Q a b c d e f s).trans (namedT_eq hc))).2
    unfold namP
    cases h0 : s.toList == (ByteArray.mk #[]).toList with
    | true => rw [h0] at h1; exact rcall_nil 3 h1
    | false => rw [h0] at h1; exact h1
  · cases h
end Go.Hs
/- Strings (gazette): the sort, as a plain function. -/
namespace Go.Hs
open Go.Hx Go.Proofs
/-- Into a list that falls: before those that are not greater. -/
def insRev (x : PV) : List PV → List PV
  | [] => [x]
  | y :: r => bif decide (cmpP x y < 0) then y :: insRev x r else x :: y :: r
def sortR (K : List PV) : List PV := (K.foldl (fun S e => insRev e S) []).reverse
theorem insRev_len (x : PV) : ∀ S : List PV, (insRev x S).length = S.length + 1
  | [] => rfl
  | y :: r => by
    rw [insRev]
    cases decide (cmpP x y < 0) with
    | true => simp [insRev_len x r]
    | false => simp
theorem insRev_mem {x z : PV} : ∀ {S : List PV}, z ∈ insRev x S ↔ z = x ∨ z ∈ S
  | [] => by simp [insRev]
  | y :: r => by
    have ih := insRev_mem (x := x) (z := z) (S := r)
    rw [insRev]
    cases decide (cmpP x y < 0) with
    | true =>
      simp only [cond_true, List.mem_cons, ih]
      constructor
      · rintro (h | h | h)
        · exact .inr (.inl h)
        · exact .inl h
        · exact .inr (.inr h)
      · rintro (h | h | h)
        · exact .inr (.inl h)
        · exact .inl h
        · exact .inr (.inr h)
    | false => simp
theorem rE_app (A : List PV) (x : PV) (B : List PV) : rE (A ++ x :: B) (A.length : Int) = x := by unfold rE; simp
theorem insL_eq (x : PV) (hx : plE x = x) : ∀ (k : Nat) (A B : List PV), A.length = k → Norm A → insL 0 (A ++ x :: B) (A.length : Int) k = (insRev x A.reverse).reverse ++ B
  | 0, A, B, h, _ => by
    obtain rfl := List.eq_nil_of_length_eq_zero h
    simp [insL, insRev]
  | k + 1, A, B, h, hN => by
    obtain ⟨A', y, rfl⟩ : ∃ A' y, A = A' ++ [y] := ⟨A.dropLast, A.getLast (by intro t; subst t; simp at h), (List.dropLast_concat_getLast _).symm⟩
    have hA' : A'.length = k := by simpa using h
    have hy : plE y = y := hN y (by simp)
    have e0 : A' ++ [y] ++ x :: B = A' ++ y :: x :: B := by simp
    have r1 : rE (A' ++ [y] ++ x :: B) (((A' ++ [y]).length : Nat) : Int) = x := rE_app _ _ _
    have r2 : rE (A' ++ [y] ++ x :: B) ((((A' ++ [y]).length : Nat) : Int) - 1) = y := by
      rw [e0, show (((A' ++ [y]).length : Nat) : Int) - 1 = ((A'.length : Nat) : Int) by simp]; exact rE_app _ _ _
    rw [insL, r1, r2, List.reverse_append, List.reverse_singleton, List.singleton_append, insRev]
    cases hc : decide (cmpP x y < 0) with
    | false => simp
    | true =>
      have sw : swE (A' ++ [y] ++ x :: B) (((A' ++ [y]).length : Nat) : Int) ((((A' ++ [y]).length : Nat) : Int) - 1) = A' ++ x :: (y :: B) := by
        unfold swE swE1
        rw [r1, r2, hx, hy, e0, show (((A' ++ [y]).length : Nat) : Int) - 1 = ((A'.length : Nat) : Int) by simp]
        simp
      simp only [cond_true]
      rw [sw, show (((A' ++ [y]).length : Nat) : Int) - 1 = ((A'.length : Nat) : Int) by simp, insL_eq x hx k A' (y :: B) hA' (fun e he => hN e (by simp [he]))]
      simp
theorem srtL_eq : ∀ (m : Nat) (S T : List PV), m ≤ T.length → Norm S → Norm (T.take m) → srtL 0 (S.reverse ++ T) (S.length : Int) m = ((T.take m).foldl (fun S e => insRev e S) S).reverse ++ T.drop m
  | 0, S, T, _, _, _ => by simp [srtL]
  | m + 1, S, T, h, hS, hT => by
    cases T with
    | nil => simp at h
    | cons t T =>
      have ht : plE t = t := hT t (by simp)
      have e := insL_eq t ht S.length S.reverse T (by simp) (fun e he => hS e (by simpa using he))
      rw [List.length_reverse, List.reverse_reverse] at e
      rw [srtL, show ((S.length : Int) - 0).toNat = S.length by omega, e, show (S.length : Int) + 1 = ((insRev t S).length : Int) by rw [insRev_len]; omega]
      rw [srtL_eq m (insRev t S) T (by simpa using h) (fun e he => by rcases insRev_mem.1 he with g | g; (· rw [g]; exact ht); exact hS e g) (fun e he => hT e (by simp [he]))]
      rfl
/-- The sort of the first k. -/
theorem sortP_eq {K : List PV} (Z : List PV) (hN : Norm K) : sortP (K ++ Z) K.length = sortR K ++ Z := by
  unfold sortP sortR
  cases K with
  | nil => rfl
  | cons e K =>
    have := srtL_eq K.length [e] (K ++ Z) (by simp) (fun x hx => hN x (by simp at hx; simp [hx])) (fun x hx => hN x (by rw [List.take_left] at hx; simp [hx]))
    rw [List.reverse_singleton, List.take_left, List.drop_left] at this
    rw [show (((e :: K).length : Nat) : Int) - 1 = ((K.length : Nat) : Int) by simp, Int.toNat_natCast]
    exact this
theorem sortR_len (K : List PV) : (sortR K).length = K.length := by
  unfold sortR
  rw [List.length_reverse]
  have : ∀ (K S : List PV), (K.foldl (fun S e => insRev e S) S).length = S.length + K.length := fun K => by
    induction K with
    | nil => intro S; rfl
    | cons e K ih => intro S; rw [List.foldl_cons, ih, insRev_len]; simp; omega
  rw [this]; simp
theorem idsL_eq (es : List PV) : ∀ (m i : Nat), i + m ≤ es.length → idsL es (i : Int) m = ((es.drop i).take m).map fun e => iv (pId e)
  | 0, i, _ => by simp [idsL]
  | m + 1, i, h => by
    obtain ⟨hl, he⟩ := rE_of (es := es) (i := (i : Int)) (by omega) (by omega)
    rw [idsL, he, show (i : Int) + 1 = ((i + 1 : Nat) : Int) by omega, idsL_eq es m (i + 1) (by omega)]
    simp only [Int.toNat_natCast] at hl ⊢
    rw [List.drop_eq_getElem_cons hl, List.take_succ_cons]; rfl
/-- P9.4. -/
def findL (es : List PV) (p : ByteArray) : List PV := (sortR (keepF es (fold p))).map fun e => iv (pId e)
noncomputable def okFd (n l : Nat) (es : List PV) (p : ByteArray) : Bool := decide (n = es.length) && decide (l = es.length) && decide (es.length ≤ 19) && bigN es && normB es && bigS p
theorem bigN_keep {es : List PV} (h : bigN es = true) (p : ByteArray) : bigN (keepF es p) = true := by
  unfold bigN at *; rw [List.all_eq_true] at *
  exact fun x hx => h x (List.mem_filter.1 hx).1
theorem findT_eq {n l : Nat} {es : List PV} {p : ByteArray} (h : okFd n l es p = true) : findT n l es p = some (.lst false 3 (findL es p)) := by
  unfold okFd at h
  simp only [Bool.and_eq_true, decide_eq_true_eq, normB_iff] at h
  obtain ⟨⟨⟨⟨⟨rfl, rfl⟩, h3⟩, h4⟩, h5⟩, h6'⟩ := h
  have h6 : bigS p = true := decide_eq_true h6'
  have hk : (keepF es (fold p)).length ≤ es.length := List.length_filter_le _ _
  have hNk : Norm (keepF es (fold p)) := fun e he => h5 e (List.mem_filter.1 he).1
  have ha : (afterD es (fold p) es.length).length = es.length := by unfold afterD; rw [List.length_append, List.length_replicate]; omega
  have hb : bigN (afterD es (fold p) es.length) = true := by
    unfold afterD bigN
    rw [List.all_append, Bool.and_eq_true]
    refine ⟨bigN_keep h4 _, List.all_eq_true.2 fun x hx => ?_⟩
    rw [List.eq_of_mem_replicate hx]; rfl
  unfold findT
  rw [h6, cond_true, ldR_of rfl, ldR_of rfl, ldR_of rfl, List.drop_zero, List.take_length, Nat.zero_add, ldR_of rfl, decide_eq_true (show es.length * 72 ≤ 140737488355328 by omega), cond_true]
  rw [show okD es.length es.length es = true by unfold okD; simp only [Bool.and_eq_true, decide_eq_true_eq, normB_iff]; exact ⟨⟨⟨⟨trivial, trivial⟩, by omega⟩, h4⟩, h5⟩, cond_true, ldR_of ha]
  rw [show okS es.length (keepF es (fold p)).length (afterD es (fold p) es.length) = true by unfold okS; simp only [Bool.and_eq_true, decide_eq_true_eq]; exact ⟨⟨⟨⟨ha.symm, by omega⟩, by omega⟩, by omega⟩, hb⟩, cond_true]
  have hs : sortP (afterD es (fold p) es.length) (keepF es (fold p)).length = sortR (keepF es (fold p)) ++ List.replicate (es.length - (keepF es (fold p)).length) (.val zPl) := sortP_eq _ hNk
  unfold tailF
  rw [hs]
  have hl := sortR_len (keepF es (fold p))
  have hlen : (sortR (keepF es (fold p)) ++ List.replicate (es.length - (keepF es (fold p)).length) (PV.val zPl)).length = es.length := by rw [List.length_append, List.length_replicate, hl]; omega
  rw [show pId2 (lId 0 0 es.length (keepF es (fold p)).length ((keepF es (fold p)).length : Int) 0 false es (fold p) false (sortR (keepF es (fold p)) ++ List.replicate (es.length - (keepF es (fold p)).length) (.val zPl)) true []) = true by
    simp only [pId2, Bool.and_eq_true, decide_eq_true_eq, hlen, List.length_nil]; exact ⟨⟨⟨⟨⟨⟨⟨⟨trivial, trivial⟩, trivial⟩, by omega⟩, trivial⟩, by omega⟩, by omega⟩, by omega⟩, by omega⟩]
  have hi := idsL_eq (sortR (keepF es (fold p)) ++ List.replicate (es.length - (keepF es (fold p)).length) (PV.val zPl)) (keepF es (fold p)).length 0 (by rw [hlen]; omega)
  rw [show ((0 : Nat) : Int) = 0 from rfl, List.drop_zero, List.take_left' hl] at hi
  rw [show (((keepF es (fold p)).length : Int) - 0).toNat = (keepF es (fold p)).length by omega, List.nil_append, hi, Nat.zero_add, cond_true, ldR_of (by rw [List.length_map, hl]), List.drop_zero, List.take_of_length_le (by rw [List.length_map, hl]; exact Nat.le_refl _)]
  rfl
end Go.Hs
/- Strings (gazette): contracts: Find, Same, places. -/
namespace Go.Hs
open Go.Hx Go.Proofs
theorem qFind0 (p : ByteArray) : runSE Try.prog E27 60 21 [.sl 0 0 0 0, sv p] [rN 36 7 true []] = bif bigS p then some (.lst false 3 []) else none := by kernel_rfl
noncomputable def cFind : List PV → List Row → Option (DT PV)
  | [.sl 0 n 0 l, .val (.string p)], [⟨es, 7, 36, true, true, false, none⟩] => some (.br (okFd n l es p) (.leaf (.lst false 3 (findL es p))) .no)
  | [.sl 0 0 0 0, .val (.string p)], [⟨[], 7, 36, true, true, true, none⟩] => some (.br (bigS p) (.leaf (.lst false 3 [])) .no)
  | _, _ => none
theorem eFind : Hx.Enters Try.prog 21 := (runSE_sound ok27 ((qFind0 .empty).trans rfl)).1
theorem oFind (args : List PV) (H : List Row) (d : DT PV) (q : PV) (h : cFind args H = some d) (hd : d.run = some q) : RCall Try.prog H.length 21 args H q H := by
  unfold cFind at h; split at h
  · rename_i n l p es
    cases h
    obtain ⟨hc, rfl⟩ := run_br1 hd
    exact (runSE_sound ok27 ((qFind n l es p).trans (findT_eq hc))).2
  · rename_i p
    cases h
    obtain ⟨hc, rfl⟩ := run_br1 hd
    exact (runSE_sound ok27 ((qFind0 p).trans (by rw [hc]; rfl))).2
  · cases h
noncomputable def E28 : EnvK := E27.addRE 21 cFind
theorem ok28 : EnvOK Try.prog E28.env := ok27.addRE eFind oFind
/-! Same. -/
def shS : S1 := ⟨26, [(0, .lst 3), (1, .lst 3), (5, I64)], []⟩
theorem qSm (f g : Bool) (a b : List PV) (i : Int) : runB Try.prog E28 60 20 (lpb Try.f20 4) [0, 1, 5] [4] (shS.put ([.l f a, .l g b, .i i], [])).1 (shS.put ([.l f a, .l g b, .i i], [])).2 =
  bif decide (i < (a.length : Int)) then bif inr a i then bif inr b i then bif eB a i != eB b i then some (.ret, tm 26 [(4, bv false)], []) else some (.normal, shS.put ([.l f a, .l g b, .i (W (i + 1))], [])) else none else none else some (.exit 0, tm 26 [], []) := by kernel_rfl
def allE (a b : List PV) (i : Int) : Nat → Bool
  | 0 => true
  | m + 1 => !(eB a i != eB b i) && allE a b (i + 1) m
def pSm : LS → Bool
  | ([.l _ a, .l _ b, .i i], []) => decide (a.length = b.length) && decide (0 ≤ i) && decide (i ≤ (a.length : Int)) && big a
  | _ => false
def fSm : LS → DT (PX × List PV × List Row)
  | ([.l _ a, .l _ b, .i i], []) => .br (allE a b i ((a.length : Int) - i).toNat) (.leaf (.exit 0, tm 26 [], [])) (.leaf (.ret, tm 26 [(4, bv false)], []))
  | _ => .no
def mSm : LS → Nat
  | ([.l _ a, .l _ _, .i i], []) => ((a.length : Int) - i).toNat
  | _ => 0
theorem sSm : ∀ s r, pSm s = true → (fSm s).run = some r → r.1 ≠ .normal ∧ (runB Try.prog E28 60 20 (lpb Try.f20 4) [0, 1, 5] [4] (shS.put s).1 (shS.put s).2 = some r ∨
      ∃ s', runB Try.prog E28 60 20 (lpb Try.f20 4) [0, 1, 5] [4] (shS.put s).1 (shS.put s).2 = some (.normal, shS.put s') ∧ pSm s' = true ∧ mSm s' < mSm s ∧ (fSm s').run = some r) := by
  intro t r hp hr
  unfold pSm at hp; split at hp
  · rename_i f a g b i
    simp only [Bool.and_eq_true, decide_eq_true_eq] at hp
    obtain ⟨⟨⟨h1, h2⟩, h3⟩, h4⟩ := hp
    have hr' := run_br2 hr
    refine ⟨by rw [hr']; cases allE a b i ((a.length : Int) - i).toNat <;> simp, ?_⟩
    rw [qSm]
    by_cases hi : i < (a.length : Int)
    · rw [decide_eq_true hi, cond_true, inr_of h2 hi, inr_of h2 (by omega), W_id (by omega) (by omega)]
      obtain ⟨m, hm⟩ : ∃ m, ((a.length : Int) - i).toNat = m + 1 := ⟨((a.length : Int) - i).toNat - 1, by omega⟩
      have hm2 : ((a.length : Int) - (i + 1)).toNat = m := by omega
      rw [hm] at hr'
      simp only [allE] at hr'
      cases hc : eB a i != eB b i with
      | true => rw [hc] at hr'; exact .inl (by rw [hr']; rfl)
      | false =>
        rw [hc] at hr'
        refine .inr ⟨([.l f a, .l g b, .i (i + 1)], []), rfl, by simp [pSm]; omega, by simp only [mSm]; omega, ?_⟩
        rw [hr']
        simp only [fSm, hm2, Bool.not_false, Bool.true_and]
        cases allE a b (i + 1) m <;> rfl
    · rw [decide_eq_false hi]
      rw [show ((a.length : Int) - i).toNat = 0 by omega] at hr'
      exact .inl (by rw [hr']; rfl)
  · cases hp
noncomputable def E29 : EnvK := E28.addW 20 4 [0, 1, 5] [] shS pSm fSm
theorem ok29 : EnvOK Try.prog E29.env :=
  ok28.addW (n := 60) Try.func20 (show Try.f20.body = some (bod Try.f20) by kernel_rfl) (show (loops (bod Try.f20)).filter (fun b => rid b == 4) = [lpb Try.f20 4] by kernel_rfl) [0, 1, 5] [4] [] shS mSm sSm
def smT (f g : Bool) (a b : List PV) : Option PV := bif (a.length : Int) != (b.length : Int) then some (bv false) else bif pSm ([.l f a, .l g b, .i 0], []) then bif allE a b 0 ((a.length : Int) - 0).toNat then some (bv true) else some (bv false) else none
theorem qSame (f g : Bool) (a b : List PV) : runP Try.prog E29 40 20 [.lst f 3 a, .lst g 3 b] = smT f g a b := by kernel_rfl
def sameI (a b : List PV) : Bool := decide (a.length = b.length) && allE a b 0 a.length
theorem smT_eq (f g : Bool) (a b : List PV) (h : big a = true) : smT f g a b = some (bv (sameI a b)) := by
  unfold smT sameI
  by_cases hl : a.length = b.length
  · rw [show ((a.length : Int) != (b.length : Int)) = false by rw [hl]; simp, cond_false, show pSm ([.l f a, .l g b, .i 0], []) = true by simp only [pSm, Bool.and_eq_true, decide_eq_true_eq]; exact ⟨⟨⟨hl, by omega⟩, by omega⟩, of_decide_eq_true h⟩, show ((a.length : Int) - 0).toNat = a.length by omega, decide_eq_true hl]
    cases allE a b 0 a.length <;> rfl
  · rw [show ((a.length : Int) != (b.length : Int)) = true by simp; omega, decide_eq_false hl]; rfl
theorem allE_self (a : List PV) : ∀ (m : Nat) (i : Int), allE a a i m = true
  | 0, _ => rfl
  | m + 1, i => by rw [allE, allE_self a m]; simp
theorem sameI_self (a : List PV) : sameI a a = true := by unfold sameI; rw [allE_self]; simp
def cSame : List PV → Option (DT PV) | [.lst _ 3 a, .lst _ 3 b] => some (.br (big a) (.leaf (bv (sameI a b))) .no) | _ => none
theorem eSame : Hx.Enters Try.prog 20 := (runP_sound ok29 ((qSame true true [] []).trans (smT_eq _ _ _ _ rfl))).1
theorem oSame (args : List PV) (d : DT PV) (r : PV) (h : cSame args = some d) (hr : d.run = some r) : PCall Try.prog 20 args r := by
  unfold cSame at h; split at h
  · rename_i f a g b; cases h; obtain ⟨h1, rfl⟩ := run_br1 hr; exact (runP_sound ok29 ((qSame f g a b).trans (smT_eq _ _ _ _ h1))).2
  · cases h
noncomputable def E30 : EnvK := ((E29.addF 20 cSame).addK 19).addN 19 3 [(3, 36, 7)]
theorem ok30 : EnvOK Try.prog E30.env := ((ok29.addF eSame oSame).addK 19).addN 19 3 [(3, 36, 7)]
/-! places. -/
def shP : S1 := ⟨29, [(0, .lst 36), (3, .sl 0), (4, I64)], [.many 36 7]⟩
abbrev lP (f : Bool) (L : List PV) (n l : Nat) (k : Int) (nl : Bool) (es : List PV) : LS := ([.l f L, .n n, .n l, .i k], [.l nl es])
noncomputable abbrev xP (n l : Nat) (nl : Bool) (es : List PV) : PX × List PV × List Row := (.exit 0, tm 29 [(3, .sl 0 n 0 l)], (shP.put (lP true [] 0 0 0 nl es)).2)
def room72 (es : List PV) (n l : Nat) : Bool := decide (es.length = n) && decide (n = l) && decide ((n + 1) * 72 ≤ 140737488355328)
/-- A place with a short name. -/
def plC (e : PV) : PV := pl (e.cellAt 0).getI (e.cellAt 1).getI (e.cellAt 2).getI (e.cellAt 3).getS (cutS (e.cellAt 4).getS) (e.cellAt 5).getI (e.cellAt 6).getI
theorem qP (f : Bool) (L : List PV) (n l : Nat) (k : Int) (nl : Bool) (es : List PV) : runB Try.prog E30 60 19 (lpb Try.f19 3) [0, 3, 4] [3] (shP.put (lP f L n l k nl es)).1 (shP.put (lP f L n l k nl es)).2 =
  bif decide (k < (L.length : Int)) then bif decide (k < 10) then bif inr L k then bif room72 es n l then some (.normal, shP.put (lP f L (n + 1) (n + 1) (W (k + 1)) (nl && false) (es ++ [plC (L.getD k.toNat .any)]))) else none else none
    else some (xP n l nl es) else some (xP n l nl es) := by kernel_rfl
end Go.Hs
/- Strings (gazette): GazettePrefix: places' loop; the law's rounds. -/
namespace Go.Hs
open Go.Hx Go.Proofs
def mn10 (L : List PV) : Nat := min L.length 10
def plsL (L : List PV) (k : Nat) : Nat → List PV
  | 0 => []
  | m + 1 => plC (L.getD k .any) :: plsL L (k + 1) m
theorem plsL_len (L : List PV) : ∀ (m k : Nat), (plsL L k m).length = m
  | 0, _ => rfl
  | m + 1, k => by simp [plsL, plsL_len L m (k + 1)]
def pP : LS → Bool
  | ([.l _ L, .n n, .n l, .i k], [.l nl es]) => decide (n = es.length) && decide (l = es.length) && decide (0 ≤ k) && decide (k ≤ (mn10 L : Int)) && decide ((es.length : Int) ≤ k) && (nl == decide (es.length = 0))
  | _ => false
noncomputable def outP (r : List PV) : DT (PX × List PV × List Row) := .br (r.length == 0) (.leaf (xP 0 0 true [])) (.leaf (xP r.length r.length false r))
noncomputable def fP : LS → DT (PX × List PV × List Row)
  | ([.l _ L, .n _, .n _, .i k], [.l _ es]) => outP (es ++ plsL L k.toNat (mn10 L - k.toNat))
  | _ => .no
def mP : LS → Nat
  | ([.l _ L, .n _, .n _, .i k], [.l _ _]) => mn10 L - k.toNat
  | _ => 0
theorem sP : ∀ s r, pP s = true → (fP s).run = some r → r.1 ≠ .normal ∧ (runB Try.prog E30 60 19 (lpb Try.f19 3) [0, 3, 4] [3] (shP.put s).1 (shP.put s).2 = some r ∨
      ∃ s', runB Try.prog E30 60 19 (lpb Try.f19 3) [0, 3, 4] [3] (shP.put s).1 (shP.put s).2 = some (.normal, shP.put s') ∧ pP s' = true ∧ mP s' < mP s ∧ (fP s').run = some r) := by
  intro t r hp hr
  unfold pP at hp; split at hp
  · rename_i f L n l k nl es
    simp only [Bool.and_eq_true, decide_eq_true_eq, beq_iff_eq] at hp
    obtain ⟨⟨⟨⟨⟨rfl, rfl⟩, h3⟩, h4⟩, h5⟩, h6⟩ := hp
    have hr' : (outP (es ++ plsL L k.toNat (mn10 L - k.toNat))).run = some r := hr
    have hm10 : mn10 L ≤ 10 ∧ mn10 L ≤ L.length := by unfold mn10; omega
    refine ⟨by have h0 := run_br2 hr'; rw [h0]; cases ((es ++ plsL L k.toNat (mn10 L - k.toNat)).length == 0) <;> simp, ?_⟩
    rw [show shP.put ([.l f L, .n es.length, .n es.length, .i k], [.l nl es]) = shP.put (lP f L es.length es.length k nl es) from rfl, qP]
    by_cases hk : k < (mn10 L : Int)
    · rw [decide_eq_true (show k < (L.length : Int) by omega), decide_eq_true (show k < 10 by omega), cond_true, inr_of h3 (by omega), show room72 es es.length es.length = true by unfold room72; simp; omega, W_id (by omega) (by omega), Bool.and_false]
      obtain ⟨m, hm⟩ : ∃ m, mn10 L - k.toNat = m + 1 := ⟨mn10 L - k.toNat - 1, by omega⟩
      have hm2 : mn10 L - (k + 1).toNat = m := by omega
      rw [hm] at hr'
      simp only [plsL] at hr'
      refine .inr ⟨lP f L (es.length + 1) (es.length + 1) (k + 1) false (es ++ [plC (L.getD k.toNat .any)]), rfl, by simp [pP]; omega, by simp only [mP]; omega, ?_⟩
      rw [← hr']
      show (outP (es ++ [plC (L.getD k.toNat .any)] ++ plsL L (k + 1).toNat (mn10 L - (k + 1).toNat))).run = _
      rw [hm2, List.append_assoc, show (k + 1).toNat = k.toNat + 1 by omega]; rfl
    · rw [show mn10 L - k.toNat = 0 by omega] at hr'
      simp only [plsL, List.append_nil] at hr'
      refine .inl ?_
      have e : (bif decide (k < (L.length : Int)) then bif decide (k < 10) then bif inr L k then bif room72 es es.length es.length then some (.normal, shP.put (lP f L (es.length + 1) (es.length + 1) (W (k + 1)) (nl && false) (es ++ [plC (L.getD k.toNat .any)]))) else none else none
    else some (xP es.length es.length nl es) else some (xP es.length es.length nl es)) = some (xP es.length es.length nl es) := by
        by_cases h1 : k < (L.length : Int)
        · rw [decide_eq_true h1, decide_eq_false (show ¬ k < 10 by unfold mn10 at hk; omega)]; rfl
        · rw [decide_eq_false h1]; rfl
      rw [e, ← hr', h6]
      cases es with
      | nil => rfl
      | cons x es => rfl
  · cases hp
noncomputable def E31 : EnvK := E30.addW 19 3 [0, 3, 4] [] shP pP fP
theorem ok31 : EnvOK Try.prog E31.env :=
  ok30.addW (n := 60) Try.func19 (show Try.f19.body = some (bod Try.f19) by kernel_rfl) (show (loops (bod Try.f19)).filter (fun b => rid b == 3) = [lpb Try.f19 3] by kernel_rfl) [0, 3, 4] [3] [] shP mP sP
/-! The law's loops. -/
def shG1 : S1 := ⟨114, [(0, .sl 0), (7, .bool), (8, .str), (10, .lst 3), (12, I64), (59, .lst 3), (60, I64), (61, I64)], [.many 36 7]⟩
abbrev lG1 (n l : Nat) (ok : Bool) (s : ByteArray) (few : List PV) (k : Int) (f2 : Bool) (many : List PV) (len i : Int) (es : List PV) : LS := ([.n n, .n l, .b ok, .s s, .l false few, .i k, .l f2 many, .i len, .i i], [.l false es])
noncomputable abbrev xG1 (n l : Nat) (ok : Bool) (s : ByteArray) (few : List PV) (k : Int) (es : List PV) : PX × List PV × List Row := (.exit 0, tm 114 [(0, .sl 0 n 0 l), (7, bv ok), (8, sv s), (10, .lst false 3 few), (12, iv k)], (shP.put (lP true [] 0 0 0 false es)).2)
theorem qG1 (n l : Nat) (ok : Bool) (s : ByteArray) (few : List PV) (k : Int) (f2 : Bool) (many : List PV) (len i : Int) (es : List PV) : runB Try.prog E31 60 6 (lpb Try.f6 11) [0, 7, 8, 10, 12, 59, 60, 61] [0, 7, 8, 10, 12] (shG1.put (lG1 n l ok s few k f2 many len i es)).1 (shG1.put (lG1 n l ok s few k f2 many len i es)).2 =
  bif decide (i < len) then bif inr many i then bif decide (k < (few.length : Int)) then bif inr few k then bif eB few k == eB many i then some (.normal, shG1.put (lG1 n l ok s few (W (k + 1)) f2 many len (W (i + 1)) es))
    else some (.normal, shG1.put (lG1 n l ok s few k f2 many len (W (i + 1)) es)) else none else some (.normal, shG1.put (lG1 n l ok s few k f2 many len (W (i + 1)) es)) else none
  else some (xG1 n l ok s few k es) := by kernel_rfl
def gr (few : List PV) (k : Int) (many : List PV) (i : Int) : Nat → Int
  | 0 => k
  | m + 1 => gr few (bif decide (k < (few.length : Int)) && (eB few k == eB many i) then k + 1 else k) many (i + 1) m
def pG1 : LS → Bool
  | ([.n _, .n _, .b _, .s _, .l false few, .i k, .l _ many, .i len, .i i], [.l false _]) => decide (len = (many.length : Int)) && decide (0 ≤ i) && decide (i ≤ len) && decide (many.length ≤ 1000) && decide (0 ≤ k) && decide (few.length ≤ 1000)
  | _ => false
noncomputable def fG1 : LS → DT (PX × List PV × List Row)
  | ([.n n, .n l, .b ok, .s s, .l false few, .i k, .l _ many, .i len, .i i], [.l false es]) => .leaf (xG1 n l ok s few (gr few k many i (len - i).toNat) es)
  | _ => .no
def mG1 : LS → Nat
  | ([.n _, .n _, .b _, .s _, .l false _, .i _, .l _ _, .i len, .i i], [.l false _]) => (len - i).toNat
  | _ => 0
theorem sG1 : ∀ s r, pG1 s = true → (fG1 s).run = some r → r.1 ≠ .normal ∧ (runB Try.prog E31 60 6 (lpb Try.f6 11) [0, 7, 8, 10, 12, 59, 60, 61] [0, 7, 8, 10, 12] (shG1.put s).1 (shG1.put s).2 = some r ∨
      ∃ s', runB Try.prog E31 60 6 (lpb Try.f6 11) [0, 7, 8, 10, 12, 59, 60, 61] [0, 7, 8, 10, 12] (shG1.put s).1 (shG1.put s).2 = some (.normal, shG1.put s') ∧ pG1 s' = true ∧ mG1 s' < mG1 s ∧ (fG1 s').run = some r) := by
  intro t r hp hr
  unfold pG1 at hp; split at hp
  · rename_i n l ok s few k f2 many len i es
    simp only [Bool.and_eq_true, decide_eq_true_eq] at hp
    obtain ⟨⟨⟨⟨⟨rfl, h2⟩, h3⟩, h4⟩, h5⟩, h6⟩ := hp
    have hr' := (Option.some.inj hr).symm
    refine ⟨by rw [hr']; simp, ?_⟩
    rw [show shG1.put ([.n n, .n l, .b ok, .s s, .l false few, .i k, .l f2 many, .i (many.length : Int), .i i], [.l false es]) = shG1.put (lG1 n l ok s few k f2 many (many.length : Int) i es) from rfl, qG1]
    by_cases hi : i < (many.length : Int)
    · rw [decide_eq_true hi, cond_true, inr_of h2 hi, cond_true, W_id (n := i + 1) (by omega) (by omega)]
      obtain ⟨m, hm⟩ : ∃ m, ((many.length : Int) - i).toNat = m + 1 := ⟨((many.length : Int) - i).toNat - 1, by omega⟩
      have hm2 : ((many.length : Int) - (i + 1)).toNat = m := by omega
      rw [hm] at hr'
      simp only [gr] at hr'
      by_cases hk : k < (few.length : Int)
      · rw [decide_eq_true hk, inr_of h5 hk, cond_true, cond_true, W_id (n := k + 1) (by omega) (by omega)]
        rw [decide_eq_true hk, Bool.true_and] at hr'
        cases he : eB few k == eB many i with
        | true =>
          rw [he] at hr'
          refine .inr ⟨lG1 n l ok s few (k + 1) f2 many (many.length : Int) (i + 1) es, rfl, by simp [pG1]; omega, by simp only [mG1]; omega, ?_⟩
          rw [hr']; simp only [fG1, hm2]; rfl
        | false =>
          rw [he] at hr'
          refine .inr ⟨lG1 n l ok s few k f2 many (many.length : Int) (i + 1) es, rfl, by simp [pG1]; omega, by simp only [mG1]; omega, ?_⟩
          rw [hr']; simp only [fG1, hm2]; rfl
      · rw [decide_eq_false hk]
        rw [decide_eq_false hk] at hr'
        refine .inr ⟨lG1 n l ok s few k f2 many (many.length : Int) (i + 1) es, rfl, by simp [pG1]; omega, by simp only [mG1]; omega, ?_⟩
        rw [hr']; simp only [fG1, hm2]; rfl
    · rw [decide_eq_false hi]
      rw [show ((many.length : Int) - i).toNat = 0 by omega] at hr'
      exact .inl (by rw [hr']; rfl)
  · cases hp
noncomputable def E32 : EnvK := E31.addW 6 11 [0, 7, 8, 10, 12, 59, 60, 61] [] shG1 pG1 fG1
theorem ok32 : EnvOK Try.prog E32.env :=
  ok31.addW (n := 60) Try.func6 (show Try.f6.body = some (bod Try.f6) by kernel_rfl) (show (loops (bod Try.f6)).filter (fun b => rid b == 11) = [lpb Try.f6 11] by kernel_rfl) [0, 7, 8, 10, 12, 59, 60, 61] [0, 7, 8, 10, 12] [] shG1 mG1 sG1
def shN1 : S1 := ⟨114, [(0, .sl 0), (7, .bool), (8, .str), (10, .lst 3), (12, I64), (15, I64), (80, .sl 0), (81, I64), (82, I64)], [.many 36 7]⟩
abbrev lN1 (n l : Nat) (ok : Bool) (s : ByteArray) (few : List PV) (k c : Int) (n2 l2 : Nat) (len i : Int) (es : List PV) : LS := ([.n n, .n l, .b ok, .s s, .l false few, .i k, .i c, .n n2, .n l2, .i len, .i i], [.l false es])
noncomputable abbrev xN1 (n l : Nat) (ok : Bool) (s : ByteArray) (few : List PV) (k c : Int) (es : List PV) : PX × List PV × List Row := (.exit 2, tm 114 [(0, .sl 0 n 0 l), (7, bv ok), (8, sv s), (10, .lst false 3 few), (12, iv k), (15, iv c)], (shP.put (lP true [] 0 0 0 false es)).2)
theorem qN1 (n l : Nat) (ok : Bool) (s : ByteArray) (few : List PV) (k c : Int) (n2 l2 : Nat) (len i : Int) (es : List PV) : runB Try.prog E32 60 6 (lpb Try.f6 18) [0, 7, 8, 10, 12, 15, 80, 81, 82] [0, 7, 8, 10, 12, 15] (shN1.put (lN1 n l ok s few k c n2 l2 len i es)).1 (shN1.put (lN1 n l ok s few k c n2 l2 len i es)).2 =
  bif decide (i < len) then ixR es n2 l2 i (ldR es n2 (bif !((pNm (rE es i)).toList == nilS.toList) then some (.normal, shN1.put (lN1 n l ok s few k (W (c + 1)) n2 l2 len (W (i + 1)) es)) else some (.normal, shN1.put (lN1 n l ok s few k c n2 l2 len (W (i + 1)) es))))
  else some (xN1 n l ok s few k c es) := by kernel_rfl
end Go.Hs
/- Strings (gazette): GazetteNamed: the base of its loops. -/
namespace Go.Hs
open Go.Hx Go.Proofs
noncomputable def EL0 : EnvK := (E31.addRE 23 cNam).addN 8 6 [(1101, 38, 5), (1102, 41, 8), (1103, 36, 7)]
theorem okL0 : EnvOK Try.prog EL0.env := (ok31.addRE eNam oNam).addN 8 6 [(1101, 38, 5), (1102, 41, 8), (1103, 36, 7)]
/-- What stands at the law's loops: places, the map, names, faces, ways, places. -/
abbrev rowsL : List Y1 := [.many 36 7, .onef 32 4 (.agg [.nil, .sl 3, .sl 4, .sl 5]), .many 9 1, .many 38 5, .many 41 8, .many 36 7]
def shL6 : S1 := ⟨101, [(0, .sl 0), (5, .bool), (6, .ptr 1 1 0 0), (7, .sl 2), (21, .sl 0), (22, I64), (23, I64)], rowsL⟩
end Go.Hs
/- Strings (gazette): the reference's Find: which place is before which, the inner loop. -/
namespace Go.Hs
open Go.Hx Go.Proofs
def bfB (w1 : Int) (n1 : ByteArray) (i1 w2 : Int) (n2 : ByteArray) (i2 : Int) : Bool := bif w1 != w2 then decide (w1 > w2) else bif !(n1.toList == n2.toList) then lt n1 n2 else decide (i1 < i2)
def bfP (a b : PV) : Bool := bfB (pWt a) (pNm a) (pId a) (pWt b) (pNm b) (pId b)
theorem qBf (i1 x1 y1 : Int) (c1 n1 : ByteArray) (w1 d1 i2 x2 y2 : Int) (c2 n2 : ByteArray) (w2 d2 : Int) : runP Try.prog EL0 40 38 [pl i1 x1 y1 c1 n1 w1 d1, pl i2 x2 y2 c2 n2 w2 d2] =
  bif w1 != w2 then some (bv (decide (w1 > w2))) else bif !(n1.toList == n2.toList) then bif bigS n1 && bigS n2 then some (bv (lt n1 n2)) else none else some (bv (decide (i1 < i2))) := by kernel_rfl
def cBf : List PV → Option (DT PV)
  | [.agg [.val (.int .i64 i1), .val (.int .i64 _), .val (.int .i64 _), .val (.string _), .val (.string n1), .val (.int .i64 w1), .val (.int .i64 _)], .agg [.val (.int .i64 i2), .val (.int .i64 _), .val (.int .i64 _), .val (.string _), .val (.string n2), .val (.int .i64 w2), .val (.int .i64 _)]] =>
    some (.br (bigS n1 && bigS n2) (.leaf (bv (bfB w1 n1 i1 w2 n2 i2))) .no)
  | _ => none
theorem qBf' (i1 x1 y1 : Int) (c1 n1 : ByteArray) (w1 d1 i2 x2 y2 : Int) (c2 n2 : ByteArray) (w2 d2 : Int) (h : (bigS n1 && bigS n2) = true) :
    runP Try.prog EL0 40 38 [pl i1 x1 y1 c1 n1 w1 d1, pl i2 x2 y2 c2 n2 w2 d2] = some (bv (bfB w1 n1 i1 w2 n2 i2)) := by
  rw [qBf, h]
  unfold bfB
  cases w1 != w2 with
  | true => rfl
  | false => cases !(n1.toList == n2.toList) <;> rfl
theorem oBf (args : List PV) (d : DT PV) (r : PV) (h : cBf args = some d) (hr : d.run = some r) : PCall Try.prog 38 args r := by
  unfold cBf at h; split at h
  · cases h; obtain ⟨h1, rfl⟩ := run_br1 hr; exact (runP_sound okL0 (qBf' _ _ _ _ _ _ _ _ _ _ _ _ _ _ h1)).2
  · cases h
theorem eBf : Hx.Enters Try.prog 38 := (runP_sound okL0 (qBf' 0 0 0 .empty .empty 0 0 0 0 0 .empty .empty 0 0 rfl)).1
noncomputable def EF0 : EnvK := ((((EL0.addF 38 cBf).addN 22 4 [(5, 36, 0)]).addN 22 15 [(11, 3, 1)]).addN 24 5 [(5, 3, 0)])
theorem okF0 : EnvOK Try.prog EF0.env := ((((okL0.addF eBf oBf).addN 22 4 [(5, 36, 0)]).addN 22 15 [(11, 3, 1)]).addN 24 5 [(5, 3, 0)])
/-! The inner loop. -/
def shFi : S1 := ⟨87, [(0, .sl 0), (5, .lst 36), (6, .str), (7, I64), (8, .ptr 1 1 0 0), (10, I64)], [.many 36 7, .many 36 7]⟩
abbrev lFi (n m : Nat) (g : Bool) (l : List PV) (p : ByteArray) (k a : Int) (z : Bool) (es : List PV) (nl : Bool) (ws : List PV) : LS := ([.n n, .n m, .l g l, .s p, .i k, .i a], [.l z es, .l nl ws])
noncomputable abbrev xFi (n m : Nat) (g : Bool) (l : List PV) (p : ByteArray) (k a : Int) (z : Bool) (es : List PV) (nl : Bool) (ws : List PV) : PX × List PV × List Row := (.exit 2, shFi.put (lFi n m g l p k a z es nl ws))
abbrev gE (L : List PV) (i : Int) : PV := L.getD i.toNat .any
theorem qFi (n m : Nat) (g : Bool) (l : List PV) (p : ByteArray) (k a : Int) (z : Bool) (es : List PV) (nl : Bool) (ws : List PV) :
  runBr Try.prog EF0 60 1 22 (lpb Try.f22 10) [0, 5, 6, 7, 8, 10] [0, 5, 6, 7, 8, 10] (shFi.put (lFi n m g l p k a z es nl ws)).1 (shFi.put (lFi n m g l p k a z es nl ws)).2 =
  bif decide (a > 0) then ldR ws 1 (bif inr l (W (a - 1)) then bif bigS (pNm (rE ws 0)) && bigS (pNm (gE l (W (a - 1)))) then
    bif bfP (rE ws 0) (gE l (W (a - 1))) then some (.normal, shFi.put (lFi n m g l p k (W (a - 1)) z es nl ws)) else some (xFi n m g l p k a z es nl ws) else none else none)
  else some (xFi n m g l p k a z es nl ws) := by kernel_rfl
end Go.Hs
/- Strings (gazette): the reference's Find: the inner loop as a contract. -/
namespace Go.Hs
open Go.Hx Go.Proofs
/-- Where a place goes among the first a. -/
def atL (e : PV) (l : List PV) : Nat → Nat
  | 0 => 0
  | a + 1 => bif bfP e (l.getD a .any) then atL e l a else a + 1
theorem atL_le (e : PV) (l : List PV) : ∀ a, atL e l a ≤ a
  | 0 => Nat.le_refl _
  | a + 1 => by
    rw [atL]
    cases bfP e (l.getD a .any) with
    | true => exact Nat.le_succ_of_le (atL_le e l a)
    | false => exact Nat.le_refl _
def pFi : LS → Bool
  | ([.n _, .n _, .l _ l, .s _, .i _, .i a], [.l _ _, .l _ ws]) => decide (0 ≤ a ∧ a ≤ (l.length : Int) ∧ l.length ≤ 1000 ∧ ws.length = 1) && bigS (pNm (rE ws 0)) && bigN l
  | _ => false
noncomputable def fFi : LS → DT (PX × List PV × List Row)
  | ([.n n, .n m, .l g l, .s p, .i k, .i a], [.l z es, .l nl ws]) => .leaf (xFi n m g l p k (atL (rE ws 0) l a.toNat : Nat) z es nl ws)
  | _ => .no
def mFi : LS → Nat
  | ([.n _, .n _, .l _ _, .s _, .i _, .i a], [.l _ _, .l _ _]) => a.toNat
  | _ => 0
theorem bigN_g {es : List PV} (h : bigN es = true) {i : Int} (h1 : 0 ≤ i) (h2 : i < (es.length : Int)) : bigS (pNm (gE es i)) = true := by
  have := bigN_at h h1 h2
  unfold rE at this
  rwa [Nat.zero_add] at this
theorem sFi : ∀ s r, pFi s = true → (fFi s).run = some r → r.1 ≠ .normal ∧ (runBr Try.prog EF0 60 1 22 (lpb Try.f22 10) [0, 5, 6, 7, 8, 10] [0, 5, 6, 7, 8, 10] (shFi.put s).1 (shFi.put s).2 = some r ∨
      ∃ s', runBr Try.prog EF0 60 1 22 (lpb Try.f22 10) [0, 5, 6, 7, 8, 10] [0, 5, 6, 7, 8, 10] (shFi.put s).1 (shFi.put s).2 = some (.normal, shFi.put s') ∧ pFi s' = true ∧ mFi s' < mFi s ∧ (fFi s').run = some r) := by
  intro t r hp hr
  unfold pFi at hp; split at hp
  · rename_i n m g l p k a z es nl ws
    simp only [Bool.and_eq_true, decide_eq_true_eq] at hp
    obtain ⟨⟨⟨h1, h2, h3, h4⟩, h5'⟩, h6⟩ := hp
    have h5 : bigS (pNm (rE ws 0)) = true := decide_eq_true h5'
    have hr' := (Option.some.inj hr).symm
    refine ⟨by rw [hr']; simp, ?_⟩
    rw [show shFi.put ([.n n, .n m, .l g l, .s p, .i k, .i a], [.l z es, .l nl ws]) = shFi.put (lFi n m g l p k a z es nl ws) from rfl, qFi]
    by_cases hi : a > 0
    · rw [decide_eq_true hi, cond_true, ldR_of h4, W_id (by omega) (by omega), inr_of (by omega) (by omega), cond_true, h5, bigN_g h6 (by omega) (by omega)]
      obtain ⟨x, hm⟩ : ∃ x, a.toNat = x + 1 := ⟨a.toNat - 1, by omega⟩
      have hm2 : (a - 1).toNat = x := by omega
      rw [hm] at hr'
      simp only [atL] at hr'
      have e : gE l (a - 1) = l.getD x .any := by unfold gE; rw [hm2]
      rw [e]
      cases hc : bfP (rE ws 0) (l.getD x .any) with
      | true =>
        rw [hc] at hr'
        refine .inr ⟨lFi n m g l p k (a - 1) z es nl ws, rfl, by simp only [pFi, Bool.and_eq_true, decide_eq_true_eq]; exact ⟨⟨⟨by omega, by omega, h3, h4⟩, h5'⟩, h6⟩, by simp only [mFi]; omega, ?_⟩
        rw [hr']
        simp only [fFi, hm2]
        rfl
      | false =>
        rw [hc] at hr'
        refine .inl ?_
        rw [hr']
        simp only [cond_false]
        rw [show ((x + 1 : Nat) : Int) = a by omega]
        rfl
    · rw [decide_eq_false hi]
      rw [show a.toNat = 0 by omega] at hr'
      refine .inl ?_
      rw [hr']
      obtain rfl : a = 0 := by omega
      rfl
  · cases hp
noncomputable def EF1 : EnvK := EF0.addWr 1 22 10 [0, 5, 6, 7, 8, 10] shFi pFi fFi
theorem okF1 : EnvOK Try.prog EF1.env :=
  okF0.addWr (n := 60) (q := 1) Try.func22 (show Try.f22.body = some (bod Try.f22) by kernel_rfl) (show (loops (bod Try.f22)).filter (fun b => rid b == 10) = [lpb Try.f22 10] by kernel_rfl) [0, 5, 6, 7, 8, 10] [0, 5, 6, 7, 8, 10] shFi mFi sFi
def shFou : S1 := ⟨87, [(0, .sl 0), (5, .lst 36), (6, .str), (7, I64)], [.many 36 7]⟩
abbrev lFou (n m : Nat) (g : Bool) (l : List PV) (p : ByteArray) (k : Int) (z : Bool) (es : List PV) : LS := ([.n n, .n m, .l g l, .s p, .i k], [.l z es])
end Go.Hs
/- Strings (gazette): the reference's Find: a round of the outer loop. -/
namespace Go.Hs
open Go.Hx Go.Proofs
def pAf (l : List PV) (a : Int) : List PV := (l.take a.toNat).drop 0
def pBk (l : List PV) (a : Int) : List PV := (l.take l.length).drop a.toNat
abbrev M47 : Nat := 140737488355328
/-- append(append(append([]T{}, l[:a]..), e), l[a:]..), elements of b bytes. -/
def insC (b : Nat) (l : List PV) (e : PV) (a : Int) {α : Type} (k : List PV → Option α) : Option α :=
  bif decide ((0 : Int) ≤ 0) && decide (0 ≤ a) && decide (a ≤ (l.length : Int)) then
  bif decide ((0 + (pAf l a).length) * b ≤ M47) then
  bif decide (([] ++ pAf l a).length = 0 + (pAf l a).length) && decide (0 + (pAf l a).length = 0 + (pAf l a).length) && decide ((0 + (pAf l a).length + 1) * b ≤ M47) then
  bif decide (0 ≤ a) && decide (a ≤ (l.length : Int)) && decide ((l.length : Int) ≤ (l.length : Int)) then
  bif decide (([] ++ pAf l a ++ [e]).length = 0 + (pAf l a).length + 1) && decide (0 + (pAf l a).length + 1 = 0 + (pAf l a).length + 1) && decide ((0 + (pAf l a).length + 1 + (pBk l a).length) * b ≤ M47) then
  ldR ([] ++ pAf l a ++ [e] ++ pBk l a) (0 + (pAf l a).length + 1 + (pBk l a).length) (k ((([] ++ pAf l a ++ [e] ++ pBk l a).drop 0).take (0 + (pAf l a).length + 1 + (pBk l a).length)))
  else none else none else none else none else none
def pfx (s p : ByteArray) {α : Type} (no yes : Option α) : Option α :=
  bif s.toList == nilS.toList then no else bif decide ((s.size : Int) < (p.size : Int)) then no else
  bif decide ((0 : Int) ≤ 0) && decide (0 ≤ (p.size : Int)) && decide ((p.size : Int) ≤ (s.size : Int)) then bif !((s.extract 0 (p.size : Int).toNat).toList == p.toList) then no else yes else none
noncomputable abbrev xFou (g : Bool) (l : List PV) (z : Bool) (es : List PV) : PX × List PV × List Row := (.exit 0, tm 87 [(5, .lst g 36 l)], (shFou.put (lFou 0 0 true [] nilS 0 z es)).2)
theorem qFou (n m : Nat) (g : Bool) (l : List PV) (p : ByteArray) (k : Int) (z : Bool) (es : List PV) :
  runBr Try.prog EF1 60 1 22 (lpb Try.f22 4) [0, 5, 6, 7] [5] (shFou.put (lFou n m g l p k z es)).1 (shFou.put (lFou n m g l p k z es)).2 =
  bif decide (k < (m : Int)) then ixR es n m k (ldR es n (bif bigS (pNm (rE es k)) then
    pfx (fold (pNm (rE es k))) p (some (.normal, shFou.put (lFou n m g l p (W (k + 1)) z es)))
      (bif pFi (lFi n m g l p k (l.length : Int) z es false [plE (rE es k)]) then
        insC 72 l (plE (rE es k)) (atL (rE [plE (rE es k)] 0) l (l.length : Int).toNat : Nat) fun l' => some (.normal, shFou.put (lFou n m false l' p (W (k + 1)) z es)) else none) else none))
  else some (xFou g l z es) := by kernel_rfl
end Go.Hs
/- Strings (gazette): the reference's Find: the outer loop as a contract; the loop of the Ids. -/
namespace Go.Hs
open Go.Hx Go.Proofs
/-- A list with one more at a place. -/
def insX (l : List PV) (e : PV) (a : Nat) : List PV := l.take a ++ [e] ++ l.drop a
theorem insX_len {l : List PV} {e : PV} {a : Nat} (h : a ≤ l.length) : (insX l e a).length = l.length + 1 := by unfold insX; simp; omega
theorem insC_of {b : Nat} {l : List PV} {e : PV} {a : Nat} {α : Type} {k : List PV → Option α} (ha : a ≤ l.length) (hb : (l.length + 1) * b ≤ M47) : insC b l e (a : Int) k = k (insX l e a) := by
  have hA : pAf l (a : Int) = l.take a := by unfold pAf; simp
  have hB : pBk l (a : Int) = l.drop a := by unfold pBk; simp
  have lA : (l.take a).length = a := by simp; omega
  have lB : (l.drop a).length = l.length - a := by simp
  unfold insC
  rw [hA, hB]
  have m1 : a * b ≤ (l.length + 1) * b := Nat.mul_le_mul_right _ (by omega)
  have m2 : (a + 1) * b ≤ (l.length + 1) * b := Nat.mul_le_mul_right _ (by omega)
  simp only [List.nil_append, lA, lB, Nat.zero_add, List.length_append, List.length_singleton]
  have e1 : a + 1 + (l.length - a) = l.length + 1 := by omega
  rw [e1]
  simp only [decide_true, decide_eq_true (show (0 : Int) ≤ 0 by omega), decide_eq_true (show (0 : Int) ≤ (a : Int) by omega), decide_eq_true (show (a : Int) ≤ (l.length : Int) by omega), decide_eq_true (show a * b ≤ M47 by omega), decide_eq_true (show (a + 1) * b ≤ M47 by omega), decide_eq_true (show (l.length : Int) ≤ (l.length : Int) by omega), decide_eq_true hb]
  have e2 : (l.take a ++ [e] ++ l.drop a).length = l.length + 1 := insX_len ha
  simp only [Bool.and_self, cond_true]
  rw [ldR_of e2, List.drop_zero, List.take_of_length_le (by rw [e2]; exact Nat.le_refl _)]
  rfl
theorem pfx_eq (s p : ByteArray) (hs : (fold s).toList == nilS.toList ↔ s.toList == nilS.toList) {α : Type} (no yes : Option α) (e : PV) (he : pNm e = s) : pfx (fold s) p no yes = bif delB e p then no else yes := by
  unfold pfx delB hasP
  rw [he]
  cases h1 : (fold s).toList == nilS.toList with
  | true => rw [hs.1 h1]; rfl
  | false =>
    have h2 : (s.toList == nilS.toList) = false := by
      cases h3 : s.toList == nilS.toList with
      | true => rw [hs.2 h3] at h1; cases h1
      | false => rfl
    rw [h2, cond_false, Bool.false_or]
    by_cases h4 : ((fold s).size : Int) < (p.size : Int)
    · rw [decide_eq_true h4, cond_true, decide_eq_false (show ¬ ((fold s).size : Int) ≥ (p.size : Int) by omega)]; rfl
    · rw [decide_eq_false h4, cond_false, decide_eq_true (show (0 : Int) ≤ 0 by omega), decide_eq_true (show (0 : Int) ≤ (p.size : Int) by omega), decide_eq_true (show (p.size : Int) ≤ ((fold s).size : Int) by omega)]
      rfl
theorem toL_len (t : ByteArray) : t.toList.length = t.size := by rw [toL]; rfl
theorem fold_nilF (s : ByteArray) : ((fold s).toList == nilS.toList) = true ↔ (s.toList == nilS.toList) = true := by
  have e : ∀ t : ByteArray, (t.toList == nilS.toList) = true ↔ t.size = 0 := fun t => by
    rw [beq_iff_eq]
    have hz : nilS.toList = [] := List.eq_nil_of_length_eq_zero (by rw [toL_len]; rfl)
    constructor
    · intro h
      have := congrArg List.length h
      rw [toL_len] at this
      simpa using this
    · intro h
      have h2 : t.toList.length = 0 := by rw [toL_len]; exact h
      rw [List.eq_nil_of_length_eq_zero h2, hz]
  rw [e, e, fold_size]
/-- One place more. -/
def stepF (p : ByteArray) (l : List PV) (x : PV) : List PV := bif delB x p then l else insX l x (atL x l l.length)
theorem stepF_len (p : ByteArray) (l : List PV) (x : PV) : (stepF p l x).length ≤ l.length + 1 := by
  unfold stepF
  cases delB x p with
  | true => simp
  | false => rw [cond_false, insX_len (atL_le _ _ _)]; exact Nat.le_refl _
theorem stepF_big {p : ByteArray} {l : List PV} {x : PV} (h : bigN l = true) (hx : bigS (pNm x) = true) : bigN (stepF p l x) = true := by
  unfold stepF
  cases delB x p with
  | true => exact h
  | false =>
    unfold bigN at *
    rw [List.all_eq_true] at *
    intro y hy
    simp only [cond_false, insX, List.append_assoc, List.mem_append, List.mem_singleton] at hy
    rcases hy with hy | rfl | hy
    · exact h y (List.mem_of_mem_take hy)
    · exact hx
    · exact h y (List.mem_of_mem_drop hy)
theorem gE_of {es : List PV} {i : Int} (h1 : 0 ≤ i) (h2 : i < (es.length : Int)) : ∃ h : i.toNat < es.length, gE es i = es[i.toNat]'h := by
  refine ⟨by omega, ?_⟩
  unfold gE
  rw [List.getD_eq_getElem?_getD, List.getElem?_eq_getElem (by omega)]; rfl
noncomputable def pFou : LS → Bool
  | ([.n n, .n m, .l false l, .s _, .i k], [.l _ es]) => decide (n = es.length ∧ m = es.length ∧ 0 ≤ k ∧ k ≤ (es.length : Int) ∧ es.length ≤ 900 ∧ (l.length : Int) ≤ k) && bigN es && normB es && bigN l
  | _ => false
noncomputable def fFou : LS → DT (PX × List PV × List Row)
  | ([.n _, .n _, .l false l, .s p, .i k], [.l z es]) => .leaf (xFou false ((es.drop k.toNat).foldl (stepF p) l) z es)
  | _ => .no
def mFou : LS → Nat
  | ([.n _, .n _, .l false _, .s _, .i k], [.l _ es]) => ((es.length : Int) - k).toNat
  | _ => 0
theorem sFou : ∀ s r, pFou s = true → (fFou s).run = some r → r.1 ≠ .normal ∧ (runBr Try.prog EF1 60 1 22 (lpb Try.f22 4) [0, 5, 6, 7] [5] (shFou.put s).1 (shFou.put s).2 = some r ∨
      ∃ s', runBr Try.prog EF1 60 1 22 (lpb Try.f22 4) [0, 5, 6, 7] [5] (shFou.put s).1 (shFou.put s).2 = some (.normal, shFou.put s') ∧ pFou s' = true ∧ mFou s' < mFou s ∧ (fFou s').run = some r) := by
  intro t r hp hr
  unfold pFou at hp; split at hp
  · rename_i n m l p k z es
    rw [Bool.and_eq_true, Bool.and_eq_true, Bool.and_eq_true, decide_eq_true_eq] at hp
    obtain ⟨⟨⟨⟨rfl, rfl, h1, h2, h3, h4⟩, h5⟩, h6⟩, h7⟩ := hp
    have hr' := (Option.some.inj hr).symm
    refine ⟨by rw [hr']; simp, ?_⟩
    rw [show shFou.put ([.n es.length, .n es.length, .l false l, .s p, .i k], [.l z es]) = shFou.put (lFou es.length es.length false l p k z es) from rfl, qFou]
    by_cases hi : k < (es.length : Int)
    · obtain ⟨g1, g2⟩ := rE_of h1 hi
      have hx : plE (rE es k) = rE es k := norm_at (normB_iff.1 h6) h1 hi
      have hb : bigS (pNm (rE es k)) = true := bigN_at h5 h1 hi
      have hd : es.drop k.toNat = rE es k :: es.drop (k + 1).toNat := by
        rw [g2, List.drop_eq_getElem_cons g1, show (k + 1).toNat = k.toNat + 1 by omega]
      rw [hd, List.foldl_cons] at hr'
      rw [decide_eq_true hi, cond_true, ixR_of rfl h1 hi, ldR_of rfl, hb, cond_true, W_id (by omega) (by omega), hx, pfx_eq (pNm (rE es k)) p (fold_nilF _) _ _ (rE es k) rfl]
      have hp' : pFi (lFi es.length es.length false l p k (l.length : Int) z es false [rE es k]) = true := by
        simp only [pFi, Bool.and_eq_true]
        refine ⟨⟨decide_eq_true ⟨by omega, by omega, by omega, rfl⟩, hb⟩, h7⟩
      refine .inr ⟨lFou es.length es.length false (stepF p l (rE es k)) p (k + 1) z es, ?_, ?_, by simp only [mFou]; omega, ?_⟩
      · rw [hp', cond_true, show (rE [rE es k] 0) = rE es k from rfl, insC_of (by rw [Int.toNat_natCast]; exact atL_le _ _ _) (by show _ ≤ 140737488355328; omega), Int.toNat_natCast]
        unfold stepF
        cases delB (rE es k) p <;> rfl
      · have := stepF_len p l (rE es k)
        show (_ && _ && _ && _) = true
        rw [Bool.and_eq_true, Bool.and_eq_true, Bool.and_eq_true, decide_eq_true_eq]
        exact ⟨⟨⟨⟨rfl, rfl, by omega, by omega, h3, by omega⟩, h5⟩, h6⟩, stepF_big h7 hb⟩
      · rw [hr']; rfl
    · rw [decide_eq_false hi]
      rw [List.drop_of_length_le (by omega)] at hr'
      exact .inl (by rw [hr']; rfl)
  · cases hp
noncomputable def EF2 : EnvK := EF1.addWr 1 22 4 [0, 5, 6, 7] shFou pFou fFou
theorem okF2 : EnvOK Try.prog EF2.env :=
  okF1.addWr (n := 60) (q := 1) Try.func22 (show Try.f22.body = some (bod Try.f22) by kernel_rfl) (show (loops (bod Try.f22)).filter (fun b => rid b == 4) = [lpb Try.f22 4] by kernel_rfl) [0, 5, 6, 7] [5] shFou mFou sFou
/-! The Ids. -/
def shFj : S1 := ⟨87, [(5, .lst 36), (11, .sl 1), (12, I64)], [.many 36 7, .many 3 1]⟩
abbrev lFj (g : Bool) (l : List PV) (n m : Nat) (k : Int) (z : Bool) (es : List PV) (nl : Bool) (ids : List PV) : LS := ([.l g l, .n n, .n m, .i k], [.l z es, .l nl ids])
noncomputable abbrev xFj (n m : Nat) (z : Bool) (es : List PV) (nl : Bool) (ids : List PV) : PX × List PV × List Row := (.exit 4, tm 87 [(11, .sl 1 n 0 m)], (shFj.put (lFj true [] 0 0 0 z es nl ids)).2)
theorem qFj (g : Bool) (l : List PV) (n m : Nat) (k : Int) (z : Bool) (es : List PV) (nl : Bool) (ids : List PV) : runBr Try.prog EF2 60 1 22 (lpb Try.f22 15) [5, 11, 12] [11] (shFj.put (lFj g l n m k z es nl ids)).1 (shFj.put (lFj g l n m k z es nl ids)).2 =
  bif decide (k < (l.length : Int)) then bif inr l k then bif room8 ids n m then some (.normal, shFj.put (lFj g l (n + 1) (n + 1) (W (k + 1)) z es (nl && false) (ids ++ [iv (pId (gE l k))]))) else none else none else some (xFj n m z es nl ids) := by kernel_rfl
end Go.Hs
/- Strings (gazette): the reference's Find as a contract. -/
namespace Go.Hs
open Go.Hx Go.Proofs
def idM (l : List PV) : List PV := l.map fun e => iv (pId e)
theorem idM_len (l : List PV) : (idM l).length = l.length := by unfold idM; simp
def pFj : LS → Bool
  | ([.l _ l, .n n, .n m, .i k], [.l _ _, .l _ ids]) => decide (n = ids.length ∧ m = ids.length ∧ 0 ≤ k ∧ k ≤ (l.length : Int) ∧ l.length ≤ 1000 ∧ (ids.length : Int) ≤ k)
  | _ => false
noncomputable def fFj : LS → DT (PX × List PV × List Row)
  | ([.l _ l, .n n, .n _, .i k], [.l z es, .l nl ids]) => .leaf (xFj (n + (idM (l.drop k.toNat)).length) (n + (idM (l.drop k.toNat)).length) z es (nl && (idM (l.drop k.toNat)).isEmpty) (ids ++ idM (l.drop k.toNat)))
  | _ => .no
def mFj : LS → Nat
  | ([.l _ l, .n _, .n _, .i k], [.l _ _, .l _ _]) => ((l.length : Int) - k).toNat
  | _ => 0
theorem sFj : ∀ s r, pFj s = true → (fFj s).run = some r → r.1 ≠ .normal ∧ (runBr Try.prog EF2 60 1 22 (lpb Try.f22 15) [5, 11, 12] [11] (shFj.put s).1 (shFj.put s).2 = some r ∨
      ∃ s', runBr Try.prog EF2 60 1 22 (lpb Try.f22 15) [5, 11, 12] [11] (shFj.put s).1 (shFj.put s).2 = some (.normal, shFj.put s') ∧ pFj s' = true ∧ mFj s' < mFj s ∧ (fFj s').run = some r) := by
  intro t r hp hr
  unfold pFj at hp; split at hp
  · rename_i g l n m k z es nl ids
    simp only [decide_eq_true_eq] at hp
    obtain ⟨rfl, rfl, h1, h2, h3, h4⟩ := hp
    have hr' := (Option.some.inj hr).symm
    refine ⟨by rw [hr']; simp, ?_⟩
    rw [show shFj.put ([.l g l, .n ids.length, .n ids.length, .i k], [.l z es, .l nl ids]) = shFj.put (lFj g l ids.length ids.length k z es nl ids) from rfl, qFj]
    by_cases hi : k < (l.length : Int)
    · obtain ⟨g1, g2⟩ := gE_of h1 hi
      have hd : idM (l.drop k.toNat) = iv (pId (gE l k)) :: idM (l.drop (k + 1).toNat) := by
        rw [g2, List.drop_eq_getElem_cons g1, show (k + 1).toNat = k.toNat + 1 by omega]; rfl
      rw [hd] at hr'
      rw [decide_eq_true hi, cond_true, inr_of h1 hi, cond_true, show room8 ids ids.length ids.length = true by unfold room8; simp; omega, cond_true, W_id (by omega) (by omega), Bool.and_false]
      refine .inr ⟨lFj g l (ids.length + 1) (ids.length + 1) (k + 1) z es false (ids ++ [iv (pId (gE l k))]), rfl, by simp [pFj]; omega, by simp only [mFj]; omega, ?_⟩
      rw [hr']
      simp only [fFj, List.append_assoc, List.cons_append, List.nil_append, Bool.false_and, List.length_cons, List.isEmpty_cons, Bool.and_false]
      rw [show ids.length + 1 + (idM (l.drop (k + 1).toNat)).length = ids.length + ((idM (l.drop (k + 1).toNat)).length + 1) by omega]
      rfl
    · rw [decide_eq_false hi]
      rw [List.drop_of_length_le (by omega)] at hr'
      exact .inl (by rw [hr']; simp [idM])
  · cases hp
noncomputable def EF3 : EnvK := EF2.addWr 1 22 15 [5, 11, 12] shFj pFj fFj
theorem okF3 : EnvOK Try.prog EF3.env :=
  okF2.addWr (n := 60) (q := 1) Try.func22 (show Try.f22.body = some (bod Try.f22) by kernel_rfl) (show (loops (bod Try.f22)).filter (fun b => rid b == 15) = [lpb Try.f22 15] by kernel_rfl) [5, 11, 12] [11] shFj mFj sFj
def rfS (L : List PV) (p : ByteArray) : List PV := L.foldl (stepF (fold p)) []
noncomputable def rfT (n m : Nat) (z : Bool) (es : List PV) (p : ByteArray) : Option PV :=
  bif bigS p then bif pFou (lFou n m false [] (fold p) 0 z es) then bif pFj (lFj false (rfS es p) 0 0 0 z es true []) then
    ldR ([] ++ idM ((rfS es p).drop 0)) (0 + (idM ((rfS es p).drop 0)).length) (some (.lst false 3 ((([] ++ idM ((rfS es p).drop 0)).drop 0).take (0 + (idM ((rfS es p).drop 0)).length)))) else none else none else none
theorem qRF (n m : Nat) (z : Bool) (es : List PV) (p : ByteArray) : runSE Try.prog EF3 60 22 [.sl 0 n 0 m, sv p] [rN 36 7 z es] = rfT n m z es p := by kernel_rfl
noncomputable def okRF (n m : Nat) (L : List PV) (p : ByteArray) : Bool := decide (n = L.length ∧ m = L.length ∧ L.length ≤ 900) && bigN L && normB L && bigS p
theorem rfS_len (L : List PV) (p : ByteArray) : (rfS L p).length ≤ L.length := by
  have : ∀ (L l : List PV), (L.foldl (stepF (fold p)) l).length ≤ l.length + L.length := fun L => by
    induction L with
    | nil => intro l; simp
    | cons x L ih => intro l; rw [List.foldl_cons]; have := ih (stepF (fold p) l x); have := stepF_len (fold p) l x; simp; omega
  have := this L []
  unfold rfS; simp at this; omega
theorem rfT_eq {n m : Nat} {z : Bool} {es : List PV} {p : ByteArray} (h : okRF n m es p = true) : rfT n m z es p = some (.lst false 3 (idM (rfS es p))) := by
  unfold okRF at h
  rw [Bool.and_eq_true, Bool.and_eq_true, Bool.and_eq_true, decide_eq_true_eq] at h
  obtain ⟨⟨⟨⟨rfl, rfl, h1⟩, h2⟩, h3⟩, h4⟩ := h
  unfold rfT
  have hl := rfS_len es p
  have k1 : pFou (lFou es.length es.length false [] (fold p) 0 z es) = true := by
    show (_ && _ && _ && _) = true
    rw [Bool.and_eq_true, Bool.and_eq_true, Bool.and_eq_true, decide_eq_true_eq]
    exact ⟨⟨⟨⟨rfl, rfl, by omega, by omega, h1, by simp⟩, h2⟩, h3⟩, rfl⟩
  have k2 : pFj (lFj false (rfS es p) 0 0 0 z es true []) = true := by simp [pFj]; omega
  rw [h4, k1, k2, List.nil_append, List.drop_zero, Nat.zero_add, ldR_of rfl, List.drop_zero, List.take_length]
  rfl
noncomputable def cRF : List PV → List Row → Option (DT PV)
  | [.sl 0 n 0 m, .val (.string p)], [⟨es, 7, 36, true, true, z, none⟩] => some (.br (okRF n m es p) (.leaf (.lst false 3 (idM (rfS es p)))) .no)
  | _, _ => none
theorem eRF : Hx.Enters Try.prog 22 := (runSE_sound okF3 ((qRF 0 0 true [] .empty).trans (rfT_eq (by unfold okRF; rw [Bool.and_eq_true, Bool.and_eq_true, Bool.and_eq_true, decide_eq_true_eq]; exact ⟨⟨⟨by simp, rfl⟩, normB_iff.2 fun _ h => by cases h⟩, rfl⟩)))).1
theorem oRF (args : List PV) (H : List Row) (d : DT PV) (q : PV) (h : cRF args H = some d) (hd : d.run = some q) : RCall Try.prog H.length 22 args H q H := by
  unfold cRF at h; split at h
  · rename_i n m p es z
    cases h
    obtain ⟨hc, rfl⟩ := run_br1 hd
    exact (runSE_sound okF3 ((qRF n m z es p).trans (rfT_eq hc))).2
  · cases h
noncomputable def EF4 : EnvK := EF3.addRE 22 cRF
theorem okF4 : EnvOK Try.prog EF4.env := okF3.addRE eRF oRF
end Go.Hs
