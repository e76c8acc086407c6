/- Strings: plain laws: the order of strings; small letters. No program in sight. -/
import Derived.Test.YtooeeombopgghaaDoorPart4
import Derived.Lib.Bytealg
namespace Go.Hs
open Go.Hx Go.Lib
theorem u8_tri (a b : UInt8) : a < b ∨ a = b ∨ b < a := by
  rcases Nat.lt_trichotomy a.toNat b.toNat with h | h | h
  · exact .inl (UInt8.lt_iff_toNat_lt.2 h)
  · exact .inr (.inl (UInt8.toNat_inj.1 h))
  · exact .inr (.inr (UInt8.lt_iff_toNat_lt.2 h))
theorem u8_asymm {a b : UInt8} (h : a < b) : ¬ b < a := fun k => by
  have h1 := UInt8.lt_iff_toNat_lt.1 h; have h2 := UInt8.lt_iff_toNat_lt.1 k; omega
theorem u8_ne {a b : UInt8} (h : a < b) : a ≠ b := fun k => by subst k; exact UInt8.lt_irrefl a h
theorem cb_less : ∀ x y : List UInt8, Op.bytesLess x y = decide (compareBytes x y < 0)
  | [], [] => rfl
  | [], _ :: _ => rfl
  | _ :: _, [] => rfl
  | a :: x, b :: y => by
    have ih := cb_less x y
    simp only [Op.bytesLess, compareBytes]
    rcases u8_tri a b with h | h | h
    · simp [h]
    · subst h; simp [UInt8.lt_irrefl, ih]
    · have h1 := u8_asymm h
      have h2 : (a == b) = false := by rw [beq_eq_false_iff_ne]; exact (u8_ne h).symm
      simp [h, h1, h2]
theorem cb_zero : ∀ x y : List UInt8, compareBytes x y = 0 ↔ x = y
  | [], [] => by simp [compareBytes]
  | [], _ :: _ => by simp [compareBytes]
  | _ :: _, [] => by simp [compareBytes]
  | a :: x, b :: y => by
    have ih := cb_zero x y
    simp only [compareBytes]
    rcases u8_tri a b with h | h | h
    · simp [h, u8_ne h]
    · subst h; simp [UInt8.lt_irrefl, ih]
    · simp [h, u8_asymm h, (u8_ne h).symm]
theorem cb_neg : ∀ x y : List UInt8, compareBytes y x = - compareBytes x y
  | [], [] => rfl
  | [], _ :: _ => rfl
  | _ :: _, [] => rfl
  | a :: x, b :: y => by
    have ih := cb_neg x y
    simp only [compareBytes]
    rcases u8_tri a b with h | h | h
    · simp [h, u8_asymm h]
    · subst h; simp [UInt8.lt_irrefl, ih]
    · simp [h, u8_asymm h]
theorem cb_three (x y : List UInt8) : compareBytes x y = 0 ∨ compareBytes x y = 1 ∨ compareBytes x y = -1 := by
  induction x generalizing y with
  | nil => cases y <;> simp [compareBytes]
  | cons a x ih =>
    cases y with
    | nil => simp [compareBytes]
    | cons b y => simp only [compareBytes]; (repeat' split) <;> first | exact ih y | simp
theorem cb_trans : ∀ x y z : List UInt8, compareBytes x y < 0 → compareBytes y z < 0 → compareBytes x z < 0
  | [], [], _, h, _ => by simp [compareBytes] at h
  | [], b :: y, [], _, h => by simp [compareBytes] at h
  | [], _ :: _, _ :: _, _, _ => by simp [compareBytes]
  | _ :: _, [], _, h, _ => by simp [compareBytes] at h
  | _ :: _, _ :: _, [], _, h => by simp [compareBytes] at h
  | a :: x, b :: y, c :: z, h, k => by
    have ih := cb_trans x y z
    simp only [compareBytes] at h k ⊢
    rcases u8_tri a b with h1 | h1 | h1
    · rcases u8_tri b c with h2 | h2 | h2
      · have : a < c := UInt8.lt_trans h1 h2
        simp [this]
      · subst h2; simp [h1]
      · simp [h2, u8_asymm h2] at k
    · subst h1
      rcases u8_tri a c with h2 | h2 | h2
      · simp [h2]
      · subst h2; simp [UInt8.lt_irrefl] at h k ⊢; exact ih h k
      · simp [h2, u8_asymm h2] at k
    · simp [h1, u8_asymm h1] at h
/-- A string's bytes. -/
abbrev bl (s : ByteArray) : List UInt8 := s.data.toList
theorem toL (s : ByteArray) : s.toList = bl s := ByteArray.toList_eq s
theorem less_cb (a b : ByteArray) : Op.bytesLess a.toList b.toList = decide (compareBytes (bl a) (bl b) < 0) := by rw [toL, toL, cb_less]
theorem ba_eq {a b : ByteArray} : bl a = bl b ↔ a = b := by
  constructor
  · intro h; cases a; cases b; simp only [bl] at h; rw [Array.toList_inj] at h; rw [h]
  · intro h; rw [h]
/-- The small letter of a byte. -/
def lowB (c : UInt8) : UInt8 := if 65 ≤ c.toNat ∧ c.toNat ≤ 90 then UInt8.ofNat (c.toNat + 32) else c
def fold (s : ByteArray) : ByteArray := ⟨((bl s).map lowB).toArray⟩
theorem bl_fold (s : ByteArray) : bl (fold s) = (bl s).map lowB := by simp [bl, fold]
theorem lowB_lowB (c : UInt8) : lowB (lowB c) = lowB c := by
  unfold lowB
  by_cases h : 65 ≤ c.toNat ∧ c.toNat ≤ 90
  · rw [if_pos h]
    have : (UInt8.ofNat (c.toNat + 32)).toNat = c.toNat + 32 := by rw [UInt8.toNat_ofNat']; omega
    rw [this, if_neg (by omega)]
  · rw [if_neg h, if_neg h]
theorem fold_fold (s : ByteArray) : fold (fold s) = fold s := by
  rw [← ba_eq, bl_fold, bl_fold, List.map_map]
  exact List.map_congr_left fun c _ => lowB_lowB c
theorem fold_size (s : ByteArray) : (fold s).size = s.size := by
  show (fold s).data.size = s.data.size
  simp [fold]
/-- Names in order: first without large letters, then as they are. -/
def cmpN (a b : ByteArray) : Int := if compareBytes (bl (fold a)) (bl (fold b)) = 0 then compareBytes (bl a) (bl b) else compareBytes (bl (fold a)) (bl (fold b))
theorem cmpN_self (a : ByteArray) : cmpN a a = 0 := by unfold cmpN; rw [if_pos ((cb_zero _ _).2 rfl)]; exact (cb_zero _ _).2 rfl
theorem cmpN_neg (a b : ByteArray) : cmpN b a = - cmpN a b := by
  unfold cmpN
  rw [cb_neg (bl (fold a)) (bl (fold b)), cb_neg (bl a) (bl b)]
  by_cases h : compareBytes (bl (fold a)) (bl (fold b)) = 0
  · rw [if_pos h, if_pos (by omega)]
  · rw [if_neg h, if_neg (by omega)]
theorem cmpN_zero (a b : ByteArray) : cmpN a b = 0 ↔ a = b := by
  unfold cmpN
  by_cases h : compareBytes (bl (fold a)) (bl (fold b)) = 0
  · rw [if_pos h, cb_zero, ba_eq]
  · rw [if_neg h]
    constructor
    · intro k; exact absurd k h
    · intro k; subst k; exact absurd ((cb_zero _ _).2 rfl) h
theorem cmpN_trans {a b c : ByteArray} (h : cmpN a b < 0) (k : cmpN b c < 0) : cmpN a c < 0 := by
  unfold cmpN at *
  have t := cb_trans (bl (fold a)) (bl (fold b)) (bl (fold c))
  have z1 := cb_zero (bl (fold a)) (bl (fold b))
  have z2 := cb_zero (bl (fold b)) (bl (fold c))
  have z3 := cb_zero (bl (fold a)) (bl (fold c))
  by_cases h1 : compareBytes (bl (fold a)) (bl (fold b)) = 0
  · rw [if_pos h1] at h
    rw [z1.1 h1]
    by_cases h2 : compareBytes (bl (fold b)) (bl (fold c)) = 0
    · rw [if_pos h2] at k ⊢
      exact cb_trans _ _ _ h k
    · rw [if_neg h2] at k ⊢; exact k
  · rw [if_neg h1] at h
    by_cases h2 : compareBytes (bl (fold b)) (bl (fold c)) = 0
    · rw [← z2.1 h2, if_neg h1]; exact h
    · rw [if_neg h2] at k
      have := t h k
      rw [if_neg (by omega)]; exact this
end Go.Hs
