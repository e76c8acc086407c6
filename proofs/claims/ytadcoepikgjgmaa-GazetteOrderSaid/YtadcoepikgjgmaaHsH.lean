/- Strings (gazette): GazetteNames and GazetteOrder answer true. -/
import Derived.Test.YtadcoepikgjgmaaHsG
namespace Go.Hs
open Go.Hx Go.Proofs
def mn40 (s : ByteArray) : Int := if 40 < (s.size : Int) then 40 else (s.size : Int)
def cutS (s : ByteArray) : ByteArray := s.extract 0 (mn40 s).toNat
theorem qCut (s : ByteArray) : runP Try.prog E14 20 10 [sv s] = bif decide ((0 : Int) ≤ 0) && decide (0 ≤ mn40 s) && decide (mn40 s ≤ (s.size : Int)) then some (sv (cutS s)) else none := by kernel_rfl
theorem mn40_ok (s : ByteArray) : (decide ((0 : Int) ≤ 0) && decide (0 ≤ mn40 s) && decide (mn40 s ≤ (s.size : Int))) = true := by
  unfold mn40; simp; split <;> omega
theorem cutS_size (s : ByteArray) : (cutS s).size ≤ 40 := by
  unfold cutS mn40
  rw [ByteArray.size_extract]; split <;> omega
theorem cutS_big (s : ByteArray) : bigS (cutS s) = true := by have := cutS_size s; simp [bigS]; omega
theorem fold_big {s : ByteArray} (h : bigS s = true) : bigS (fold s) = true := by simp [bigS] at h ⊢; rw [fold_size]; exact h
def cCut : List PV → Option PV | [.val (.string s)] => some (sv (cutS s)) | _ => none
theorem oCut (args : List PV) (r : PV) (h : cCut args = some r) : Enters Try.prog 10 ∧ PCall Try.prog 10 args r := by
  unfold cCut at h; split at h
  · rename_i s; cases h; exact runP_sound ok14 (n := 20) (by rw [qCut, mn40_ok]; rfl)
  · cases h
noncomputable def E15 : EnvK := E14.addO 10 cCut
theorem ok15 : EnvOK Try.prog E15.env := ok14.addO oCut
abbrev lt (x y : ByteArray) : Bool := decide (cmpN x y < 0)
def nmT (A B : ByteArray) : Option PV :=
  bif bigS A then bif bigS A then bif rightS A == rightS A then bif bigS A then bif bigS A then bif classS A == classS A then bif bigS A then bif bigS A then bif (fold A).toList == (fold A).toList then
    bif bigS A && bigS B then bif bigS A && bigS B then bif lt A B == lt A B then bif bigS A then bif bigS (fold A) && bigS A then bif bigS A then bif bigS (fold A) && bigS A then
      some (bv (lt (fold A) A == lt (fold A) A)) else none else none else none else none else some (bv false) else none else none
  else some (bv false) else none else none else some (bv false) else none else none else some (bv false) else none else none
theorem qNames (a b : ByteArray) : runP Try.prog E15 60 3 [sv a, sv b] = nmT (cutS a) (cutS b) := by kernel_rfl
theorem lawNames (a b : ByteArray) : Enters Try.prog 3 ∧ PCall Try.prog 3 [sv a, sv b] (bv true) := by
  refine runP_sound ok15 (n := 60) ?_
  rw [qNames]
  unfold nmT
  have h1 := cutS_big a
  have h2 := cutS_big b
  rw [h1, h2, fold_big h1]
  simp
/-! The order. -/
def L2 (x y : ByteArray) (k : Option PV) : Option PV := bif bigS x && bigS y then k else none
def F1 (x : ByteArray) (k : Option PV) : Option PV := bif bigS x then k else none
def restO (A B : ByteArray) : Option PV :=
  F1 A (F1 (fold A) (F1 A (bif (fold (fold A)).toList == (fold A).toList then F1 A (bif ((fold A).size : Int) == (A.size : Int) then F1 A (F1 B (bif !((fold A).toList == (fold B).toList) then some (bv true) else
    bif A.toList == B.toList then some (bv true) else L2 A B (some (bv (lt A B == Op.bytesLess A.toList B.toList))))) else some (bv false)) else some (bv false))))
def thirdO (A B C : ByteArray) : Option PV := L2 A B (bif lt A B then L2 B C (bif lt B C then L2 A C (bif !lt A C then some (bv false) else restO A B) else restO A B) else restO A B)
def ordO (A B C : ByteArray) : Option PV :=
  L2 A A (bif lt A A then some (bv false) else bif !(A.toList == B.toList) then L2 A B (L2 B A (bif lt A B == lt B A then some (bv false) else thirdO A B C)) else thirdO A B C)
theorem qOrder (a b c : ByteArray) : runP Try.prog E15 60 5 [.agg [sv a, sv b, sv c]] = ordO (cutS a) (cutS b) (cutS c) := by kernel_rfl
theorem restO_eq {A B : ByteArray} (hA : bigS A = true) (hB : bigS B = true) : restO A B = some (bv true) := by
  unfold restO F1 L2
  rw [hA, hB, fold_big hA, fold_fold, fold_size]
  simp only [cond_true, beq_self_eq_true, Bool.and_true]
  by_cases h1 : fold A = fold B
  · rw [h1, beq_self_eq_true]
    simp only [Bool.not_true, cond_false]
    by_cases h2 : A = B
    · rw [h2, beq_self_eq_true]; rfl
    · rw [show (A.toList == B.toList) = false by rw [beq_eq_false_iff_ne, toL, toL]; exact fun t => h2 (ba_eq.1 t), less_cb]
      have : cmpN A B = Lib.compareBytes (bl A) (bl B) := by unfold cmpN; rw [if_pos ((cb_zero _ _).2 (by rw [h1]))]
      rw [← this]; simp
  · rw [show ((fold A).toList == (fold B).toList) = false by rw [beq_eq_false_iff_ne, toL, toL]; exact fun t => h1 (ba_eq.1 t)]; rfl
theorem ordO_eq {A B C : ByteArray} (hA : bigS A = true) (hB : bigS B = true) (hC : bigS C = true) : ordO A B C = some (bv true) := by
  have third : thirdO A B C = some (bv true) := by
    unfold thirdO L2
    rw [restO_eq hA hB, hA, hB, hC]
    simp only [Bool.and_true, cond_true]
    cases h1 : lt A B with
    | false => rfl
    | true =>
      cases h2 : lt B C with
      | false => rfl
      | true =>
        have := cmpN_trans (of_decide_eq_true h1) (of_decide_eq_true h2)
        rw [show lt A C = true from decide_eq_true this]; rfl
  unfold ordO L2
  rw [third, hA, hB]
  simp only [Bool.and_true, cond_true]
  rw [show lt A A = false from decide_eq_false (show ¬ cmpN A A < 0 by rw [cmpN_self]; omega)]
  simp only [cond_false]
  by_cases h : A = B
  · rw [h, beq_self_eq_true]; rfl
  · rw [show (A.toList == B.toList) = false by rw [beq_eq_false_iff_ne, toL, toL]; exact fun t => h (ba_eq.1 t)]
    simp only [Bool.not_false, cond_true]
    have n : cmpN B A = - cmpN A B := cmpN_neg A B
    have z : cmpN A B ≠ 0 := fun t => h ((cmpN_zero A B).1 t)
    have this : (lt A B == lt B A) = false := by
      unfold lt
      rw [n]
      generalize cmpN A B = c at z
      by_cases q : c < 0
      · have q2 : ¬ (-c < 0) := by omega
        rw [decide_eq_true q, decide_eq_false q2]; rfl
      · have q2 : -c < 0 := by omega
        rw [decide_eq_false q, decide_eq_true q2]; rfl
    rw [this]; rfl
theorem lawOrder (a b c : ByteArray) : Enters Try.prog 5 ∧ PCall Try.prog 5 [.agg [sv a, sv b, sv c]] (bv true) :=
  runP_sound ok15 (n := 60) ((qOrder a b c).trans (ordO_eq (cutS_big a) (cutS_big b) (cutS_big c)))
end Go.Hs
