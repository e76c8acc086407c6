/- Geometry: contracts: Check of a line, both. -/
import Derived.Test.YtneklpbkfmljfaaHgW6
namespace Go.Hg
open Go.Hx Go.Proofs
theorem fin_bd {es : List PV} (h : fin es = true) {i : Int} (h0 : 0 ≤ i) (h1 : i < (es.length : Int)) : bd (qX es i) (qY es i) := by
  have := allR_false.1 h i.toNat (by omega)
  rw [show (0 : Int) + (i.toNat : Int) = i by omega] at this
  have := inB2_iff.1 this; unfold bd; omega
theorem qX_take {es : List PV} {n : Nat} {k : Int} (h : k < (n : Int)) (h0 : 0 ≤ k) : qX (es.take n) k = qX es k := by
  unfold qX
  rw [List.getD_eq_getElem?_getD, List.getD_eq_getElem?_getD, List.getElem?_take, if_pos (by omega)]
theorem qY_take {es : List PV} {n : Nat} {k : Int} (h : k < (n : Int)) (h0 : 0 ≤ k) : qY (es.take n) k = qY es k := by
  unfold qY
  rw [List.getD_eq_getElem?_getD, List.getD_eq_getElem?_getD, List.getElem?_take, if_pos (by omega)]
theorem want_eq (es : List PV) (la i k : Int) : wantC es la i k = want es la i k := by
  unfold wantC want
  rw [show (i == k + 1) = (k + 1 == i) by rw [Bool.eq_iff_iff]; simp only [beq_iff_eq]; omega]
  cases cls es <;> cases k == 0 <;> cases i == la <;> rfl
theorem allC_eq {es : List PV} (hf : fin es = true) {la i : Int} (h0 : 0 ≤ i) (h1 : i + 1 < (es.length : Int)) : ∀ (n : Nat) (k : Int), 0 ≤ k → k + n = i →
    allC es la i (qX es i) (qY es i) (qX es (i + 1)) (qY es (i + 1)) (es.take (i + 1).toNat) k n = allP es la i k n
  | 0, k, _, _ => rfl
  | n + 1, k, h2, h3 => by
    simp only [allC, allP]
    rw [allC_eq hf h0 h1 n (k + 1) (by omega) (by omega), want_eq]
    congr 2
    unfold mqs mq
    rw [qX_take (by omega) (by omega), qY_take (by omega) (by omega), qX_take (by omega) (by omega), qY_take (by omega) (by omega)]
    exact mt_swap3 (fin_bd hf (by omega) (by omega)) (fin_bd hf (by omega) (by omega)) (fin_bd hf (by omega) (by omega)) (fin_bd hf (by omega) (by omega))
theorem allO_eq {es : List PV} (hf : fin es = true) {la : Int} : ∀ (n : Nat) (i : Int), 0 ≤ i → i + n + 1 = (es.length : Int) → allO es la i n = allI es la i n
  | 0, i, _, _ => rfl
  | n + 1, i, h0, h1 => by
    simp only [allO, allI]
    rw [allO_eq hf n (i + 1) (by omega) (by omega), allC_eq hf h0 (by omega) i.toNat 0 (by omega) (by omega)]
    rfl
theorem chkL_eq (f : Bool) (es : List PV) : (bif decide ((es.length : Int) < 2) then some (iv 2) else bif decide ((es.length : Int) > 40) then some (iv 2) else chkL f es) = some (iv (chk es)) := by
  unfold chk
  by_cases h1 : (es.length : Int) < 2
  · rw [decide_eq_true h1]; rfl
  · by_cases h2 : (es.length : Int) > 40
    · rw [decide_eq_false h1, decide_eq_true h2]; rfl
    · rw [decide_eq_false h1, decide_eq_false h2]
      have hw := W_id (n := (es.length : Int) - 2) (by omega) (by omega)
      unfold chkL
      rw [hw, show big es = true by simp [big]; omega, show pD (lD f es 0 ((es.length : Int) - 2) f es (lrO .ready) 0) = true by simp [pD, same_self]; omega, show ((es.length : Int) - (0 + 1)).toNat = es.length - 1 by omega]
      cases hf : fin es with
      | false => rfl
      | true =>
        rw [allO_eq hf (es.length - 1) 0 (by omega) (by omega)]
        cases allI es ((es.length : Int) - 2) 0 (es.length - 1) <;> rfl
theorem oChk (args : List PV) (r : PV) (h : cChk args = some r) : Enters Try.prog 102 ∧ PCall Try.prog 102 args r := by
  unfold cChk at h; split at h
  · rename_i f es; cases h; exact runP_sound ok34b ((qChk f es).trans (chkL_eq f es))
  · cases h
noncomputable def E35 : EnvK := E34.addO 102 cChk
theorem ok35 : EnvOK Try.prog E35.env := ok34.addO oChk
/-- P6.1. -/
def rchk (es : List PV) : Int := bif decide ((es.length : Int) < 3) then 2 else bif decide ((es.length : Int) ≥ 40) then 2 else chk (es ++ [qp es 0])
def ringT (es : List PV) : Option PV :=
  bif decide ((0 + es.length) * 16 ≤ 140737488355328) then bif decide (0 < (es.length : Int)) then
    bif decide (es.length = 0 + es.length) && decide (0 + es.length = 0 + es.length) && decide ((0 + es.length + 1) * 16 ≤ 140737488355328) then
      bif (es ++ [qp es 0]).length == 0 + es.length + 1 then some (iv (chk (((es ++ [qp es 0]).drop 0).take (0 + es.length + 1)))) else none else none else none else none
theorem qRing (f : Bool) (es : List PV) : runP Try.prog E35 60 58 [.lst f 23 es] =
  bif decide ((es.length : Int) < 3) then some (iv 2) else bif decide ((es.length : Int) ≥ 40) then some (iv 2) else ringT es := by kernel_rfl
theorem qRRing (f : Bool) (es : List PV) : runP Try.prog E35 60 59 [.lst f 23 es] =
  bif decide ((es.length : Int) < 3) then some (iv 2) else bif decide ((es.length : Int) ≥ 40) then some (iv 2) else ringT es := by kernel_rfl
theorem ringT_eq (es : List PV) : (bif decide ((es.length : Int) < 3) then some (iv 2) else bif decide ((es.length : Int) ≥ 40) then some (iv 2) else ringT es) = some (iv (rchk es)) := by
  unfold rchk
  by_cases h1 : (es.length : Int) < 3
  · rw [decide_eq_true h1]; rfl
  · by_cases h2 : (es.length : Int) ≥ 40
    · rw [decide_eq_false h1, decide_eq_true h2]; rfl
    · rw [decide_eq_false h1, decide_eq_false h2]
      unfold ringT
      have hl : (es ++ [qp es 0]).length = 0 + es.length + 1 := by simp
      rw [decide_eq_true (show (0 + es.length) * 16 ≤ 140737488355328 by omega), decide_eq_true (show 0 < (es.length : Int) by omega), decide_eq_true (show es.length = 0 + es.length by omega), decide_eq_true rfl, decide_eq_true (show (0 + es.length + 1) * 16 ≤ 140737488355328 by omega), List.drop_zero, ← hl, List.take_length]
      simp
def cRing : List PV → Option PV | [.lst _ 23 es] => some (iv (rchk es)) | _ => none
theorem oRing (args : List PV) (r : PV) (h : cRing args = some r) : Enters Try.prog 58 ∧ PCall Try.prog 58 args r := by
  unfold cRing at h; split at h
  · rename_i f es; cases h; exact runP_sound ok35 ((qRing f es).trans (ringT_eq es))
  · cases h
theorem oRRing (args : List PV) (r : PV) (h : cRing args = some r) : Enters Try.prog 59 ∧ PCall Try.prog 59 args r := by
  unfold cRing at h; split at h
  · rename_i f es; cases h; exact runP_sound ok35 ((qRRing f es).trans (ringT_eq es))
  · cases h
noncomputable def E36 : EnvK := (E35.addO 58 cRing).addO 59 cRing
theorem ok36 : EnvOK Try.prog E36.env := (ok35.addO oRing).addO oRRing
end Go.Hg
