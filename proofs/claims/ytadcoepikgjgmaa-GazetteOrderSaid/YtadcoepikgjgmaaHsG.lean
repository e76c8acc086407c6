/- Strings (gazette): small letters: both implementations; the order of names. -/
import Derived.Test.YtadcoepikgjgmaaHsE
namespace Go.Hs
open Go.Hx Go.Proofs
theorem sB_range (s : ByteArray) (i : Int) : 0 ≤ sB s i ∧ sB s i < 256 := by
  unfold sB; have := (s.data.getD i.toNat 0).toNat_lt; omega
theorem lowI_byte (b : UInt8) : UInt8.ofNat (lowI (b.toNat : Int)).toNat = lowB b := by
  have hb := b.toNat_lt
  unfold lowI lowB
  by_cases h1 : (b.toNat : Int) ≥ 65
  · rw [decide_eq_true h1, cond_true]
    by_cases h2 : (b.toNat : Int) ≤ 90
    · rw [decide_eq_true h2, cond_true, if_pos (by omega), B8_eq, B8_eq, show (((b.toNat : Int) - 65) % 256 + 97) % 256 = ((b.toNat + 32 : Nat) : Int) by omega, Int.toNat_natCast]
    · rw [decide_eq_false h2, cond_false, if_neg (by omega), Int.toNat_natCast]
      exact UInt8.ofNat_toNat
  · rw [decide_eq_false h1, cond_false, if_neg (by omega), Int.toNat_natCast]
    exact UInt8.ofNat_toNat
theorem lowJ_I {c : Int} (h : 0 ≤ c ∧ c < 256) : (bif decide (c ≥ 65) then bif decide (c ≤ 90) then lowJ c else c else c) = lowI c := by
  unfold lowI lowJ
  by_cases h1 : c ≥ 65
  · by_cases h2 : c ≤ 90
    · rw [decide_eq_true h1, decide_eq_true h2, B8_eq, B8_eq, B8_eq, B8_eq]; simp only [cond_true]; omega
    · rw [decide_eq_false h2]; rfl
  · rw [decide_eq_false h1]; rfl
/-- The string of a list of bytes. -/
theorem strB_eq {es : List PV} {l : List UInt8} (hl : es.length = l.length) (h : ∀ j (hj : j < l.length), UInt8.ofNat (eB es (j : Int)).toNat = l[j]) : strB es = ⟨l.toArray⟩ := by
  unfold strB Go.strOfNums
  congr 2
  rw [List.map_map]
  refine List.ext_getElem (by simpa using hl) fun j h1 h2 => ?_
  rw [List.getElem_map]
  have := h j h2
  rw [← this]
  have hj : j < es.length := by omega
  show UInt8.ofNat (((es[j]).cellAt 0).getI).toNat = _
  unfold eB
  rw [Int.toNat_natCast, List.getD_eq_getElem?_getD, List.getElem?_eq_getElem hj]; rfl
theorem outF_at (s : ByteArray) : ∀ (m : Nat) (i : Int) (j : Nat), j < m → eB (outF s i m) (j : Int) = lowI (sB s (i + j))
  | 0, _, _, h => by omega
  | m + 1, i, 0, _ => by
    rw [show i + ((0 : Nat) : Int) = i by omega]; rfl
  | m + 1, i, j + 1, h => by
    have := outF_at s m (i + 1) j (by omega)
    rw [show i + ((j + 1 : Nat) : Int) = i + 1 + (j : Int) by omega, ← this]
    unfold eB
    rw [Int.toNat_natCast, Int.toNat_natCast]; rfl
theorem lowE_at (es : List PV) (i : Int) (h0 : 0 ≤ i) (h1 : i < (es.length : Int)) (hb : ∀ j : Nat, j < es.length → 0 ≤ eB es j ∧ eB es j < 256) (j : Nat) (hj : j < es.length) : eB (lowE es i) (j : Int) = if (j : Int) = i then lowI (eB es i) else eB es j := by
  have hI := lowJ_I (c := eB es i) (by have := hb i.toNat (by omega); rwa [show (i.toNat : Int) = i by omega] at this)
  have set : ∀ c, eB (es.set (0 + i.toNat) (cv c)) (j : Int) = if (j : Int) = i then c else eB es j := fun c => by
    unfold eB
    rw [Int.toNat_natCast, Nat.zero_add, List.getD_eq_getElem?_getD, List.getElem?_set]
    by_cases hji : (j : Int) = i
    · rw [if_pos hji, if_pos (by omega), if_pos (by omega)]; rfl
    · rw [if_neg hji, if_neg (by omega), ← List.getD_eq_getElem?_getD]
  unfold lowE
  rw [eR_eq]
  revert hI
  cases decide (eB es i ≥ 65) with
  | false => intro hI; simp only [cond_false] at hI ⊢; by_cases hji : (j : Int) = i
             · rw [if_pos hji, ← hI, hji]
             · rw [if_neg hji]
  | true =>
    cases decide (eB es i ≤ 90) with
    | false => intro hI; simp only [cond_true, cond_false] at hI ⊢; by_cases hji : (j : Int) = i
               · rw [if_pos hji, ← hI, hji]
               · rw [if_neg hji]
    | true => intro hI; simp only [cond_true] at hI ⊢; rw [set, hI]
theorem lowI_range {c : Int} (h : 0 ≤ c ∧ c < 256) : 0 ≤ lowI c ∧ lowI c < 256 := by
  rw [← lowJ_I h]; unfold lowJ; rw [B8_eq, B8_eq]
  cases decide (c ≥ 65) <;> cases decide (c ≤ 90) <;> simp only [cond_true, cond_false] <;> omega
theorem lowF_at : ∀ (m : Nat) (es : List PV) (i : Int), 0 ≤ i → i + m ≤ (es.length : Int) → (∀ j : Nat, j < es.length → 0 ≤ eB es j ∧ eB es j < 256) → ∀ j : Nat, j < es.length →
    eB (lowF es i m) (j : Int) = if i ≤ (j : Int) ∧ (j : Int) < i + m then lowI (eB es j) else eB es j
  | 0, es, i, _, _, _, j, _ => by rw [if_neg (by omega)]; rfl
  | m + 1, es, i, h0, h1, hb, j, hj => by
    have hE := lowE_at es i h0 (by omega) hb
    rw [lowF, lowF_at m (lowE es i) (i + 1) (by omega) (by rw [lowE_len]; omega) (fun k hk => by
      rw [lowE_len] at hk
      rw [hE k hk]
      split
      · exact lowI_range (by have := hb i.toNat (by omega); rwa [show (i.toNat : Int) = i by omega] at this)
      · exact hb k hk) j (by rw [lowE_len]; exact hj), hE j hj]
    by_cases hji : (j : Int) = i
    · rw [if_neg (by omega), if_pos hji, if_pos (by omega), hji]
    · rw [if_neg hji]
      by_cases hr : i + 1 ≤ (j : Int) ∧ (j : Int) < i + 1 + m
      · rw [if_pos hr, if_pos (by omega)]
      · rw [if_neg hr, if_neg (by omega)]
theorem bl_len (s : ByteArray) : (bl s).length = s.size := by simp only [bl, Array.length_toList]; rfl
theorem sB_bl (s : ByteArray) (j : Nat) (hj : j < (bl s).length) : sB s (j : Int) = ((bl s)[j].toNat : Int) := by
  unfold sB
  rw [Int.toNat_natCast, Array.getD_eq_getD_getElem?, ← Array.getElem?_toList, List.getElem?_eq_getElem (show j < s.data.toList.length from hj)]; rfl
theorem strB_low (s : ByteArray) : strB (lowF (bytesL s) 0 s.size) = fold s := by
  have hl := bytesL_len s
  have hbl := bl_len s
  refine strB_eq (by rw [lowF_len, hl, List.length_map, hbl]) fun j hj => ?_
  rw [List.length_map] at hj
  have hb : ∀ k : Nat, k < (bytesL s).length → 0 ≤ eB (bytesL s) k ∧ eB (bytesL s) k < 256 := fun k hk => by
    rw [bytesL_at s k (by omega) (by omega)]; exact sB_range s k
  rw [lowF_at s.size (bytesL s) 0 (by omega) (by omega) hb j (by omega), if_pos (by omega), bytesL_at s j (by omega) (by omega), sB_bl s j hj, lowI_byte, List.getElem_map]
theorem strB_out (s : ByteArray) : strB (outF s 0 s.size) = fold s := by
  have hbl := bl_len s
  refine strB_eq (by rw [outF_len, List.length_map, hbl]) fun j hj => ?_
  rw [List.length_map] at hj
  rw [outF_at s s.size 0 j (by omega), Int.zero_add, sB_bl s j hj, lowI_byte, List.getElem_map]
theorem qFold' (s : ByteArray) (hs : bigS s = true) : runP Try.prog E9 40 15 [sv s] = some (sv (fold s)) := by
  have hs' := of_decide_eq_true hs
  rw [qFold, show ((s.size : Int) - 0).toNat = s.size by omega, show pF (lF s.size s.size s.size s.size (s.size : Int) 0 false (bytesL s)) = true by simp [pF, bytesL_len]; exact hs', cond_true, lowF_len, bytesL_len]
  rw [beq_self_eq_true, List.drop_zero, List.take_of_length_le (by rw [lowF_len, bytesL_len]; exact Nat.le_refl _), strB_low]; rfl
theorem qRFold' (s : ByteArray) (hs : bigS s = true) : runP Try.prog E11 40 16 [sv s] = some (sv (fold s)) := by
  have hs' := of_decide_eq_true hs
  rw [qRFold, show ((s.size : Int) - 0).toNat = s.size by omega, show pG (lG s 0 0 0 true []) = true by simp [pG]; exact hs', cond_true, List.nil_append, outF_len, Nat.zero_add]
  rw [beq_self_eq_true, List.drop_zero, List.take_of_length_le (by rw [outF_len]; exact Nat.le_refl _), strB_out]; rfl
def cFold : List PV → Option (DT PV) | [.val (.string s)] => some (.br (bigS s) (.leaf (sv (fold s))) .no) | _ => none
theorem oFold (args : List PV) (d : DT PV) (r : PV) (h : cFold args = some d) (hr : d.run = some r) : PCall Try.prog 15 args r := by
  unfold cFold at h; split at h
  · rename_i s; cases h; obtain ⟨h1, rfl⟩ := run_br1 hr; exact (runP_sound ok9 (qFold' s h1)).2
  · cases h
theorem oRFold (args : List PV) (d : DT PV) (r : PV) (h : cFold args = some d) (hr : d.run = some r) : PCall Try.prog 16 args r := by
  unfold cFold at h; split at h
  · rename_i s; cases h; obtain ⟨h1, rfl⟩ := run_br1 hr; exact (runP_sound ok11 (qRFold' s h1)).2
  · cases h
theorem eFold : Enters Try.prog 15 := (runP_sound ok9 (qFold' .empty rfl)).1
theorem eRFold : Enters Try.prog 16 := (runP_sound ok11 (qRFold' .empty rfl)).1
noncomputable def E12 : EnvK := (E8.addF 15 cFold).addF 16 cFold
theorem ok12 : EnvOK Try.prog E12.env := (ok8.addF eFold oFold).addF eRFold oRFold
/-! The order. -/
open Go.Extern.BytealgCompare in
theorem qCmp (a b : ByteArray) : runP Try.prog E12 40 29 [sv a, sv b] = bif bigS a then bif bigS b then
  bif cmp (fold a) (fold b) != 0 then some (iv (cmp (fold a) (fold b))) else bif cmp a b != 0 then some (iv (cmp a b)) else some (iv 0) else none else none := by kernel_rfl
theorem qCmp' (a b : ByteArray) (ha : bigS a = true) (hb : bigS b = true) : runP Try.prog E12 40 29 [sv a, sv b] = some (iv (cmpN a b)) := by
  rw [qCmp, ha, hb, Lib.cmp_eq, Lib.cmp_eq]
  unfold cmpN
  simp only [cond_true]
  by_cases h1 : Lib.compareBytes (bl (fold a)) (bl (fold b)) = 0
  · rw [if_pos h1, h1]
    by_cases h2 : Lib.compareBytes (bl a) (bl b) = 0
    · rw [h2]; rfl
    · rw [show (Lib.compareBytes (bl a) (bl b) != 0) = true by simpa using h2]; rfl
  · rw [if_neg h1, show (Lib.compareBytes (bl (fold a)) (bl (fold b)) != 0) = true by simpa using h1]; rfl
def cCmp : List PV → Option (DT PV) | [.val (.string a), .val (.string b)] => some (.br (bigS a && bigS b) (.leaf (iv (cmpN a b))) .no) | _ => none
theorem oCmp (args : List PV) (d : DT PV) (r : PV) (h : cCmp args = some d) (hr : d.run = some r) : PCall Try.prog 29 args r := by
  unfold cCmp at h; split at h
  · rename_i a b; cases h; obtain ⟨h1, rfl⟩ := run_br1 hr; rw [Bool.and_eq_true] at h1; exact (runP_sound ok12 (qCmp' a b h1.1 h1.2)).2
  · cases h
theorem eCmp : Enters Try.prog 29 := (runP_sound ok12 (qCmp' .empty .empty rfl rfl)).1
noncomputable def E13 : EnvK := E12.addF 29 cCmp
theorem ok13 : EnvOK Try.prog E13.env := ok12.addF eCmp oCmp
theorem qLess (a b : ByteArray) : runP Try.prog E13 40 17 [sv a, sv b] = bif bigS a && bigS b then some (bv (decide (cmpN a b < 0))) else none := by kernel_rfl
theorem qRLess (a b : ByteArray) : runP Try.prog E13 40 18 [sv a, sv b] = bif bigS a then bif bigS b then
  bif !((fold a).toList == (fold b).toList) then some (bv (Op.bytesLess (fold a).toList (fold b).toList)) else some (bv (Op.bytesLess a.toList b.toList)) else none else none := by kernel_rfl
theorem qRLess' (a b : ByteArray) (ha : bigS a = true) (hb : bigS b = true) : runP Try.prog E13 40 18 [sv a, sv b] = some (bv (decide (cmpN a b < 0))) := by
  rw [qRLess, ha, hb, less_cb, less_cb, toL, toL]
  unfold cmpN
  simp only [cond_true]
  by_cases h1 : Lib.compareBytes (bl (fold a)) (bl (fold b)) = 0
  · rw [if_pos h1, show (bl (fold a) == bl (fold b)) = true by rw [beq_iff_eq]; exact (cb_zero _ _).1 h1]; rfl
  · rw [if_neg h1, show (bl (fold a) == bl (fold b)) = false by rw [beq_eq_false_iff_ne]; exact fun t => h1 ((cb_zero _ _).2 t)]; rfl
def cLess : List PV → Option (DT PV) | [.val (.string a), .val (.string b)] => some (.br (bigS a && bigS b) (.leaf (bv (decide (cmpN a b < 0)))) .no) | _ => none
theorem oLess (args : List PV) (d : DT PV) (r : PV) (h : cLess args = some d) (hr : d.run = some r) : PCall Try.prog 17 args r := by
  unfold cLess at h; split at h
  · rename_i a b; cases h; obtain ⟨h1, rfl⟩ := run_br1 hr; exact (runP_sound ok13 (by rw [qLess, h1]; rfl)).2
  · cases h
theorem oRLess (args : List PV) (d : DT PV) (r : PV) (h : cLess args = some d) (hr : d.run = some r) : PCall Try.prog 18 args r := by
  unfold cLess at h; split at h
  · rename_i a b; cases h; obtain ⟨h1, rfl⟩ := run_br1 hr; rw [Bool.and_eq_true] at h1; exact (runP_sound ok13 (qRLess' a b h1.1 h1.2)).2
  · cases h
theorem eLess : Enters Try.prog 17 := (runP_sound ok13 (n := 40) (args := [sv .empty, sv .empty]) (p := bv false) (by rw [qLess]; rfl)).1
theorem eRLess : Enters Try.prog 18 := (runP_sound ok13 (qRLess' .empty .empty rfl rfl)).1
noncomputable def E14 : EnvK := (E13.addF 17 cLess).addF 18 cLess
theorem ok14 : EnvOK Try.prog E14.env := (ok13.addF eLess oLess).addF eRLess oRLess
end Go.Hs
