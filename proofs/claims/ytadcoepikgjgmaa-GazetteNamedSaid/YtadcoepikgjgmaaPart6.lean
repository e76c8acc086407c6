/- Strings (gazette): GazetteNamed: the loop over the names as a contract, and the law as a plain function. -/
import Derived.Test.YtadcoepikgjgmaaPart5
import Derived.Test.YtadcoepikgjgmaaRows
import Derived.Test.YtadcoepikgjgmaaPart4
namespace Go.Hs
open Go.Hx Go.Proofs
def chkN (es F Y Q : List PV) (s : ByteArray) : Bool := sameI (namQ F Y Q s) (wanA s es es.length)
def allN (es F Y Q nm : List PV) (k : Int) : Nat → Bool
  | 0 => true
  | m + 1 => chkN es F Y Q (sNm nm k) && allN es F Y Q nm (k + 1) m
theorem namL_len (F Y Q : List PV) (s : ByteArray) : (namL F Y Q s).length ≤ F.length + Y.length + Q.length := by
  unfold namL
  rw [srtI_length, List.length_append, List.length_append]
  have h1 := idsN_len 2 s F ((F.length : Int) - 0).toNat 0
  have h2 := idsN_len 4 s Y ((Y.length : Int) - 0).toNat 0
  have h3 := idsN_len 4 s Q ((Q.length : Int) - 0).toNat 0
  unfold n1 n2; omega
theorem namQ_len (F Y Q : List PV) (s : ByteArray) : (namQ F Y Q s).length ≤ F.length + Y.length + Q.length := by
  unfold namQ
  cases s.toList == (ByteArray.mk #[]).toList with
  | true => exact Nat.zero_le _
  | false => exact namL_len F Y Q s
def pL8 : LS → Bool
  | ([.n n, .n l, .b _, .n nn, .n ln, .i len, .i k], [.l _ es, .n a, .n b, .n c, .n d, .n e, .n f, .l _ nm, .l _ F, .l _ Y, .l _ Q]) =>
    decide (n = es.length ∧ l = es.length ∧ nn = nm.length ∧ ln = nm.length ∧ len = (nm.length : Int) ∧ a = F.length ∧ b = F.length ∧ c = Y.length ∧ d = Y.length ∧ e = Q.length ∧ f = Q.length) && decide (0 ≤ k ∧ k ≤ len ∧ es.length ≤ 1000 ∧ nm.length ≤ 10000 ∧ F.length ≤ 1000 ∧ Y.length ≤ 1000 ∧ Q.length ≤ 1000)
  | _ => false
noncomputable def fL8 : LS → DT (PX × List PV × List Row)
  | ([.n _, .n _, .b ok, .n _, .n _, .i len, .i k], [.l z es, .n a, .n b, .n c, .n d, .n e, .n f, .l b1 nm, .l b2 F, .l b3 Y, .l b4 Q]) =>
    .br (allN es F Y Q nm k (len - k).toNat) (.leaf (xL8 ok z es a b c d e f b1 nm b2 F b3 Y b4 Q)) (.leaf (rL8 ok z es a b c d e f b1 nm b2 F b3 Y b4 Q))
  | _ => .no
def mL8 : LS → Nat
  | ([.n _, .n _, .b _, .n _, .n _, .i len, .i k], [.l _ _, .n _, .n _, .n _, .n _, .n _, .n _, .l _ _, .l _ _, .l _ _, .l _ _]) => (len - k).toNat
  | _ => 0
theorem sL8 : ∀ s r, pL8 s = true → (fL8 s).run = some r → r.1 ≠ .normal ∧ (runB Try.prog EL3 60 8 (lpb Try.f8 17) [0, 5, 6, 67, 68, 69] [4, 5] (shL8.put s).1 (shL8.put s).2 = some r ∨
      ∃ s', runB Try.prog EL3 60 8 (lpb Try.f8 17) [0, 5, 6, 67, 68, 69] [4, 5] (shL8.put s).1 (shL8.put s).2 = some (.normal, shL8.put s') ∧ pL8 s' = true ∧ mL8 s' < mL8 s ∧ (fL8 s').run = some r) := by
  intro t r hp hr
  unfold pL8 at hp; split at hp
  · rename_i n l ok nn ln len k z es a b c d e f b1 nm b2 F b3 Y b4 Q
    simp only [Bool.and_eq_true, decide_eq_true_eq] at hp
    obtain ⟨⟨rfl, rfl, rfl, rfl, rfl, rfl, rfl, rfl, rfl, rfl, rfl⟩, h2, h3, h4, h5, h6, h7, h8⟩ := hp
    have hr' := run_br2 hr
    refine ⟨by rw [hr']; cases allN es F Y Q nm k ((nm.length : Int) - k).toNat <;> simp, ?_⟩
    rw [show shL8.put ([.n es.length, .n es.length, .b ok, .n nm.length, .n nm.length, .i (nm.length : Int), .i k], [.l z es, .n F.length, .n F.length, .n Y.length, .n Y.length, .n Q.length, .n Q.length, .l b1 nm, .l b2 F, .l b3 Y, .l b4 Q]) =
      shL8.put (lL8 es.length es.length ok nm.length nm.length (nm.length : Int) k z es F.length F.length Y.length Y.length Q.length Q.length b1 nm b2 F b3 Y b4 Q) from rfl, qL8]
    by_cases hi : k < (nm.length : Int)
    · have k1 : pL7 (lL7 es.length es.length ok (sNm nm k) 0 0 nm.length nm.length (nm.length : Int) k es.length es.length (es.length : Int) 0 z es F.length F.length Y.length Y.length Q.length Q.length b1 nm b2 F b3 Y b4 Q true []) = true := by
        simp [pL7]; omega
      have k2 : okN F Y Q F.length F.length Y.length Y.length Q.length Q.length = true := by
        simp only [okN, decide_eq_true_eq]; exact ⟨trivial, trivial, trivial, trivial, trivial, trivial, by omega, by omega, by omega⟩
      have k3 : big (namQ F Y Q (sNm nm k)) = true := by
        have := namQ_len F Y Q (sNm nm k)
        unfold big; simp; omega
      rw [decide_eq_true hi, cond_true, ixR_of rfl h2 hi, ldR_of rfl, k1, cond_true, ldR_of rfl, ldR_of rfl, ldR_of rfl, k2, cond_true, ldR_of rfl, k3, cond_true, W_id (by omega) (by omega), List.drop_zero, List.take_length]
      obtain ⟨x, hx⟩ : ∃ x, ((nm.length : Int) - k).toNat = x + 1 := ⟨((nm.length : Int) - k).toNat - 1, by omega⟩
      have hx2 : ((nm.length : Int) - (k + 1)).toNat = x := by omega
      rw [hx] at hr'
      simp only [allN] at hr'
      cases hc : sameI (namQ F Y Q (sNm nm k)) (wanA (sNm nm k) es es.length) with
      | false =>
        rw [show chkN es F Y Q (sNm nm k) = false from hc, Bool.false_and] at hr'
        exact .inl (by rw [hr']; rfl)
      | true =>
        rw [show chkN es F Y Q (sNm nm k) = true from hc, Bool.true_and] at hr'
        refine .inr ⟨lL8 es.length es.length ok nm.length nm.length (nm.length : Int) (k + 1) z es F.length F.length Y.length Y.length Q.length Q.length b1 nm b2 F b3 Y b4 Q, rfl, by simp [pL8]; omega, by simp only [mL8]; omega, ?_⟩
        rw [hr']
        simp only [fL8, hx2]
        cases allN es F Y Q nm (k + 1) x <;> rfl
    · rw [decide_eq_false hi]
      rw [show ((nm.length : Int) - k).toNat = 0 by omega] at hr'
      exact .inl (by rw [hr']; rfl)
  · cases hp
noncomputable def EL4 : EnvK := EL3.addW 8 17 [0, 5, 6, 67, 68, 69] [] shL8 pL8 fL8
theorem okL4 : EnvOK Try.prog EL4.env :=
  okL3.addW (n := 60) Try.func8 (show Try.f8.body = some (bod Try.f8) by kernel_rfl) (show (loops (bod Try.f8)).filter (fun b => rid b == 17) = [lpb Try.f8 17] by kernel_rfl) [0, 5, 6, 67, 68, 69] [4, 5] [] shL8 mL8 sL8
end Go.Hs
/- Strings (gazette): GazetteNamed as a plain function. -/
namespace Go.Hs
open Go.Hx Go.Proofs
noncomputable def namT (r : List PV) (p : ByteArray) : Option PV :=
  bif r.length == 0 then bif allN [] [] [] [] [sv (cutS p), sv em] 0 2 then some (bv true) else some (bv false) else
  bif pL6 (lL6 r.length r.length true 2 2 r.length r.length (r.length : Int) 0 false r 0 0 0 0 0 0 false [sv (cutS p), sv em] true [] true [] true []) then
  bif pL8 (lL8 r.length r.length true ([sv (cutS p), sv em] ++ nmL r 0 ((r.length : Int) - 0).toNat).length ([sv (cutS p), sv em] ++ nmL r 0 ((r.length : Int) - 0).toNat).length (([sv (cutS p), sv em] ++ nmL r 0 ((r.length : Int) - 0).toNat).length : Int) 0 false r
    ([] ++ fL r 0 ((r.length : Int) - 0).toNat).length ([] ++ fL r 0 ((r.length : Int) - 0).toNat).length ([] ++ yL r 0 ((r.length : Int) - 0).toNat).length ([] ++ yL r 0 ((r.length : Int) - 0).toNat).length ([] ++ qL r 0 ((r.length : Int) - 0).toNat).length ([] ++ qL r 0 ((r.length : Int) - 0).toNat).length
    false ([sv (cutS p), sv em] ++ nmL r 0 ((r.length : Int) - 0).toNat) true ([] ++ fL r 0 ((r.length : Int) - 0).toNat) true ([] ++ yL r 0 ((r.length : Int) - 0).toNat) true ([] ++ qL r 0 ((r.length : Int) - 0).toNat)) then
  bif allN r ([] ++ fL r 0 ((r.length : Int) - 0).toNat) ([] ++ yL r 0 ((r.length : Int) - 0).toNat) ([] ++ qL r 0 ((r.length : Int) - 0).toNat) ([sv (cutS p), sv em] ++ nmL r 0 ((r.length : Int) - 0).toNat) 0 ((([sv (cutS p), sv em] ++ nmL r 0 ((r.length : Int) - 0).toNat).length : Int) - 0).toNat
    then some (bv true) else some (bv false) else none else none
theorem qNamL (f : Bool) (L : List PV) (p : ByteArray) : runP Try.prog EL4 80 8 [.lst f 36 L, sv p] = namT ([] ++ plsL L 0 (mn10 L - 0)) p := by kernel_rfl
end Go.Hs
/- Strings (gazette): GazetteNamed answers true. -/
namespace Go.Hs
open Go.Hx Go.Proofs
/-- The numbers from k on, m of them, for which q holds. -/
def selI (q : Int → Bool) (k : Int) : Nat → List Int
  | 0 => []
  | m + 1 => bif q k then k :: selI q (k + 1) m else selI q (k + 1) m
theorem selI_ge (q : Int → Bool) : ∀ (m : Nat) (k x : Int), x ∈ selI q k m → k ≤ x
  | 0, _, _, h => by cases h
  | m + 1, k, x, h => by
    simp only [selI] at h
    cases hq : q k with
    | true =>
      rw [hq] at h
      rcases List.mem_cons.1 h with rfl | h
      · exact Int.le_refl _
      · have := selI_ge q m (k + 1) x h; omega
    | false => rw [hq] at h; have := selI_ge q m (k + 1) x h; omega
theorem selI_sorted (q : Int → Bool) : ∀ (m : Nat) (k : Int), (selI q k m).Pairwise (· ≤ ·)
  | 0, _ => .nil
  | m + 1, k => by
    simp only [selI]
    cases q k with
    | true => exact .cons (fun x hx => by have := selI_ge q m (k + 1) x hx; omega) (selI_sorted q m (k + 1))
    | false => exact selI_sorted q m (k + 1)
theorem selI_false (q : Int → Bool) (h : ∀ k, q k = false) : ∀ (m : Nat) (k : Int), selI q k m = []
  | 0, _ => rfl
  | m + 1, k => by simp only [selI, h k, cond_false]; exact selI_false q h m (k + 1)
theorem selI_parts (h : Int → Bool) : ∀ (m : Nat) (k : Int),
    (selI (fun k => !(k.tmod 3 == 0) && (k.tmod 3 == 1) && h k) k m ++ selI (fun k => (k.tmod 3 == 0) && h k) k m ++ selI (fun k => !(k.tmod 3 == 0) && !(k.tmod 3 == 1) && h k) k m).Perm (selI h k m)
  | 0, _ => .refl _
  | m + 1, k => by
    have ih := selI_parts h m (k + 1)
    simp only [selI]
    cases h k with
    | false => simpa using ih
    | true =>
      cases c0 : k.tmod 3 == 0 with
      | true =>
        simp only [Bool.not_true, Bool.false_and, Bool.true_and, cond_false, cond_true]
        refine List.Perm.trans ?_ (ih.cons k)
        rw [List.append_assoc, List.append_assoc]
        exact List.perm_middle
      | false =>
        cases c1 : k.tmod 3 == 1 with
        | true =>
          simp only [Bool.not_true, Bool.not_false, Bool.and_false, Bool.true_and, Bool.false_and, cond_false, cond_true, List.cons_append]
          exact ih.cons k
        | false =>
          simp only [Bool.not_false, Bool.and_false, Bool.true_and, Bool.false_and, cond_false, cond_true]
          exact List.perm_middle.trans (ih.cons k)
/-- The Ids of those with a name, as a filter. -/
theorem idsN_filter (c : Nat) (s : ByteArray) (L : List PV) : ∀ (m i : Nat), i + m = L.length → idsN c s L (i : Int) m = ((L.drop i).filter (isN c s)).map fun e => iv (idN e)
  | 0, i, h => by rw [List.drop_of_length_le (by omega)]; rfl
  | m + 1, i, h => by
    rw [List.drop_eq_getElem_cons (by omega), idsN, show (i : Int) + 1 = ((i + 1 : Nat) : Int) by omega, idsN_filter c s L m (i + 1) (by omega)]
    have e : rE L (i : Int) = L[i] := by unfold rE; rw [Int.toNat_natCast, Nat.zero_add, List.getD_eq_getElem?_getD, List.getElem?_eq_getElem (by omega)]; rfl
    rw [e, List.filter_cons]
    cases isN c s L[i] with
    | true => rfl
    | false => rfl
theorem nums_map (l : List PV) (g : PV → Int) : nums (l.map fun e => iv (g e)) = l.map g := by
  unfold nums; rw [List.map_map]; rfl
theorem fL_ids (s : ByteArray) (r : List PV) : ∀ (m : Nat) (k : Int), ((fL r k m).filter (isN 2 s)).map idN = selI (fun k => !(k.tmod 3 == 0) && (k.tmod 3 == 1) && ((pNm (rE r k)).toList == s.toList)) k m
  | 0, _ => rfl
  | m + 1, k => by
    have ih := fL_ids s r m (k + 1)
    simp only [fL, selI]
    cases k.tmod 3 == 0 with
    | true => simpa using ih
    | false =>
      cases k.tmod 3 == 1 with
      | false => simpa using ih
      | true =>
        simp only [Bool.not_false, Bool.true_and, cond_false, cond_true]
        rw [List.filter_cons, show isN 2 s (mkF k (pNm (rE r k))) = ((pNm (rE r k)).toList == s.toList) from rfl]
        cases (pNm (rE r k)).toList == s.toList with
        | true => simp only [cond_true, if_true, List.map_cons]; rw [ih]; rfl
        | false => simpa using ih
theorem yL_ids (s : ByteArray) (r : List PV) : ∀ (m : Nat) (k : Int), ((yL r k m).filter (isN 4 s)).map idN = selI (fun k => (k.tmod 3 == 0) && ((pNm (rE r k)).toList == s.toList)) k m
  | 0, _ => rfl
  | m + 1, k => by
    have ih := yL_ids s r m (k + 1)
    simp only [yL, selI]
    cases k.tmod 3 == 0 with
    | false => simpa using ih
    | true =>
      simp only [Bool.true_and, cond_true]
      rw [List.filter_cons, show isN 4 s (mkY k (pNm (rE r k))) = ((pNm (rE r k)).toList == s.toList) from rfl]
      cases (pNm (rE r k)).toList == s.toList with
      | true => simp only [cond_true, if_true, List.map_cons]; rw [ih]; rfl
      | false => simpa using ih
theorem qL_ids (s : ByteArray) (r : List PV) : ∀ (m : Nat) (k : Int), ((qL r k m).filter (isN 4 s)).map idN = selI (fun k => !(k.tmod 3 == 0) && !(k.tmod 3 == 1) && ((pNm (rE r k)).toList == s.toList)) k m
  | 0, _ => rfl
  | m + 1, k => by
    have ih := qL_ids s r m (k + 1)
    simp only [qL, selI]
    cases k.tmod 3 == 0 with
    | true => simpa using ih
    | false =>
      cases k.tmod 3 == 1 with
      | true => simpa using ih
      | false =>
        simp only [Bool.not_false, Bool.true_and, cond_false]
        rw [List.filter_cons, show isN 4 s (pl k 0 0 em (pNm (rE r k)) 0 0) = ((pNm (rE r k)).toList == s.toList) from rfl]
        cases (pNm (rE r k)).toList == s.toList with
        | true => simp only [cond_true, if_true, List.map_cons]; rw [ih]; rfl
        | false => simpa using ih
theorem wanL_sel (s : ByteArray) (r : List PV) (hs : (s.toList == em.toList) = false) : ∀ (m : Nat) (k : Int), wanL s r k m = (selI (fun k => (pNm (rE r k)).toList == s.toList) k m).map iv
  | 0, _ => rfl
  | m + 1, k => by
    have ih := wanL_sel s r hs m (k + 1)
    simp only [wanL, selI, hs, Bool.not_false, cond_true]
    cases (pNm (rE r k)).toList == s.toList with
    | true => simp only [cond_true, List.map_cons]; rw [ih]
    | false => simpa using ih
theorem wanL_em (s : ByteArray) (r : List PV) (hs : (s.toList == em.toList) = true) : ∀ (m : Nat) (k : Int), wanL s r k m = []
  | 0, _ => rfl
  | m + 1, k => by
    have ih := wanL_em s r hs m (k + 1)
    simp only [wanL, hs, Bool.not_true, cond_false]
    cases (pNm (rE r k)).toList == s.toList <;> simpa using ih
theorem n_all (c : Nat) (L : List PV) (s : ByteArray) : idsN c s L 0 ((L.length : Int) - 0).toNat = (L.filter (isN c s)).map fun e => iv (idN e) := by
  rw [show ((L.length : Int) - 0).toNat = L.length by omega]
  have := idsN_filter c s L L.length 0 (by omega)
  simpa using this
theorem mem_iv {l : List PV} {g : PV → Int} : (l.map fun e => iv (g e)) = (l.map g).map iv := by rw [List.map_map]; rfl
theorem chkN_true (r : List PV) (s : ByteArray) : chkN r ([] ++ fL r 0 ((r.length : Int) - 0).toNat) ([] ++ yL r 0 ((r.length : Int) - 0).toNat) ([] ++ qL r 0 ((r.length : Int) - 0).toNat) s = true := by
  unfold chkN
  have e : namQ ([] ++ fL r 0 ((r.length : Int) - 0).toNat) ([] ++ yL r 0 ((r.length : Int) - 0).toNat) ([] ++ qL r 0 ((r.length : Int) - 0).toNat) s = wanA s r r.length := by
    simp only [List.nil_append, wanA, namQ]
    cases hs : s.toList == em.toList with
    | true => rw [wanL_em s r hs]; rfl
    | false =>
      rw [wanL_sel s r hs, cond_false]
      unfold namL n1 n2
      rw [n_all, n_all, n_all]
      unfold srtI
      congr 1
      have h1 : nums (((fL r 0 ((r.length : Int) - 0).toNat).filter (isN 2 s)).map (fun e => iv (idN e)) ++ ((yL r 0 ((r.length : Int) - 0).toNat).filter (isN 4 s)).map (fun e => iv (idN e)) ++ ((qL r 0 ((r.length : Int) - 0).toNat).filter (isN 4 s)).map fun e => iv (idN e)) =
          selI (fun k => !(k.tmod 3 == 0) && (k.tmod 3 == 1) && ((pNm (rE r k)).toList == s.toList)) 0 ((r.length : Int) - 0).toNat ++ selI (fun k => (k.tmod 3 == 0) && ((pNm (rE r k)).toList == s.toList)) 0 ((r.length : Int) - 0).toNat ++ selI (fun k => !(k.tmod 3 == 0) && !(k.tmod 3 == 1) && ((pNm (rE r k)).toList == s.toList)) 0 ((r.length : Int) - 0).toNat := by
        have hn : ∀ a b : List PV, nums (a ++ b) = nums a ++ nums b := fun a b => by simp [nums]
        rw [hn, hn, nums_map, nums_map, nums_map, fL_ids, yL_ids, qL_ids]
      rw [h1]
      have hp := selI_parts (fun k => (pNm (rE r k)).toList == s.toList) ((r.length : Int) - 0).toNat 0
      refine List.Perm.eq_of_pairwise (le := fun a b : Int => a ≤ b) (fun a b _ _ h1 h2 => Int.le_antisymm h1 h2) ?_ (selI_sorted _ _ _) ((List.mergeSort_perm _ _).trans hp)
      have := List.pairwise_mergeSort (le := fun x y : Int => decide (x ≤ y)) (fun a b c h1 h2 => by simp only [decide_eq_true_eq] at *; omega) (fun a b => by simp only [Bool.or_eq_true, decide_eq_true_eq]; omega)
        (selI (fun k => !(k.tmod 3 == 0) && (k.tmod 3 == 1) && ((pNm (rE r k)).toList == s.toList)) 0 ((r.length : Int) - 0).toNat ++ selI (fun k => (k.tmod 3 == 0) && ((pNm (rE r k)).toList == s.toList)) 0 ((r.length : Int) - 0).toNat ++ selI (fun k => !(k.tmod 3 == 0) && !(k.tmod 3 == 1) && ((pNm (rE r k)).toList == s.toList)) 0 ((r.length : Int) - 0).toNat)
      exact this.imp fun h => by simpa using h
  rw [e, sameI_self]
theorem allN_true {r F Y Q nm : List PV} (h : ∀ s, chkN r F Y Q s = true) : ∀ (m : Nat) (k : Int), allN r F Y Q nm k m = true
  | 0, _ => rfl
  | m + 1, k => by rw [allN, h, allN_true h m]; rfl
theorem parts_len (r : List PV) : ∀ (m : Nat) (k : Int), (nmL r k m).length = m ∧ (fL r k m).length ≤ m ∧ (yL r k m).length ≤ m ∧ (qL r k m).length ≤ m
  | 0, _ => ⟨rfl, Nat.le_refl _, Nat.le_refl _, Nat.le_refl _⟩
  | m + 1, k => by
    obtain ⟨h1, h2, h3, h4⟩ := parts_len r m (k + 1)
    simp only [nmL, fL, yL, qL]
    cases k.tmod 3 == 0 <;> cases k.tmod 3 == 1 <;> simp <;> omega
theorem namT_eq {r : List PV} (hr : r.length ≤ 10) (p : ByteArray) : namT r p = some (bv true) := by
  unfold namT
  cases h0 : r.length == 0 with
  | true =>
    have hr0 : r = [] := by simpa using h0
    have := allN_true (r := []) (F := []) (Y := []) (Q := []) (nm := [sv (cutS p), sv em]) (fun s => chkN_true [] s) 2 0
    rw [cond_true, this]; rfl
  | false =>
    obtain ⟨h1, h2, h3, h4⟩ := parts_len r ((r.length : Int) - 0).toNat 0
    rw [cond_false, allN_true (chkN_true r)]
    have k1 : pL6 (lL6 r.length r.length true 2 2 r.length r.length (r.length : Int) 0 false r 0 0 0 0 0 0 false [sv (cutS p), sv em] true [] true [] true []) = true := by
      simp [pL6]; omega
    rw [k1, cond_true]
    have k2 : ∀ (nm F Y Q : List PV), nm.length ≤ 10000 → F.length ≤ 1000 → Y.length ≤ 1000 → Q.length ≤ 1000 → pL8 (lL8 r.length r.length true nm.length nm.length (nm.length : Int) 0 false r F.length F.length Y.length Y.length Q.length Q.length false nm true F true Y true Q) = true := by
      intro nm F Y Q g1 g2 g3 g4
      simp [pL8]; omega
    rw [k2 _ _ _ _ (by simp only [List.length_append, List.length_cons, List.length_nil, h1]; omega) (by rw [List.nil_append]; omega) (by rw [List.nil_append]; omega) (by rw [List.nil_append]; omega)]
    rfl
theorem lawNamed (f : Bool) (L : List PV) (p : ByteArray) : Hx.Enters Try.prog 8 ∧ PCall Try.prog 8 [.lst f 36 L, sv p] (bv true) := by
  refine runP_sound okL4 (n := 80) ((qNamL f L p).trans ?_)
  refine namT_eq ?_ p
  rw [List.nil_append, plsL_len]; unfold mn10; omega
end Go.Hs
/- Strings: the frames of the laws: their arguments. -/
namespace Go.Proofs.Ytadcoepikgjgmaa
open Go.ChangeShapes Go.WideShapes Go.ChangeAt Go.RowKit Go.Hx Go.Hs

theorem own : ownKnob Try.prog.godebug = none := by kernel_rfl
theorem laidOut : laidOutB Try.prog = true := by kernel_rfl
theorem wt_nil {ps : List PV} (h : wtcs [] ps = true) : ps = [] := by
  cases ps with
  | nil => rfl
  | cons p ps => simp [wtcs] at h
theorem wtc_int {k : IntKind} {p : PV} (h : wtc (.int k) p = true) : ∃ n, p = .val (.int k n) := by
  cases p with
  | val v => cases v <;> simp_all [wtc]
  | lst f t es => simp_all [wtc]
  | _ => simp [wtc] at h
theorem wt_int {k : IntKind} {ks : List Kind} {ps : List PV} (h : wtcs ((.int k) :: ks) ps = true) : ∃ n qs, ps = .val (.int k n) :: qs ∧ wtcs ks qs = true := by
  cases ps with
  | nil => simp [wtcs] at h
  | cons p ps =>
    simp only [wtcs, Bool.and_eq_true] at h
    obtain ⟨n, rfl⟩ := wtc_int h.1
    exact ⟨n, ps, rfl, h.2⟩
theorem wtc_bool {p : PV} (h : wtc (.bool) p = true) : ∃ b, p = .val (.bool b) := by
  cases p with
  | val v => cases v <;> simp_all [wtc]
  | lst f t es => simp_all [wtc]
  | _ => simp [wtc] at h
theorem wt_bool {ks : List Kind} {ps : List PV} (h : wtcs ((.bool) :: ks) ps = true) : ∃ b qs, ps = .val (.bool b) :: qs ∧ wtcs ks qs = true := by
  cases ps with
  | nil => simp [wtcs] at h
  | cons p ps =>
    simp only [wtcs, Bool.and_eq_true] at h
    obtain ⟨b, rfl⟩ := wtc_bool h.1
    exact ⟨b, ps, rfl, h.2⟩
theorem wtc_str {p : PV} (h : wtc (.str) p = true) : ∃ s, p = .val (.string s) := by
  cases p with
  | val v => cases v <;> simp_all [wtc]
  | lst f t es => simp_all [wtc]
  | _ => simp [wtc] at h
theorem wt_str {ks : List Kind} {ps : List PV} (h : wtcs ((.str) :: ks) ps = true) : ∃ s qs, ps = .val (.string s) :: qs ∧ wtcs ks qs = true := by
  cases ps with
  | nil => simp [wtcs] at h
  | cons p ps =>
    simp only [wtcs, Bool.and_eq_true] at h
    obtain ⟨s, rfl⟩ := wtc_str h.1
    exact ⟨s, ps, rfl, h.2⟩
theorem wtc_sl {e : TypeId} {p : PV} (h : wtc (.sl e) p = true) : ∃ f es, p = .lst f e es := by
  cases p with
  | val v => cases v <;> simp [wtc] at h
  | lst f t es =>
    have : e = t := by simpa [wtc] using h
    subst this
    exact ⟨f, es, rfl⟩
  | _ => simp [wtc] at h
theorem wt_sl {e : TypeId} {ks : List Kind} {ps : List PV} (h : wtcs (.sl e :: ks) ps = true) : ∃ f es qs, ps = .lst f e es :: qs ∧ wtcs ks qs = true := by
  cases ps with
  | nil => simp [wtcs] at h
  | cons p ps =>
    simp only [wtcs, Bool.and_eq_true] at h
    obtain ⟨f, es, rfl⟩ := wtc_sl h.1
    exact ⟨f, es, ps, rfl, h.2⟩
theorem fit_i64 {n : Int} (h : Fit (.val (.int .i64 n))) : -9223372036854775808 ≤ n ∧ n ≤ 9223372036854775807 := by
  cases h with
  | int h => exact bounds_i64 h
theorem fit_u8 {n : Int} (h : Fit (.val (.int .u8 n))) : 0 ≤ n ∧ n ≤ 255 := by
  cases h with
  | int h => exact bounds_u8 h
theorem fit_u16 {n : Int} (h : Fit (.val (.int .u16 n))) : 0 ≤ n ∧ n ≤ 65535 := by
  cases h with
  | int h => exact bounds_u16 h
theorem rv_agg {t : TypeId} {ps : List PV} {W : World} {v : Value} (h : RV Try.prog (Ctx.of W) (mkE Try.prog t ps) v) (ha : isAggT Try.prog t = true) : RV Try.prog (Ctx.of W) (.agg ps) v := by
  unfold mkE at h
  rwa [if_pos ha] at h
theorem rv_one {t : TypeId} {p : PV} {W : World} {v : Value} (h : RV Try.prog (Ctx.of W) (mkE Try.prog t [p]) v) (ha : isAggT Try.prog t = false) : RV Try.prog (Ctx.of W) p v := by
  unfold mkE at h
  rwa [if_neg (by simp [ha])] at h
theorem cs_one {W : World} {p : PV} {v : Value} (h1 : RV Try.prog (Ctx.of W) p v) : Cs Try.prog (Ctx.of W) [p] #[v] := by
  refine ⟨rfl, fun j c x a b => ?_⟩
  match j with
  | 0 => simp at a b; subst a; subst b; exact h1
  | j + 1 => simp at a
theorem cs_four {W : World} {p q s t : PV} {v u x y : Value} (h1 : RV Try.prog (Ctx.of W) p v) (h2 : RV Try.prog (Ctx.of W) q u) (h3 : RV Try.prog (Ctx.of W) s x) (h4 : RV Try.prog (Ctx.of W) t y) : Cs Try.prog (Ctx.of W) [p, q, s, t] #[v, u, x, y] := by
  refine ⟨rfl, fun j c z a b => ?_⟩
  match j with
  | 0 => simp at a b; subst a; subst b; exact h1
  | 1 => simp at a b; subst a; subst b; exact h2
  | 2 => simp at a b; subst a; subst b; exact h3
  | 3 => simp at a b; subst a; subst b; exact h4
  | j + 4 => simp at a
theorem cs_two {W : World} {p q : PV} {v u : Value} (h1 : RV Try.prog (Ctx.of W) p v) (h2 : RV Try.prog (Ctx.of W) q u) : Cs Try.prog (Ctx.of W) [p, q] #[v, u] := by
  refine ⟨rfl, fun j c x a b => ?_⟩
  match j with
  | 0 => simp at a b; subst a; subst b; exact h1
  | 1 => simp at a b; subst a; subst b; exact h2
  | j + 2 => simp at a
theorem cs_three {W : World} {p q s : PV} {v u x : Value} (h1 : RV Try.prog (Ctx.of W) p v) (h2 : RV Try.prog (Ctx.of W) q u) (h3 : RV Try.prog (Ctx.of W) s x) : Cs Try.prog (Ctx.of W) [p, q, s] #[v, u, x] := by
  refine ⟨rfl, fun j c y a b => ?_⟩
  match j with
  | 0 => simp at a b; subst a; subst b; exact h1
  | 1 => simp at a b; subst a; subst b; exact h2
  | 2 => simp at a b; subst a; subst b; exact h3
  | j + 3 => simp at a
end Go.Proofs.Ytadcoepikgjgmaa
