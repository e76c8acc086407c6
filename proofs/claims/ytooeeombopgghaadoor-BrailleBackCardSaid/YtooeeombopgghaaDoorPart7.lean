/- Braille: the law of decoding: what was written is read as the text. -/
import Derived.Test.YtooeeombopgghaaDoorPart6
import Derived.Test.YtooeeombopgghaaDoorRows
import Derived.Test.YtooeeombopgghaaDoorPart4
import Derived.Test.YtooeeombopgghaaDoorTie
import Derived.Test.YtooeeombopgghaaDoorCards
import Derived.Stop.LaidErr
import Derived.LaidHandle
import Derived.SevenTiedAt
namespace Go.Ht
open Go.Hx Go.Proofs
theorem dc_takes {f g : Bool} {s : ByteArray} {x : List UInt8} {l : List Int} (h : Takes f s x l g) : ∃ s', nl s' = l ∧ ∀ es, dc s f es = dc s' g (es ++ x) := by
  obtain ⟨h1, h2, h3, h4, h5⟩ := h
  refine ⟨_, h4, fun es => ?_⟩
  rw [dc_step h1 (by rw [h2]; rfl), h3, h5]
theorem by8_app (l r : List Int) : by8 (l ++ r) = by8 l ++ by8 r := List.map_append
theorem by8_cons (c : Int) (r : List Int) : by8 (c :: r) = [UInt8.ofNat c.toNat] ++ by8 r := rfl
/-- Characters that a text may have. -/
def goodL (l : List Int) : Prop := ∀ c, c ∈ l → 32 ≤ c ∧ c ≤ 126
theorem cls_takes {f : Bool} {c : Int} {s : ByteArray} {l : List Int} (c0 : 32 ≤ c) (c1 : c ≤ 126) (h : nl s = clsL c f ++ l) : Takes f s [UInt8.ofNat c.toNat] l (dgB c) := by
  by_cases hl : 97 ≤ c ∧ c ≤ 122
  · have hd : dgB c = false := by unfold dgB; rw [decide_eq_false (show ¬ c ≤ 57 by omega), Bool.and_false]
    have e : UInt8.ofNat (97 + (c - 97)).toNat = UInt8.ofNat c.toNat := by rw [show 97 + (c - 97) = c by omega]
    unfold clsL at h
    rw [decide_eq_true hl.1, decide_eq_true hl.2, B8_id (n := c - 97) (by omega) (by omega)] at h
    rw [hd, ← e]
    cases hf : f && decide (c ≤ 106) with
    | true =>
      rw [hf] at h
      rw [Bool.and_eq_true, decide_eq_true_eq] at hf
      exact takes_lmark h (by omega) (by omega)
    | false =>
      rw [hf] at h
      refine takes_letter h (by omega) (by omega) ?_
      cases f with
      | false => exact .inl rfl
      | true => rw [Bool.true_and, decide_eq_false_iff_not] at hf; exact .inr (by omega)
  · have h1 : clsL c f = clsNL c f := by
      unfold clsL
      have : (decide (97 ≤ c) && decide (c ≤ 122)) = false := by
        rw [Bool.and_eq_false_iff, decide_eq_false_iff_not, decide_eq_false_iff_not]; omega
      rw [this]; rfl
    rw [h1] at h
    by_cases hu : 65 ≤ c ∧ c ≤ 90
    · have hd : dgB c = false := by unfold dgB; rw [decide_eq_false (show ¬ c ≤ 57 by omega), Bool.and_false]
      have e : UInt8.ofNat (65 + (c - 65)).toNat = UInt8.ofNat c.toNat := by rw [show 65 + (c - 65) = c by omega]
      unfold clsNL at h
      rw [decide_eq_true hu.1, decide_eq_true hu.2, B8_id (n := c - 65) (by omega) (by omega)] at h
      rw [hd, ← e]
      exact takes_cap h (by omega) (by omega)
    · have h2 : clsNL c f = clsUL c f := by
        unfold clsNL
        have : (decide (65 ≤ c) && decide (c ≤ 90)) = false := by
          rw [Bool.and_eq_false_iff, decide_eq_false_iff_not, decide_eq_false_iff_not]; omega
        rw [this]; rfl
      rw [h2] at h
      unfold clsUL at h
      cases hd : dgB c with
      | true =>
        rw [hd, cond_true] at h
        unfold dgB at hd
        rw [Bool.and_eq_true, decide_eq_true_eq, decide_eq_true_eq] at hd
        have hn : (B8 (B8 (c - 48) + 9)).tmod 10 = (c - 39) % 10 := by
          rw [B8_id (n := c - 48) (by omega) (by omega), B8_id (by omega) (by omega), Int.tmod_eq_emod_of_nonneg (by omega)]
          congr 1; omega
        rw [hn] at h
        have e : UInt8.ofNat (48 + ((c - 39) % 10 + 1).tmod 10).toNat = UInt8.ofNat c.toNat := by
          rw [Int.tmod_eq_emod_of_nonneg (by omega), show 48 + ((c - 39) % 10 + 1) % 10 = c by omega]
        rw [← e]
        cases f with
        | true => exact takes_digit h (by omega) (by omega)
        | false => exact takes_nmark h (by omega) (by omega)
      | false =>
        rw [hd, cond_false] at h
        by_cases hi : ixB c ≥ 0
        · rw [decide_eq_true hi] at h
          exact takes_sign (by omega) (by omega) hi h
        · have h1 : c.tdiv 16 = c / 16 := Int.tdiv_eq_ediv_of_nonneg (by omega)
          have h2 : c.tmod 16 = c % 16 := Int.tmod_eq_emod_of_nonneg (by omega)
          rw [decide_eq_false hi, h1, h2, B8_id (n := c / 16) (by omega) (by omega)] at h
          have e : UInt8.ofNat (16 * (c / 16) + c % 16).toNat = UInt8.ofNat c.toNat := by rw [show 16 * (c / 16) + c % 16 = c by omega]
          rw [← e]
          exact takes_other h (by omega) (by omega) (by omega) (by omega)
theorem decode : ∀ (n : Nat) (l : List Int), l.length ≤ n → goodL l → ∀ (f : Bool) (s : ByteArray) (es : List UInt8), nl s = wrl f l → (dc s f es).1 = true ∧ (dc s f es).2.1 = es ++ by8 l
  | n, [], _, _, f, s, es, h => by
    rw [wrl_nil] at h
    have : s.size = 0 := by rw [← nl_len, h]; rfl
    rw [dc_end (isE_eq.2 this)]
    exact ⟨rfl, by simp [by8]⟩
  | 0, c :: r, hl, _, _, _, _, _ => by simp at hl
  | n + 1, c :: r, hl, hg, f, s, es, h => by
    rw [List.length_cons] at hl
    have hc := hg c (by simp)
    rcases wix_cases (c :: r) with g | ⟨j, hj, g1, t, g2⟩
    · rw [wrl_none g] at h
      obtain ⟨s', h1, h2⟩ := dc_takes (cls_takes hc.1 hc.2 h)
      obtain ⟨i1, i2⟩ := decode n r (by omega) (fun x hx => hg x (by simp [hx])) (dgB c) s' (es ++ [UInt8.ofNat c.toNat]) h1
      rw [h2]
      refine ⟨i1, ?_⟩
      rw [i2, by8_cons, List.append_assoc]
    · obtain ⟨w1, w2, w3, w4, w5⟩ := wd_facts hj
      rw [wrl_word hj g1 g2.symm] at h
      obtain ⟨s', h1, h2⟩ := dc_takes (takes_word (f := f) hj h)
      have hlen := congrArg List.length g2
      rw [List.length_append, List.length_cons] at hlen
      obtain ⟨i1, i2⟩ := decode n t (by omega) (fun x hx => hg x (by rw [← g2]; simp [hx])) false s' (es ++ by8 (wd j)) h1
      rw [h2]
      refine ⟨i1, ?_⟩
      rw [i2, ← g2, by8_app, List.append_assoc]
theorem good_of {t : ByteArray} (h : rgtB t = true) : goodL (nl t) := by
  rw [rgt_all] at h
  intro c hc
  have := List.all_eq_true.1 h c hc
  unfold badC at this
  simp only [Bool.not_eq_true', Bool.or_eq_false_iff, decide_eq_false_iff_not] at this
  omega
/-- Reading what was written. -/
theorem dT_wrB {t : ByteArray} (h : rgtB t = true) : (dc (wrB t) false []).1 = true ∧ dT (wrB t) = t := by
  obtain ⟨h1, h2⟩ := decode (nl t).length (nl t) (Nat.le_refl _) (good_of h) false (wrB t) [] (nl_wrB t)
  refine ⟨h1, ?_⟩
  unfold dT
  rw [h2, List.nil_append, by8_nl]
theorem rd_wr {t : ByteArray} (h : rgtB t = true) : rdOk (wrB t) = true := by
  obtain ⟨h1, h2⟩ := dT_wrB h
  unfold rdOk
  rw [h1, h2, h, decide_eq_true rfl]; rfl
end Go.Ht
/- Braille: BrailleBack's loops. -/
namespace Go.Ht
open Go.Hx Go.Proofs
noncomputable def hidB {α : Type} (x : α) : α := Classical.choose (⟨x, rfl⟩ : ∃ y, y = x)
theorem hidB_eq {α : Type} (x : α) : hidB x = x := Classical.choose_spec (⟨x, rfl⟩ : ∃ y, y = x)
/-! the cells are less than 64 -/
def shBA : S1 := ⟨113, [(7, .bool), (8, .sl 0), (10, .str), (11, .str), (15, I64), (32, .sl 0), (33, I64), (34, I64)], [.many 9 1]⟩
abbrev lBA (h : Bool) (n m : Nat) (x c : ByteArray) (k : Int) (n2 m2 : Nat) (len i : Int) (ts : List PV) : LS := ([.b h, .n n, .n m, .s x, .s c, .i k, .n n2, .n m2, .i len, .i i], [.l false ts])
noncomputable abbrev xBA (p : PX) (h : Bool) (n m : Nat) (x c : ByteArray) (n2 m2 : Nat) (len i : Int) (ts : List PV) : PX × List PV × List Row :=
  (p, tm 113 [(7, bv h), (8, .sl 0 n 0 m), (10, sv x), (11, sv c), (32, .sl 0 n2 0 m2), (33, iv len), (34, iv i)], [⟨ts, 1, 9, true, true, false, none, false⟩])
theorem qBA (h : Bool) (n m : Nat) (x c : ByteArray) (k : Int) (n2 m2 : Nat) (len i : Int) (ts : List PV) : runB Tryd.prog F8 60 5 (lpb Tryd.f5 15) [7, 8, 10, 11, 15, 32, 33, 34] [7, 8, 10, 11, 32, 33, 34] (shBA.put (lBA h n m x c k n2 m2 len i ts)).1 (shBA.put (lBA h n m x c k n2 m2 len i ts)).2 =
  bif decide (k < (c.size : Int)) then bif decide (0 ≤ k) && decide (k < (c.size : Int)) then bif decide (gt c k > 63) then some (xBA .ret h n m x c n2 m2 len i ts) else some (.normal, shBA.put (lBA h n m x c (W (k + 1)) n2 m2 len i ts)) else none
  else some (xBA (.exit 2) h n m x c n2 m2 len i ts) := by kernel_rfl
def allA (c : ByteArray) (k : Int) : Bool := ((nl c).drop k.toNat).all fun x => decide (x ≤ 63)
noncomputable def pBA : LS → Bool
  | ([.b _, .n _, .n _, .s _, .s c, .i k, .n _, .n _, .i _, .i _], [.l false _]) => hidB (decide (0 ≤ k) && decide (k ≤ (c.size : Int)) && Nat.ble c.size 1000000 && allA c k)
  | _ => false
noncomputable def fBA : LS → DT (PX × List PV × List Row)
  | ([.b h, .n n, .n m, .s x, .s c, .i _, .n n2, .n m2, .i len, .i i], [.l _ ts]) => .leaf (xBA (.exit 2) h n m x c n2 m2 len i ts)
  | _ => .no
def mBA : LS → Nat
  | ([.b _, .n _, .n _, .s _, .s c, .i k, .n _, .n _, .i _, .i _], [.l _ _]) => ((c.size : Int) - k).toNat
  | _ => 0
theorem sBA : ∀ s r, pBA s = true → (fBA s).run = some r → r.1 ≠ .normal ∧ (runB Tryd.prog F8 60 5 (lpb Tryd.f5 15) [7, 8, 10, 11, 15, 32, 33, 34] [7, 8, 10, 11, 32, 33, 34] (shBA.put s).1 (shBA.put s).2 = some r ∨
      ∃ s', runB Tryd.prog F8 60 5 (lpb Tryd.f5 15) [7, 8, 10, 11, 15, 32, 33, 34] [7, 8, 10, 11, 32, 33, 34] (shBA.put s).1 (shBA.put s).2 = some (.normal, shBA.put s') ∧ pBA s' = true ∧ mBA s' < mBA s ∧ (fBA s').run = some r) := by
  intro t r hp hr
  unfold pBA at hp; split at hp
  · rename_i h n m x c k n2 m2 len i ts
    rw [hidB_eq] at hp
    simp only [Bool.and_eq_true, decide_eq_true_eq] at hp
    obtain ⟨⟨⟨h1, h2⟩, h3⟩, h4⟩ := hp
    have h3 := Nat.le_of_ble_eq_true h3
    have hr' := (Option.some.inj hr).symm
    refine ⟨by rw [hr']; simp, ?_⟩
    rw [show shBA.put ([.b h, .n n, .n m, .s x, .s c, .i k, .n n2, .n m2, .i len, .i i], [.l false ts]) = shBA.put (lBA h n m x c k n2 m2 len i ts) from rfl, qBA]
    by_cases hk : k < (c.size : Int)
    · have hl : k.toNat < (nl c).length := by rw [nl_len]; omega
      have hd : (nl c).drop k.toNat = gt c k :: (nl c).drop (k.toNat + 1) := by
        rw [List.drop_eq_getElem_cons hl, gt_nl, List.getD_eq_getElem?_getD, List.getElem?_eq_getElem hl]; rfl
      unfold allA at h4
      rw [hd, List.all_cons, Bool.and_eq_true, decide_eq_true_eq] at h4
      rw [decide_eq_true hk, decide_eq_true h1, decide_eq_false (show ¬ gt c k > 63 by omega), W_id (by omega) (by omega)]
      refine .inr ⟨lBA h n m x c (k + 1) n2 m2 len i ts, rfl, ?_, ?_, ?_⟩
      · show hidB _ = true
        rw [hidB_eq]
        simp only [Bool.and_eq_true, decide_eq_true_eq]
        refine ⟨⟨⟨by omega, by omega⟩, Nat.ble_eq_true_of_le h3⟩, ?_⟩
        unfold allA
        rw [show (k + 1).toNat = k.toNat + 1 by omega]; exact h4.2
      · show ((c.size : Int) - (k + 1)).toNat < ((c.size : Int) - k).toNat
        omega
      · rw [hr']; rfl
    · refine .inl ?_
      rw [decide_eq_false hk, hr']; rfl
  · cases hp
noncomputable def G1 : EnvK := F8.addW 5 15 [7, 8, 10, 11, 15, 32, 33, 34] [] shBA pBA fBA
theorem okg1 : EnvOK Tryd.prog G1.env :=
  okf8.addW (n := 60) Tryd.func5 (show Tryd.f5.body = some (bod Tryd.f5) by kernel_rfl) (show (loops (bod Tryd.f5)).filter (fun b => rid b == 15) = [lpb Tryd.f5 15] by kernel_rfl) [7, 8, 10, 11, 15, 32, 33, 34] [7, 8, 10, 11, 32, 33, 34] [] shBA mBA sBA
/-! different texts have different cells -/
def shBB : S1 := ⟨113, [(7, .bool), (8, .sl 0), (10, .str), (11, .str), (32, .sl 0), (33, I64), (34, I64), (88, .sl 0), (89, I64), (90, I64)], [.many 9 1]⟩
def ts3 (a b d : ByteArray) : List PV := [sv a, sv b, sv d]
abbrev lBB (h : Bool) (x c : ByteArray) (i k : Int) (a b d : ByteArray) : LS := ([.b h, .n 3, .n 3, .s x, .s c, .n 3, .n 3, .i 3, .i i, .n 3, .n 3, .i 3, .i k], [.l false (ts3 a b d)])
noncomputable abbrev xBB (p : PX) (h : Bool) (i : Int) (a b d : ByteArray) : PX × List PV × List Row :=
  (p, tm 113 [(7, bv h), (8, .sl 0 3 0 3), (32, .sl 0 3 0 3), (33, iv 3), (34, iv i)], [⟨ts3 a b d, 1, 9, true, true, false, none, false⟩])
def tsA (a b d : ByteArray) (k : Int) : ByteArray := (((ts3 a b d).getD (0 + k.toNat) .any).cellAt 0).getS
theorem qBB (h : Bool) (x c : ByteArray) (i k : Int) (a b d : ByteArray) : runB Tryd.prog G1 60 5 (lpb Tryd.f5 20) [7, 8, 10, 11, 32, 33, 34, 88, 89, 90] [7, 8, 32, 33, 34] (shBB.put (lBB h x c i k a b d)).1 (shBB.put (lBB h x c i k a b d)).2 =
  bif decide (k < 3) then bif decide (0 ≤ k) && decide (k < 3) then bif decide (((tsA a b d k).size : Int) ≤ 1099511627776) then
    bif decide (wrE (tsA a b d k) = 0) then bif !(((wrS (tsA a b d k)).toList == c.toList) == ((tsA a b d k).toList == x.toList)) then some (xBB .ret h i a b d) else some (.normal, shBB.put (lBB h x c i (W (k + 1)) a b d))
    else some (.normal, shBB.put (lBB h x c i (W (k + 1)) a b d)) else none else none
  else some (xBB (.exit 4) h i a b d) := by kernel_rfl
def okY (x c y : ByteArray) : Bool := !decide (wrE y = 0) || (decide (wrS y = c) == decide (y = x))
noncomputable def okBB (x c : ByteArray) (k : Int) (a b d : ByteArray) : Bool := hidB (decide (0 ≤ k) && decide (k ≤ 3) && (Nat.ble a.size 1000000 && Nat.ble b.size 1000000 && Nat.ble d.size 1000000) && (okY x c a && okY x c b && okY x c d))
noncomputable def pBB : LS → Bool
  | ([.b _, .n 3, .n 3, .s x, .s c, .n 3, .n 3, .i 3, .i _, .n 3, .n 3, .i 3, .i k], [.l false [.val (.string a), .val (.string b), .val (.string d)]]) => okBB x c k a b d
  | _ => false
noncomputable def fBB : LS → DT (PX × List PV × List Row)
  | ([.b h, .n _, .n _, .s _, .s _, .n _, .n _, .i _, .i i, .n _, .n _, .i _, .i _], [.l _ [.val (.string a), .val (.string b), .val (.string d)]]) => .leaf (xBB (.exit 4) h i a b d)
  | _ => .no
def mBB : LS → Nat
  | ([.b _, .n _, .n _, .s _, .s _, .n _, .n _, .i _, .i _, .n _, .n _, .i _, .i k], [.l _ _]) => (3 - k).toNat
  | _ => 0
theorem tsA_cases {a b d : ByteArray} {k : Int} (h0 : 0 ≤ k) (h1 : k < 3) : tsA a b d k = a ∨ tsA a b d k = b ∨ tsA a b d k = d := by
  have : k = 0 ∨ k = 1 ∨ k = 2 := by omega
  rcases this with rfl | rfl | rfl
  · exact .inl rfl
  · exact .inr (.inl rfl)
  · exact .inr (.inr rfl)
theorem sBB : ∀ s r, pBB s = true → (fBB s).run = some r → r.1 ≠ .normal ∧ (runB Tryd.prog G1 60 5 (lpb Tryd.f5 20) [7, 8, 10, 11, 32, 33, 34, 88, 89, 90] [7, 8, 32, 33, 34] (shBB.put s).1 (shBB.put s).2 = some r ∨
      ∃ s', runB Tryd.prog G1 60 5 (lpb Tryd.f5 20) [7, 8, 10, 11, 32, 33, 34, 88, 89, 90] [7, 8, 32, 33, 34] (shBB.put s).1 (shBB.put s).2 = some (.normal, shBB.put s') ∧ pBB s' = true ∧ mBB s' < mBB s ∧ (fBB s').run = some r) := by
  intro t r hp hr
  unfold pBB at hp; split at hp
  · rename_i h x c i k a b d
    unfold okBB at hp
    rw [hidB_eq] at hp
    have hp0 := hp
    simp only [Bool.and_eq_true, decide_eq_true_eq] at hp
    obtain ⟨⟨⟨h1, h2⟩, ⟨h3, h4⟩, h5⟩, ⟨y1, y2⟩, y3⟩ := hp
    have h3 := Nat.le_of_ble_eq_true h3
    have h4 := Nat.le_of_ble_eq_true h4
    have h5 := Nat.le_of_ble_eq_true h5
    have hr' := (Option.some.inj hr).symm
    refine ⟨by rw [hr']; simp, ?_⟩
    rw [show shBB.put ([.b h, .n 3, .n 3, .s x, .s c, .n 3, .n 3, .i 3, .i i, .n 3, .n 3, .i 3, .i k], [.l false [.val (.string a), .val (.string b), .val (.string d)]]) = shBB.put (lBB h x c i k a b d) from rfl, qBB]
    by_cases hk : k < 3
    · have hy : okY x c (tsA a b d k) = true ∧ (tsA a b d k).size ≤ 1000000 := by
        rcases tsA_cases (a := a) (b := b) (d := d) h1 hk with e | e | e <;> rw [e] <;> exact ⟨by assumption, by assumption⟩
      have next : ∃ s', (some (PX.normal, shBB.put (lBB h x c i (W (k + 1)) a b d)) : Option (PX × List PV × List Row)) = some (.normal, shBB.put s') ∧ pBB s' = true ∧ mBB s' < mBB ([.b h, .n 3, .n 3, .s x, .s c, .n 3, .n 3, .i 3, .i i, .n 3, .n 3, .i 3, .i k], [.l false [.val (.string a), .val (.string b), .val (.string d)]]) ∧ (fBB s').run = some r := by
        rw [W_id (by omega) (by omega)]
        refine ⟨_, rfl, ?_, ?_, ?_⟩
        · show okBB x c (k + 1) a b d = true
          unfold okBB
          rw [hidB_eq]
          simp only [Bool.and_eq_true, decide_eq_true_eq] at hp0 ⊢
          exact ⟨⟨⟨by omega, by omega⟩, hp0.1.2⟩, hp0.2⟩
        · show (3 - (k + 1)).toNat < (3 - k).toNat
          omega
        · rw [hr']; rfl
      rw [decide_eq_true hk, decide_eq_true h1, decide_eq_true (show ((tsA a b d k).size : Int) ≤ 1099511627776 by omega)]
      simp only [cond_true, Bool.and_self]
      have hy1 := hy.1
      unfold okY at hy1
      cases he : decide (wrE (tsA a b d k) = 0) with
      | true =>
        rw [he, Bool.not_true, Bool.false_or] at hy1
        rw [cond_true, toList_beq, toList_beq, hy1]
        exact .inr next
      | false => exact .inr next
    · refine .inl ?_
      rw [decide_eq_false hk, hr']; rfl
  · cases hp
noncomputable def G2 : EnvK := G1.addW 5 20 [7, 8, 10, 11, 32, 33, 34, 88, 89, 90] [] shBB pBB fBB
theorem okg2 : EnvOK Tryd.prog G2.env :=
  okg1.addW (n := 60) Tryd.func5 (show Tryd.f5.body = some (bod Tryd.f5) by kernel_rfl) (show (loops (bod Tryd.f5)).filter (fun b => rid b == 20) = [lpb Tryd.f5 20] by kernel_rfl) [7, 8, 10, 11, 32, 33, 34, 88, 89, 90] [7, 8, 32, 33, 34] [] shBB mBB sBB
/-! the texts, one after the other -/
def shBO : S1 := ⟨113, [(7, .bool), (8, .sl 0), (32, .sl 0), (33, I64), (34, I64)], [.many 9 1]⟩
abbrev lBO (h : Bool) (i : Int) (a b d : ByteArray) : LS := ([.b h, .n 3, .n 3, .n 3, .n 3, .i 3, .i i], [.l false (ts3 a b d)])
noncomputable abbrev xBO (p : PX) (h : Bool) (a b d : ByteArray) : PX × List PV × List Row := (p, tm 113 [(7, bv h)], [⟨ts3 a b d, 1, 9, true, true, false, none, false⟩])
noncomputable def tailB (h : Bool) (i : Int) (x a b d : ByteArray) : RR :=
  bif !decide (wrE x = 0) then some (.normal, shBO.put (lBO h (W (i + 1)) a b d)) else
  bif decide (((wrS x).size : Int) ≤ 68719476736) then bif !decide (rdE (wrS x) = 0) then some (xBO .ret h a b d) else bif !((rdS (wrS x)).toList == x.toList) then some (xBO .ret h a b d) else
    bif decide (((wrS x).size : Int) > W (3 * (x.size : Int))) then some (xBO .ret h a b d) else
    bif pBA (lBA h 3 3 x (wrS x) 0 3 3 3 i (ts3 a b d)) then bif pBB (lBB h x (wrS x) i 0 a b d) then some (.normal, shBO.put (lBO h (W (i + 1)) a b d)) else none else none
  else none
set_option maxRecDepth 100000 in
theorem qBO (h : Bool) (i : Int) (a b d : ByteArray) : runB Tryd.prog G2 60 5 (lpb Tryd.f5 5) [7, 8, 32, 33, 34] [7] (shBO.put (lBO h i a b d)).1 (shBO.put (lBO h i a b d)).2 =
  bif decide (i < 3) then bif decide (0 ≤ i) && decide (i < 3) then bif decide (((tsA a b d i).size : Int) ≤ 1099511627776) then
    bif !(decide (wrE (tsA a b d i) = 0) == rgtB (tsA a b d i)) then some (xBO .ret h a b d) else
    bif !decide (wrE (tsA a b d i) = 0) then (bif !((wrS (tsA a b d i)).toList == ByteArray.empty.toList) then some (xBO .ret h a b d) else tailB h i (tsA a b d i) a b d) else tailB h i (tsA a b d i) a b d
    else none else none
  else some (xBO (.exit 0) h a b d) := by kernel_rfl
end Go.Ht
/- Braille: the law of Write and Right. -/
namespace Go.Ht
open Go.Hx Go.Proofs
abbrev okC2 (s t : ByteArray) (k : Option PV) : Option PV := bif !decide (((s.size + t.size : Nat) : Int) > IntKind.i64.max) then k else none
def chkW (x : ByteArray) (k : Option PV) : Option PV :=
  bif decide ((x.size : Int) ≤ 1099511627776) then bif Nat.ble x.size 1000000 then
    bif !((wrS x).toList == (wrS x).toList) then fB else bif !decide (wrE x = wrE x) then fB else
    bif decide ((x.size : Int) ≤ 1099511627776) then bif !(rgtB x == goodB x 0) then fB else k else none
  else none else none
def mn60 (s : ByteArray) : Int := if (60 : Int) < (s.size : Int) then 60 else (s.size : Int)
def cut60 (s : ByteArray) : ByteArray := s.extract (0 : Int).toNat (mn60 s).toNat
set_option maxRecDepth 100000 in
theorem qL3 (f : Bool) (ls : List PV) (s : ByteArray) : runP Tryd.prog F8 60 3 [.lst f 3 ls, sv s] =
  bif decide ((0 : Int) ≤ 0) && decide (0 ≤ mn60 s) && decide (mn60 s ≤ (s.size : Int)) then
  okC2 (mdS ls) (cut60 s) (okC2 (cut60 s) (mdS ls) (chkW (mdS ls) (chkW (cut60 s) (chkW (mdS ls ++ cut60 s) (chkW (cut60 s ++ mdS ls) (some (bv true))))))) else none := by kernel_rfl
theorem chkW_ok {x : ByteArray} {k : Option PV} (h : x.size ≤ 1000000) : chkW x k = k := by
  unfold chkW
  rw [decide_eq_true (show (x.size : Int) ≤ 1099511627776 by omega), Nat.ble_eq_true_of_le h, toList_beq, decide_eq_true rfl, decide_eq_true rfl, good_right, beq_self_eq_true]
  rfl
theorem okC2_of {s t : ByteArray} {k : Option PV} (h1 : s.size ≤ 1000000) (h2 : t.size ≤ 1000000) : okC2 s t k = k := by
  have hmx : IntKind.i64.max = 9223372036854775807 := rfl
  show (bif !decide (((s.size + t.size : Nat) : Int) > IntKind.i64.max) then k else none) = k
  rw [hmx, decide_eq_false (by omega)]; rfl
theorem mn60_ok (s : ByteArray) : 0 ≤ mn60 s ∧ mn60 s ≤ (s.size : Int) ∧ mn60 s ≤ 60 := by unfold mn60; split <;> omega
theorem cut60_size (s : ByteArray) : (cut60 s).size ≤ 60 := by
  have := mn60_ok s
  unfold cut60
  rw [ByteArray.size_extract]; omega
theorem law3 (f : Bool) (ls : List PV) (s : ByteArray) : runP Tryd.prog F8 60 3 [.lst f 3 ls, sv s] = some (bv true) := by
  have h1 := mdS_size ls
  have h2 := cut60_size s
  have h3 := mn60_ok s
  rw [qL3, decide_eq_true (Int.le_refl _), decide_eq_true h3.1, decide_eq_true h3.2.1, okC2_of (by omega) (by omega), okC2_of (by omega) (by omega), chkW_ok (by omega), chkW_ok (by omega), chkW_ok (by rw [ByteArray.size_append]; omega), chkW_ok (by rw [ByteArray.size_append]; omega)]
  rfl
theorem law3P (f : Bool) (ls : List PV) (s : ByteArray) : PCall Tryd.prog 3 [.lst f 3 ls, sv s] (bv true) := (runP_sound okf8 (n := 60) (law3 f ls s)).2
end Go.Ht
/- Braille: the law of writing and reading back. -/
namespace Go.Ht
open Go.Hx Go.Proofs
theorem gt_63 {s : ByteArray} (h : ((nl s).all fun x => decide (x ≤ 63)) = true) (z : Int) : gt s z ≤ 63 := by
  rw [gt_nl, List.getD_eq_getElem?_getD]
  cases he : (nl s)[z.toNat]? with
  | none => decide
  | some x => exact of_decide_eq_true (List.all_eq_true.1 h x (List.mem_of_getElem? he))
theorem lt63 : ((nl ltB).all fun x => decide (x ≤ 63)) = true := by decide
theorem sh63 : ((nl shB).all fun x => decide (x ≤ 63)) = true := by decide
theorem sc63 : ((nl scB).all fun x => decide (x ≤ 63)) = true := by decide
theorem clsL_63 (c : Int) (f : Bool) : ∀ x, x ∈ clsL c f → x ≤ 63 := by
  have h := gt_63 lt63
  have h2 := gt_63 sc63
  have key : ∀ x ∈ clsL c f, x ≤ 63 := by
    unfold clsL clsNL clsUL
    cases decide (97 ≤ c) && decide (c ≤ 122) <;> cases f && decide (c ≤ 106) <;> cases decide (65 ≤ c) && decide (c ≤ 90) <;> cases dgB c <;> cases f <;> cases decide (ixB c ≥ 0) <;>
      simp only [cond_true, cond_false, Bool.not_true, Bool.not_false, List.forall_mem_cons, List.not_mem_nil, h, h2, false_imp_iff, implies_true, and_true] <;> decide
  exact key
theorem wrl_63 : ∀ (n : Nat) (f : Bool) (l : List Int) x, x ∈ wrL n f l → x ≤ 63
  | 0, _, _, x, h => by cases h
  | n + 1, f, [], x, h => by cases h
  | n + 1, f, c :: r, x, h => by
    rw [wrL] at h
    cases hd : decide (wix (c :: r) ≥ 0) with
    | true =>
      rw [hd, cond_true] at h
      rcases List.mem_cons.1 h with rfl | h
      · exact gt_63 sh63 _
      · exact wrl_63 n _ _ x h
    | false =>
      rw [hd, cond_false] at h
      rcases List.mem_append.1 h with h | h
      · exact clsL_63 _ _ x h
      · exact wrl_63 n _ _ x h
theorem allA_wr {t : ByteArray} (h : rgtB t = true) : allA (wrS t) 0 = true := by
  unfold allA wrS
  rw [h, cond_true, nl_wrB, List.all_eq_true]
  intro x hx
  exact decide_eq_true (wrl_63 _ _ _ x hx)
theorem okY_wr {x : ByteArray} (y : ByteArray) (h : rgtB x = true) : okY x (wrS x) y = true := by
  unfold okY wrE
  cases hy : rgtB y with
  | false => rfl
  | true =>
    rw [cond_true, decide_eq_true rfl, Bool.not_true, Bool.false_or, beq_iff_eq]
    rw [Bool.eq_iff_iff, decide_eq_true_eq, decide_eq_true_eq]
    unfold wrS
    rw [h, hy, cond_true, cond_true]
    constructor
    · intro e
      rw [← (dT_wrB hy).2, e, (dT_wrB h).2]
    · rintro rfl; rfl
def pBO : LS → Bool
  | ([.b _, .n 3, .n 3, .n 3, .n 3, .i 3, .i i], [.l false [.val (.string a), .val (.string b), .val (.string d)]]) => decide (0 ≤ i) && decide (i ≤ 3) && (Nat.ble a.size 1000 && Nat.ble b.size 1000 && Nat.ble d.size 1000)
  | _ => false
noncomputable def fBO : LS → DT (PX × List PV × List Row)
  | ([.b h, .n _, .n _, .n _, .n _, .i _, .i _], [.l _ [.val (.string a), .val (.string b), .val (.string d)]]) => .leaf (xBO (.exit 0) h a b d)
  | _ => .no
def mBO : LS → Nat
  | ([.b _, .n _, .n _, .n _, .n _, .i _, .i i], [.l _ _]) => (3 - i).toNat
  | _ => 0
theorem sBO : ∀ s r, pBO s = true → (fBO s).run = some r → r.1 ≠ .normal ∧ (runB Tryd.prog G2 60 5 (lpb Tryd.f5 5) [7, 8, 32, 33, 34] [7] (shBO.put s).1 (shBO.put s).2 = some r ∨
      ∃ s', runB Tryd.prog G2 60 5 (lpb Tryd.f5 5) [7, 8, 32, 33, 34] [7] (shBO.put s).1 (shBO.put s).2 = some (.normal, shBO.put s') ∧ pBO s' = true ∧ mBO s' < mBO s ∧ (fBO s').run = some r) := by
  intro t r hp hr
  unfold pBO at hp; split at hp
  · rename_i h i a b d
    have hp0 := hp
    simp only [Bool.and_eq_true, decide_eq_true_eq] at hp
    obtain ⟨⟨h1, h2⟩, ⟨h3, h4⟩, h5⟩ := hp
    have h3 := Nat.le_of_ble_eq_true h3
    have h4 := Nat.le_of_ble_eq_true h4
    have h5 := Nat.le_of_ble_eq_true h5
    have hr' := (Option.some.inj hr).symm
    refine ⟨by rw [hr']; simp, ?_⟩
    rw [show shBO.put ([.b h, .n 3, .n 3, .n 3, .n 3, .i 3, .i i], [.l false [.val (.string a), .val (.string b), .val (.string d)]]) = shBO.put (lBO h i a b d) from rfl, qBO]
    by_cases hk : i < 3
    · have hx : (tsA a b d i).size ≤ 1000 := by
        rcases tsA_cases (a := a) (b := b) (d := d) h1 hk with e | e | e <;> rw [e] <;> assumption
      generalize tsA a b d i = x at hx
      have next : ∃ s', (some (PX.normal, shBO.put (lBO h (W (i + 1)) a b d)) : Option (PX × List PV × List Row)) = some (.normal, shBO.put s') ∧ pBO s' = true ∧ mBO s' < mBO ([.b h, .n 3, .n 3, .n 3, .n 3, .i 3, .i i], [.l false [.val (.string a), .val (.string b), .val (.string d)]]) ∧ (fBO s').run = some r := by
        rw [W_id (by omega) (by omega)]
        refine ⟨_, rfl, ?_, ?_, ?_⟩
        · show (decide (0 ≤ i + 1) && decide (i + 1 ≤ 3) && (Nat.ble a.size 1000 && Nat.ble b.size 1000 && Nat.ble d.size 1000)) = true
          simp only [Bool.and_eq_true, decide_eq_true_eq] at hp0 ⊢
          exact ⟨⟨by omega, by omega⟩, hp0.2⟩
        · show (3 - (i + 1)).toNat < (3 - i).toNat
          omega
        · rw [hr']; rfl
      have hw := wrS_size x
      rw [decide_eq_true hk, decide_eq_true h1, decide_eq_true (show (x.size : Int) ≤ 1099511627776 by omega)]
      simp only [cond_true, Bool.and_self]
      unfold tailB
      cases hrx : rgtB x with
      | false =>
        have e1 : wrE x = 40 := by unfold wrE; rw [hrx]; rfl
        have e2 : wrS x = ByteArray.empty := by unfold wrS; rw [hrx]; rfl
        rw [e1, e2]
        simp only [show decide ((40 : Int) = 0) = false by decide, toList_beq, Bool.not_false, Bool.not_true, cond_true, cond_false, beq_self_eq_true]
        exact .inr next
      | true =>
        have e1 : wrE x = 0 := by unfold wrE; rw [hrx]; rfl
        have e2 : wrS x = wrB x := by unfold wrS; rw [hrx]; rfl
        have e3 : rdE (wrS x) = 0 := by unfold rdE; rw [e2, rd_wr hrx]; rfl
        have e4 : rdS (wrS x) = x := by unfold rdS; rw [e2, rd_wr hrx]; exact (dT_wrB hrx).2
        have e5 : pBA (lBA h 3 3 x (wrS x) 0 3 3 3 i (ts3 a b d)) = true := by
          show hidB _ = true
          rw [hidB_eq, allA_wr hrx]
          simp only [Bool.and_eq_true, decide_eq_true_eq]
          exact ⟨⟨⟨by omega, by omega⟩, Nat.ble_eq_true_of_le (by omega)⟩, trivial⟩
        have e6 : pBB (lBB h x (wrS x) i 0 a b d) = true := by
          show okBB _ _ _ _ _ _ = true
          unfold okBB
          rw [hidB_eq, okY_wr a hrx, okY_wr b hrx, okY_wr d hrx]
          simp only [Bool.and_eq_true, decide_eq_true_eq]
          exact ⟨⟨⟨by omega, by omega⟩, ⟨Nat.ble_eq_true_of_le (by omega), Nat.ble_eq_true_of_le (by omega)⟩, Nat.ble_eq_true_of_le (by omega)⟩, ⟨trivial, trivial⟩, trivial⟩
        rw [e1, e3, e4, e5, e6, toList_beq x x, decide_eq_true rfl, decide_eq_true (show ((wrS x).size : Int) ≤ 68719476736 by omega), W_id (n := 3 * (x.size : Int)) (by omega) (by omega), decide_eq_false (show ¬ ((wrS x).size : Int) > 3 * (x.size : Int) by omega)]
        simp only [Bool.not_true, cond_true, cond_false, beq_self_eq_true]
        exact .inr next
    · refine .inl ?_
      rw [decide_eq_false hk, hr']; rfl
  · cases hp
noncomputable def G3 : EnvK := G2.addW 5 5 [7, 8, 32, 33, 34] [] shBO pBO fBO
theorem okg3 : EnvOK Tryd.prog G3.env :=
  okg2.addW (n := 60) Tryd.func5 (show Tryd.f5.body = some (bod Tryd.f5) by kernel_rfl) (show (loops (bod Tryd.f5)).filter (fun b => rid b == 5) = [lpb Tryd.f5 5] by kernel_rfl) [7, 8, 32, 33, 34] [7] [] shBO mBO sBO
set_option maxRecDepth 100000 in
theorem qL5 (f g : Bool) (ls ms : List PV) (s : ByteArray) : runP Tryd.prog G3 60 5 [.lst f 3 ls, .lst g 3 ms, sv s] =
  bif decide ((0 : Int) ≤ 0) && decide (0 ≤ mn60 s) && decide (mn60 s ≤ (s.size : Int)) then
  bif pBO (lBO true 0 (mdS ls) (mdS ms) (cut60 s)) then some (bv true) else none else none := by kernel_rfl
theorem law5 (f g : Bool) (ls ms : List PV) (s : ByteArray) : runP Tryd.prog G3 60 5 [.lst f 3 ls, .lst g 3 ms, sv s] = some (bv true) := by
  have h1 := mdS_size ls
  have h1' := mdS_size ms
  have h2 := cut60_size s
  have h3 := mn60_ok s
  have hp : pBO (lBO true 0 (mdS ls) (mdS ms) (cut60 s)) = true := by
    show (decide ((0 : Int) ≤ 0) && decide ((0 : Int) ≤ 3) && (Nat.ble (mdS ls).size 1000 && Nat.ble (mdS ms).size 1000 && Nat.ble (cut60 s).size 1000)) = true
    simp only [Bool.and_eq_true, decide_eq_true_eq]
    exact ⟨⟨by omega, by omega⟩, ⟨Nat.ble_eq_true_of_le (by omega), Nat.ble_eq_true_of_le (by omega)⟩, Nat.ble_eq_true_of_le (by omega)⟩
  rw [qL5, decide_eq_true (Int.le_refl _), decide_eq_true h3.1, decide_eq_true h3.2.1, hp]
  rfl
theorem law5P (f g : Bool) (ls ms : List PV) (s : ByteArray) : PCall Tryd.prog 5 [.lst f 3 ls, .lst g 3 ms, sv s] (bv true) := (runP_sound okg3 (n := 60) (law5 f g ls ms s)).2
end Go.Ht
/- Braille: the frames of the laws: their arguments, the laid variable. -/
namespace Go.Proofs.YtooeeombopgghaaDoor
open Go.ChangeShapes Go.WideShapes Go.ChangeAt Go.RowKit Go.Hx Go.Ht

theorem own : ownKnob Tryd.prog.godebug = none := by kernel_rfl
theorem laidOut : laidOutB Tryd.prog = true := by kernel_rfl
theorem wt_nil {ps : List PV} (h : wtcs [] ps = true) : ps = [] := by
  cases ps with
  | nil => rfl
  | cons p ps => simp [wtcs] at h
theorem wtc_int {k : IntKind} {p : PV} (h : wtc (.int k) p = true) : ∃ n, p = .val (.int k n) := by
  cases p with
  | val v => cases v <;> simp_all [wtc]
  | lst f t es => simp_all [wtc]
  | _ => simp [wtc] at h
theorem wt_int {k : IntKind} {ks : List Kind} {ps : List PV} (h : wtcs ((.int k) :: ks) ps = true) : ∃ n qs, ps = .val (.int k n) :: qs ∧ wtcs ks qs = true := by
  cases ps with
  | nil => simp [wtcs] at h
  | cons p ps =>
    simp only [wtcs, Bool.and_eq_true] at h
    obtain ⟨n, rfl⟩ := wtc_int h.1
    exact ⟨n, ps, rfl, h.2⟩
theorem wtc_bool {p : PV} (h : wtc (.bool) p = true) : ∃ b, p = .val (.bool b) := by
  cases p with
  | val v => cases v <;> simp_all [wtc]
  | lst f t es => simp_all [wtc]
  | _ => simp [wtc] at h
theorem wt_bool {ks : List Kind} {ps : List PV} (h : wtcs ((.bool) :: ks) ps = true) : ∃ b qs, ps = .val (.bool b) :: qs ∧ wtcs ks qs = true := by
  cases ps with
  | nil => simp [wtcs] at h
  | cons p ps =>
    simp only [wtcs, Bool.and_eq_true] at h
    obtain ⟨b, rfl⟩ := wtc_bool h.1
    exact ⟨b, ps, rfl, h.2⟩
theorem wtc_str {p : PV} (h : wtc (.str) p = true) : ∃ s, p = .val (.string s) := by
  cases p with
  | val v => cases v <;> simp_all [wtc]
  | lst f t es => simp_all [wtc]
  | _ => simp [wtc] at h
theorem wt_str {ks : List Kind} {ps : List PV} (h : wtcs ((.str) :: ks) ps = true) : ∃ s qs, ps = .val (.string s) :: qs ∧ wtcs ks qs = true := by
  cases ps with
  | nil => simp [wtcs] at h
  | cons p ps =>
    simp only [wtcs, Bool.and_eq_true] at h
    obtain ⟨s, rfl⟩ := wtc_str h.1
    exact ⟨s, ps, rfl, h.2⟩
theorem wtc_sl {e : TypeId} {p : PV} (h : wtc (.sl e) p = true) : ∃ f es, p = .lst f e es := by
  cases p with
  | val v => cases v <;> simp [wtc] at h
  | lst f t es =>
    have : e = t := by simpa [wtc] using h
    subst this
    exact ⟨f, es, rfl⟩
  | _ => simp [wtc] at h
theorem wt_sl {e : TypeId} {ks : List Kind} {ps : List PV} (h : wtcs (.sl e :: ks) ps = true) : ∃ f es qs, ps = .lst f e es :: qs ∧ wtcs ks qs = true := by
  cases ps with
  | nil => simp [wtcs] at h
  | cons p ps =>
    simp only [wtcs, Bool.and_eq_true] at h
    obtain ⟨f, es, rfl⟩ := wtc_sl h.1
    exact ⟨f, es, ps, rfl, h.2⟩
theorem fit_i64 {n : Int} (h : Fit (.val (.int .i64 n))) : -9223372036854775808 ≤ n ∧ n ≤ 9223372036854775807 := by
  cases h with
  | int h => exact bounds_i64 h
theorem fit_u8 {n : Int} (h : Fit (.val (.int .u8 n))) : 0 ≤ n ∧ n ≤ 255 := by
  cases h with
  | int h => exact bounds_u8 h
theorem fit_u16 {n : Int} (h : Fit (.val (.int .u16 n))) : 0 ≤ n ∧ n ≤ 65535 := by
  cases h with
  | int h => exact bounds_u16 h
theorem rv_agg {t : TypeId} {ps : List PV} {W : World} {v : Value} (h : RV Tryd.prog (Ctx.of W) (mkE Tryd.prog t ps) v) (ha : isAggT Tryd.prog t = true) : RV Tryd.prog (Ctx.of W) (.agg ps) v := by
  unfold mkE at h
  rwa [if_pos ha] at h
theorem rv_one {t : TypeId} {p : PV} {W : World} {v : Value} (h : RV Tryd.prog (Ctx.of W) (mkE Tryd.prog t [p]) v) (ha : isAggT Tryd.prog t = false) : RV Tryd.prog (Ctx.of W) p v := by
  unfold mkE at h
  rwa [if_neg (by simp [ha])] at h
theorem cs_one {W : World} {p : PV} {v : Value} (h1 : RV Tryd.prog (Ctx.of W) p v) : Cs Tryd.prog (Ctx.of W) [p] #[v] := by
  refine ⟨rfl, fun j c x a b => ?_⟩
  match j with
  | 0 => simp at a b; subst a; subst b; exact h1
  | j + 1 => simp at a
theorem cs_four {W : World} {p q s t : PV} {v u x y : Value} (h1 : RV Tryd.prog (Ctx.of W) p v) (h2 : RV Tryd.prog (Ctx.of W) q u) (h3 : RV Tryd.prog (Ctx.of W) s x) (h4 : RV Tryd.prog (Ctx.of W) t y) : Cs Tryd.prog (Ctx.of W) [p, q, s, t] #[v, u, x, y] := by
  refine ⟨rfl, fun j c z a b => ?_⟩
  match j with
  | 0 => simp at a b; subst a; subst b; exact h1
  | 1 => simp at a b; subst a; subst b; exact h2
  | 2 => simp at a b; subst a; subst b; exact h3
  | 3 => simp at a b; subst a; subst b; exact h4
  | j + 4 => simp at a
theorem cs_two {W : World} {p q : PV} {v u : Value} (h1 : RV Tryd.prog (Ctx.of W) p v) (h2 : RV Tryd.prog (Ctx.of W) q u) : Cs Tryd.prog (Ctx.of W) [p, q] #[v, u] := by
  refine ⟨rfl, fun j c x a b => ?_⟩
  match j with
  | 0 => simp at a b; subst a; subst b; exact h1
  | 1 => simp at a b; subst a; subst b; exact h2
  | j + 2 => simp at a
theorem cs_three {W : World} {p q s : PV} {v u x : Value} (h1 : RV Tryd.prog (Ctx.of W) p v) (h2 : RV Tryd.prog (Ctx.of W) q u) (h3 : RV Tryd.prog (Ctx.of W) s x) : Cs Tryd.prog (Ctx.of W) [p, q, s] #[v, u, x] := by
  refine ⟨rfl, fun j c y a b => ?_⟩
  match j with
  | 0 => simp at a b; subst a; subst b; exact h1
  | 1 => simp at a b; subst a; subst b; exact h2
  | 2 => simp at a b; subst a; subst b; exact h3
  | j + 3 => simp at a
theorem gNone : Tryd.prog.globalNamed "hachure/braille.none" = some 0 := by kernel_rfl
theorem gNoneT : (Tryd.prog.globals[0]?).map (·.type) = some 57 := by kernel_rfl
theorem only0 : (List.range Tryd.prog.globals.size).all (fun g => !isLaid Tryd.prog g || Nat.beq g 0) = true := by kernel_rfl
theorem nm101 : Tryd.prog.typeName? 3 101 = some "*errors.errorString" := by kernel_rfl
/-- What the laid variable gives the machine. -/
theorem glb_of_laid {W : World} (hL : laidMetH Tryd.prog [("hachure/braille.none", Rows.laid_hachure_braille_none)] W) : Glb Tryd.prog (Ctx.of W) := by
  have hL' : laidMet Tryd.prog [("hachure/braille.none", Rows.laid_hachure_braille_none)] W := hL
  obtain ⟨a, s, hv, hc, _, _⟩ := laid_sentinel (ms := _) (f := _) hL' gNone gNoneT Tryd.underlying57 (fun u h => Go.Ht.err_101 h) Tryd.underlying101 Tryd.underlying125 rfl rfl Tryd.underlying9 (by kernel_rfl) (by kernel_rfl)
  intro g hg
  have hlt : g < Tryd.prog.globals.size := by
    unfold isLaid at hg
    split at hg
    · rename_i G hG; exact (Array.getElem?_eq_some_iff.1 hG).1
    · cases hg
  have h0 := List.all_eq_true.1 only0 g (List.mem_range.2 hlt)
  rw [hg, Bool.not_true, Bool.false_or] at h0
  obtain rfl := Nat.eq_of_beq_eq_true h0
  have hcell : W.cell? ⟨0, 0, none⟩ = some (.iface 101 (.pointer (some a))) := by simpa using World.var?_cell gNone hv 0
  refine ⟨of_ban W 0, ?_, 101, a, hcell, nm101⟩
  exact World.block_lt_of_cell? _ _ hcell
abbrev noneS : ByteArray := { data := #[110, 111, 32, 98, 114, 97, 105, 108, 108, 101] }
noncomputable def low : Nat := (World.holding Tryd.prog default ⟨#[], #[], []⟩).heap.size
noncomputable def laidWorld (os : Os) : World :=
  let w0 := World.holding Tryd.prog os ⟨#[.cells #[.string noneS] 125], #[], []⟩
  { w0 with heap := w0.heap.modify 0 fun
      | .cells _ t frozen => .cells #[.iface 101 (.pointer (some ⟨low, 0, none⟩))] t frozen
      | o => o }
theorem laid_met (os : Os) (args : Array Value) : laidMetH Tryd.prog [("hachure/braille.none", Rows.laid_hachure_braille_none)] ((laidWorld os).forCall (fun _ _ => 0) ⟨#[], args, []⟩).memory :=
  laidMet_of_run (ps := [.cell 0 0, .cell low 0]) 8 (by kernel_rfl) (by kernel_rfl) (by kernel_rfl)
theorem wants_no {l : Array TypeId} (h : l.toList.all (fun t => !Tryd.prog.wantsStandIn t) = true) {j : Nat} {t : TypeId} (ht : l[j]? = some t) : Tryd.prog.wantsStandIn t = false := by
  have hm : t ∈ l.toList := by
    rw [← Array.getElem?_toList] at ht
    exact List.mem_of_getElem? ht
  simpa using List.all_eq_true.1 h t hm
end Go.Proofs.YtooeeombopgghaaDoor
