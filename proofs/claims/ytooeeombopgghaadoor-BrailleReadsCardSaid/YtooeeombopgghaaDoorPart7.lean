/- Braille: the law of decoding: what was written is read as the text. -/
import Derived.Test.YtooeeombopgghaaDoorPart6
import Derived.Test.YtooeeombopgghaaDoorRows
import Derived.Test.YtooeeombopgghaaDoorPart4
import Derived.Test.YtooeeombopgghaaDoorTie
import Derived.Test.YtooeeombopgghaaDoorCards
import Derived.Stop.LaidErr
import Derived.LaidHandle
import Derived.SevenTiedAt
namespace Go.Ht
open Go.Hx Go.Proofs
theorem dc_takes {f g : Bool} {s : ByteArray} {x : List UInt8} {l : List Int} (h : Takes f s x l g) : ∃ s', nl s' = l ∧ ∀ es, dc s f es = dc s' g (es ++ x) := by
  obtain ⟨h1, h2, h3, h4, h5⟩ := h
  refine ⟨_, h4, fun es => ?_⟩
  rw [dc_step h1 (by rw [h2]; rfl), h3, h5]
theorem by8_app (l r : List Int) : by8 (l ++ r) = by8 l ++ by8 r := List.map_append
theorem by8_cons (c : Int) (r : List Int) : by8 (c :: r) = [UInt8.ofNat c.toNat] ++ by8 r := rfl
/-- Characters that a text may have. -/
def goodL (l : List Int) : Prop := ∀ c, c ∈ l → 32 ≤ c ∧ c ≤ 126
theorem cls_takes {f : Bool} {c : Int} {s : ByteArray} {l : List Int} (c0 : 32 ≤ c) (c1 : c ≤ 126) (h : nl s = clsL c f ++ l) : Takes f s [UInt8.ofNat c.toNat] l (dgB c) := by
  by_cases hl : 97 ≤ c ∧ c ≤ 122
  · have hd : dgB c = false := by unfold dgB; rw [decide_eq_false (show ¬ c ≤ 57 by omega), Bool.and_false]
    have e : UInt8.ofNat (97 + (c - 97)).toNat = UInt8.ofNat c.toNat := by rw [show 97 + (c - 97) = c by omega]
    unfold clsL at h
    rw [decide_eq_true hl.1, decide_eq_true hl.2, B8_id (n := c - 97) (by omega) (by omega)] at h
    rw [hd, ← e]
    cases hf : f && decide (c ≤ 106) with
    | true =>
      rw [hf] at h
      rw [Bool.and_eq_true, decide_eq_true_eq] at hf
      exact takes_lmark h (by omega) (by omega)
    | false =>
      rw [hf] at h
      refine takes_letter h (by omega) (by omega) ?_
      cases f with
      | false => exact .inl rfl
      | true => rw [Bool.true_and, decide_eq_false_iff_not] at hf; exact .inr (by omega)
  · have h1 : clsL c f = clsNL c f := by
      unfold clsL
      have : (decide (97 ≤ c) && decide (c ≤ 122)) = false := by
        rw [Bool.and_eq_false_iff, decide_eq_false_iff_not, decide_eq_false_iff_not]; omega
      rw [this]; rfl
    rw [h1] at h
    by_cases hu : 65 ≤ c ∧ c ≤ 90
    · have hd : dgB c = false := by unfold dgB; rw [decide_eq_false (show ¬ c ≤ 57 by omega), Bool.and_false]
      have e : UInt8.ofNat (65 + (c - 65)).toNat = UInt8.ofNat c.toNat := by rw [show 65 + (c - 65) = c by omega]
      unfold clsNL at h
      rw [decide_eq_true hu.1, decide_eq_true hu.2, B8_id (n := c - 65) (by omega) (by omega)] at h
      rw [hd, ← e]
      exact takes_cap h (by omega) (by omega)
    · have h2 : clsNL c f = clsUL c f := by
        unfold clsNL
        have : (decide (65 ≤ c) && decide (c ≤ 90)) = false := by
          rw [Bool.and_eq_false_iff, decide_eq_false_iff_not, decide_eq_false_iff_not]; omega
        rw [this]; rfl
      rw [h2] at h
      unfold clsUL at h
      cases hd : dgB c with
      | true =>
        rw [hd, cond_true] at h
        unfold dgB at hd
        rw [Bool.and_eq_true, decide_eq_true_eq, decide_eq_true_eq] at hd
        have hn : (B8 (B8 (c - 48) + 9)).tmod 10 = (c - 39) % 10 := by
          rw [B8_id (n := c - 48) (by omega) (by omega), B8_id (by omega) (by omega), Int.tmod_eq_emod_of_nonneg (by omega)]
          congr 1; omega
        rw [hn] at h
        have e : UInt8.ofNat (48 + ((c - 39) % 10 + 1).tmod 10).toNat = UInt8.ofNat c.toNat := by
          rw [Int.tmod_eq_emod_of_nonneg (by omega), show 48 + ((c - 39) % 10 + 1) % 10 = c by omega]
        rw [← e]
        cases f with
        | true => exact takes_digit h (by omega) (by omega)
        | false => exact takes_nmark h (by omega) (by omega)
      | false =>
        rw [hd, cond_false] at h
        by_cases hi : ixB c ≥ 0
        · rw [decide_eq_true hi] at h
          exact takes_sign (by omega) (by omega) hi h
        · have h1 : c.tdiv 16 = c / 16 := Int.tdiv_eq_ediv_of_nonneg (by omega)
          have h2 : c.tmod 16 = c % 16 := Int.tmod_eq_emod_of_nonneg (by omega)
          rw [decide_eq_false hi, h1, h2, B8_id (n := c / 16) (by omega) (by omega)] at h
          have e : UInt8.ofNat (16 * (c / 16) + c % 16).toNat = UInt8.ofNat c.toNat := by rw [show 16 * (c / 16) + c % 16 = c by omega]
          rw [← e]
          exact takes_other h (by omega) (by omega) (by omega) (by omega)
theorem decode : ∀ (n : Nat) (l : List Int), l.length ≤ n → goodL l → ∀ (f : Bool) (s : ByteArray) (es : List UInt8), nl s = wrl f l → (dc s f es).1 = true ∧ (dc s f es).2.1 = es ++ by8 l
  | n, [], _, _, f, s, es, h => by
    rw [wrl_nil] at h
    have : s.size = 0 := by rw [← nl_len, h]; rfl
    rw [dc_end (isE_eq.2 this)]
    exact ⟨rfl, by simp [by8]⟩
  | 0, c :: r, hl, _, _, _, _, _ => by simp at hl
  | n + 1, c :: r, hl, hg, f, s, es, h => by
    rw [List.length_cons] at hl
    have hc := hg c (by simp)
    rcases wix_cases (c :: r) with g | ⟨j, hj, g1, t, g2⟩
    · rw [wrl_none g] at h
      obtain ⟨s', h1, h2⟩ := dc_takes (cls_takes hc.1 hc.2 h)
      obtain ⟨i1, i2⟩ := decode n r (by omega) (fun x hx => hg x (by simp [hx])) (dgB c) s' (es ++ [UInt8.ofNat c.toNat]) h1
      rw [h2]
      refine ⟨i1, ?_⟩
      rw [i2, by8_cons, List.append_assoc]
    · obtain ⟨w1, w2, w3, w4, w5⟩ := wd_facts hj
      rw [wrl_word hj g1 g2.symm] at h
      obtain ⟨s', h1, h2⟩ := dc_takes (takes_word (f := f) hj h)
      have hlen := congrArg List.length g2
      rw [List.length_append, List.length_cons] at hlen
      obtain ⟨i1, i2⟩ := decode n t (by omega) (fun x hx => hg x (by rw [← g2]; simp [hx])) false s' (es ++ by8 (wd j)) h1
      rw [h2]
      refine ⟨i1, ?_⟩
      rw [i2, ← g2, by8_app, List.append_assoc]
theorem good_of {t : ByteArray} (h : rgtB t = true) : goodL (nl t) := by
  rw [rgt_all] at h
  intro c hc
  have := List.all_eq_true.1 h c hc
  unfold badC at this
  simp only [Bool.not_eq_true', Bool.or_eq_false_iff, decide_eq_false_iff_not] at this
  omega
/-- Reading what was written. -/
theorem dT_wrB {t : ByteArray} (h : rgtB t = true) : (dc (wrB t) false []).1 = true ∧ dT (wrB t) = t := by
  obtain ⟨h1, h2⟩ := decode (nl t).length (nl t) (Nat.le_refl _) (good_of h) false (wrB t) [] (nl_wrB t)
  refine ⟨h1, ?_⟩
  unfold dT
  rw [h2, List.nil_append, by8_nl]
theorem rd_wr {t : ByteArray} (h : rgtB t = true) : rdOk (wrB t) = true := by
  obtain ⟨h1, h2⟩ := dT_wrB h
  unfold rdOk
  rw [h1, h2, h, decide_eq_true rfl]; rfl
end Go.Ht
/- Braille: BrailleBack's loops. -/
namespace Go.Ht
open Go.Hx Go.Proofs
noncomputable def hidB {α : Type} (x : α) : α := Classical.choose (⟨x, rfl⟩ : ∃ y, y = x)
theorem hidB_eq {α : Type} (x : α) : hidB x = x := Classical.choose_spec (⟨x, rfl⟩ : ∃ y, y = x)
/-! the cells are less than 64 -/
def shBA : S1 := ⟨113, [(7, .bool), (8, .sl 0), (10, .str), (11, .str), (15, I64), (32, .sl 0), (33, I64), (34, I64)], [.many 9 1]⟩
abbrev lBA (h : Bool) (n m : Nat) (x c : ByteArray) (k : Int) (n2 m2 : Nat) (len i : Int) (ts : List PV) : LS := ([.b h, .n n, .n m, .s x, .s c, .i k, .n n2, .n m2, .i len, .i i], [.l false ts])
noncomputable abbrev xBA (p : PX) (h : Bool) (n m : Nat) (x c : ByteArray) (n2 m2 : Nat) (len i : Int) (ts : List PV) : PX × List PV × List Row :=
  (p, tm 113 [(7, bv h), (8, .sl 0 n 0 m), (10, sv x), (11, sv c), (32, .sl 0 n2 0 m2), (33, iv len), (34, iv i)], [⟨ts, 1, 9, true, true, false, none, false⟩])
theorem qBA (h : Bool) (n m : Nat) (x c : ByteArray) (k : Int) (n2 m2 : Nat) (len i : Int) (ts : List PV) : runB Tryd.prog F8 60 5 (lpb Tryd.f5 15) [7, 8, 10, 11, 15, 32, 33, 34] [7, 8, 10, 11, 32, 33, 34] (shBA.put (lBA h n m x c k n2 m2 len i ts)).1 (shBA.put (lBA h n m x c k n2 m2 len i ts)).2 =
  bif decide (k < (c.size : Int)) then bif decide (0 ≤ k) && decide (k < (c.size : Int)) then bif decide (gt c k > 63) then some (xBA .ret h n m x c n2 m2 len i ts) else some (.normal, shBA.put (lBA h n m x c (W (k + 1)) n2 m2 len i ts)) else none
  else some (xBA (.exit 2) h n m x c n2 m2 len i ts) := by kernel_rfl
def allA (c : ByteArray) (k : Int) : Bool := ((nl c).drop k.toNat).all fun x => decide (x ≤ 63)
noncomputable def pBA : LS → Bool
  | ([.b _, .n _, .n _, .s _, .s c, .i k, .n _, .n _, .i _, .i _], [.l false _]) => hidB (decide (0 ≤ k) && decide (k ≤ (c.size : Int)) && Nat.ble c.size 1000000 && allA c k)
  | _ => false
noncomputable def fBA : LS → DT (PX × List PV × List Row)
  | ([.b h, .n n, .n m, .s x, .s c, .i _, .n n2, .n m2, .i len, .i i], [.l _ ts]) => .leaf (xBA (.exit 2) h n m x c n2 m2 len i ts)
  | _ => .no
def mBA : LS → Nat
  | ([.b _, .n _, .n _, .s _, .s c, .i k, .n _, .n _, .i _, .i _], [.l _ _]) => ((c.size : Int) - k).toNat
  | _ => 0
theorem sBA : ∀ s r, pBA s = true → (fBA s).run = some r → r.1 ≠ .normal ∧ (runB Tryd.prog F8 60 5 (lpb Tryd.f5 15) [7, 8, 10, 11, 15, 32, 33, 34] [7, 8, 10, 11, 32, 33, 34] (shBA.put s).1 (shBA.put s).2 = some r ∨
      ∃ s', runB Tryd.prog F8 60 5 (lpb Tryd.f5 15) [7, 8, 10, 11, 15, 32, 33, 34] [7, 8, 10, 11, 32, 33, 34] (shBA.put s).1 (shBA.put s).2 = some (.normal, shBA.put s') ∧ pBA s' = true ∧ mBA s' < mBA s ∧ (fBA s').run = some r) := by
  intro t r hp hr
  unfold pBA at hp; split at hp
  · rename_i h n m x c k n2 m2 len i ts
    rw [hidB_eq] at hp
    simp only [Bool.and_eq_true, decide_eq_true_eq] at hp
    obtain ⟨⟨⟨h1, h2⟩, h3⟩, h4⟩ := hp
    have h3 := Nat.le_of_ble_eq_true h3
    have hr' := (Option.some.inj hr).symm
    refine ⟨by rw [hr']; simp, ?_⟩
    rw [show shBA.put ([.b h, .n n, .n m, .s x, .s c, .i k, .n n2, .n m2, .i len, .i i], [.l false ts]) = shBA.put (lBA h n m x c k n2 m2 len i ts) from rfl, qBA]
    by_cases hk : k < (c.size : Int)
    · have hl : k.toNat < (nl c).length := by rw [nl_len]; omega
      have hd : (nl c).drop k.toNat = gt c k :: (nl c).drop (k.toNat + 1) := by
        rw [List.drop_eq_getElem_cons hl, gt_nl, List.getD_eq_getElem?_getD, List.getElem?_eq_getElem hl]; rfl
      unfold allA at h4
      rw [hd, List.all_cons, Bool.and_eq_true, decide_eq_true_eq] at h4
      rw [decide_eq_true hk, decide_eq_true h1, decide_eq_false (show ¬ gt c k > 63 by omega), W_id (by omega) (by omega)]
      refine .inr ⟨lBA h n m x c (k + 1) n2 m2 len i ts, rfl, ?_, ?_, ?_⟩
      · show hidB _ = true
        rw [hidB_eq]
        simp only [Bool.and_eq_true, decide_eq_true_eq]
        refine ⟨⟨⟨by omega, by omega⟩, Nat.ble_eq_true_of_le h3⟩, ?_⟩
        unfold allA
        rw [show (k + 1).toNat = k.toNat + 1 by omega]; exact h4.2
      · show ((c.size : Int) - (k + 1)).toNat < ((c.size : Int) - k).toNat
        omega
      · rw [hr']; rfl
    · refine .inl ?_
      rw [decide_eq_false hk, hr']; rfl
  · cases hp
noncomputable def G1 : EnvK := F8.addW 5 15 [7, 8, 10, 11, 15, 32, 33, 34] [] shBA pBA fBA
theorem okg1 : EnvOK Tryd.prog G1.env :=
  okf8.addW (n := 60) Tryd.func5 (show Tryd.f5.body = some (bod Tryd.f5) by kernel_rfl) (show (loops (bod Tryd.f5)).filter (fun b => rid b == 15) = [lpb Tryd.f5 15] by kernel_rfl) [7, 8, 10, 11, 15, 32, 33, 34] [7, 8, 10, 11, 32, 33, 34] [] shBA mBA sBA
/-! different texts have different cells -/
def shBB : S1 := ⟨113, [(7, .bool), (8, .sl 0), (10, .str), (11, .str), (32, .sl 0), (33, I64), (34, I64), (88, .sl 0), (89, I64), (90, I64)], [.many 9 1]⟩
def ts3 (a b d : ByteArray) : List PV := [sv a, sv b, sv d]
abbrev lBB (h : Bool) (x c : ByteArray) (i k : Int) (a b d : ByteArray) : LS := ([.b h, .n 3, .n 3, .s x, .s c, .n 3, .n 3, .i 3, .i i, .n 3, .n 3, .i 3, .i k], [.l false (ts3 a b d)])
noncomputable abbrev xBB (p : PX) (h : Bool) (i : Int) (a b d : ByteArray) : PX × List PV × List Row :=
  (p, tm 113 [(7, bv h), (8, .sl 0 3 0 3), (32, .sl 0 3 0 3), (33, iv 3), (34, iv i)], [⟨ts3 a b d, 1, 9, true, true, false, none, false⟩])
def tsA (a b d : ByteArray) (k : Int) : ByteArray := (((ts3 a b d).getD (0 + k.toNat) .any).cellAt 0).getS
theorem qBB (h : Bool) (x c : ByteArray) (i k : Int) (a b d : ByteArray) : runB Tryd.prog G1 60 5 (lpb Tryd.f5 20) [7, 8, 10, 11, 32, 33, 34, 88, 89, 90] [7, 8, 32, 33, 34] (shBB.put (lBB h x c i k a b d)).1 (shBB.put (lBB h x c i k a b d)).2 =
  bif decide (k < 3) then bif decide (0 ≤ k) && decide (k < 3) then bif decide (((tsA a b d k).size : Int) ≤ 1099511627776) then
    bif decide (wrE (tsA a b d k) = 0) then bif !(((wrS (tsA a b d k)).toList == c.toList) == ((tsA a b d k).toList == x.toList)) then some (xBB .ret h i a b d) else some (.normal, shBB.put (lBB h x c i (W (k + 1)) a b d))
    else some (.normal, shBB.put (lBB h x c i (W (k + 1)) a b d)) else none else none
  else some (xBB (.exit 4) h i a b d) := by kernel_rfl
def okY (x c y : ByteArray) : Bool := !decide (wrE y = 0) || (decide (wrS y = c) == decide (y = x))
noncomputable def okBB (x c : ByteArray) (k : Int) (a b d : ByteArray) : Bool := hidB (decide (0 ≤ k) && decide (k ≤ 3) && (Nat.ble a.size 1000000 && Nat.ble b.size 1000000 && Nat.ble d.size 1000000) && (okY x c a && okY x c b && okY x c d))
noncomputable def pBB : LS → Bool
  | ([.b _, .n 3, .n 3, .s x, .s c, .n 3, .n 3, .i 3, .i _, .n 3, .n 3, .i 3, .i k], [.l false [.val (.string a), .val (.string b), .val (.string d)]]) => okBB x c k a b d
  | _ => false
noncomputable def fBB : LS → DT (PX × List PV × List Row)
  | ([.b h, .n _, .n _, .s _, .s _, .n _, .n _, .i _, .i i, .n _, .n _, .i _, .i _], [.l _ [.val (.string a), .val (.string b), .val (.string d)]]) => .leaf (xBB (.exit 4) h i a b d)
  | _ => .no
def mBB : LS → Nat
  | ([.b _, .n _, .n _, .s _, .s _, .n _, .n _, .i _, .i _, .n _, .n _, .i _, .i k], [.l _ _]) => (3 - k).toNat
  | _ => 0
theorem tsA_cases {a b d : ByteArray} {k : Int} (h0 : 0 ≤ k) (h1 : k < 3) : tsA a b d k = a ∨ tsA a b d k = b ∨ tsA a b d k = d := by
  have : k = 0 ∨ k = 1 ∨ k = 2 := by omega
  rcases this with rfl | rfl | rfl
  · exact .inl rfl
  · exact .inr (.inl rfl)
  · exact .inr (.inr rfl)
theorem sBB : ∀ s r, pBB s = true → (fBB s).run = some r → r.1 ≠ .normal ∧ (runB Tryd.prog G1 60 5 (lpb Tryd.f5 20) [7, 8, 10, 11, 32, 33, 34, 88, 89, 90] [7, 8, 32, 33, 34] (shBB.put s).1 (shBB.put s).2 = some r ∨
      ∃ s', runB Tryd.prog G1 60 5 (lpb Tryd.f5 20) [7, 8, 10, 11, 32, 33, 34, 88, 89, 90] [7, 8, 32, 33, 34] (shBB.put s).1 (shBB.put s).2 = some (.normal, shBB.put s') ∧ pBB s' = true ∧ mBB s' < mBB s ∧ (fBB s').run = some r) := by
  intro t r hp hr
  unfold pBB at hp; split at hp
  · rename_i h x c i k a b d
    unfold okBB at hp
    rw [hidB_eq] at hp
    have hp0 := hp
    simp only [Bool.and_eq_true, decide_eq_true_eq] at hp
    obtain ⟨⟨⟨h1, h2⟩, ⟨h3, h4⟩, h5⟩, ⟨y1, y2⟩, y3⟩ := hp
    have h3 := Nat.le_of_ble_eq_true h3
    have h4 := Nat.le_of_ble_eq_true h4
    have h5 := Nat.le_of_ble_eq_true h5
    have hr' := (Option.some.inj hr).symm
    refine ⟨by rw [hr']; simp, ?_⟩
    rw [show shBB.put ([.b h, .n 3, .n 3, .s x, .s c, .n 3, .n 3, .i 3, .i i, .n 3, .n 3, .i 3, .i k], [.l false [.val (.string a), .val (.string b), .val (.string d)]]) = shBB.put (lBB h x c i k a b d) from rfl, qBB]
    by_cases hk : k < 3
    · have hy : okY x c (tsA a b d k) = true ∧ (tsA a b d k).size ≤ 1000000 := by
        rcases tsA_cases (a := a) (b := b) (d := d) h1 hk with e | e | e <;> rw [e] <;> exact ⟨by assumption, by assumption⟩
      have next : ∃ s', (some (PX.normal, shBB.put (lBB h x c i (W (k + 1)) a b d)) : Option (PX × List PV × List Row)) = some (.normal, shBB.put s') ∧ pBB s' = true ∧ mBB s' < mBB ([.b h, .n 3, .n 3, .s x, .s c, .n 3, .n 3, .i 3, .i i, .n 3, .n 3, .i 3, .i k], [.l false [.val (.string a), .val (.string b), .val (.string d)]]) ∧ (fBB s').run = some r := by
        rw [W_id (by omega) (by omega)]
        refine ⟨_, rfl, ?_, ?_, ?_⟩
        · show okBB x c (k + 1) a b d = true
          unfold okBB
          rw [hidB_eq]
          simp only [Bool.and_eq_true, decide_eq_true_eq] at hp0 ⊢
          exact ⟨⟨⟨by omega, by omega⟩, hp0.1.2⟩, hp0.2⟩
        · show (3 - (k + 1)).toNat < (3 - k).toNat
          omega
        · rw [hr']; rfl
      rw [decide_eq_true hk, decide_eq_true h1, decide_eq_true (show ((tsA a b d k).size : Int) ≤ 1099511627776 by omega)]
      simp only [cond_true, Bool.and_self]
      have hy1 := hy.1
      unfold okY at hy1
      cases he : decide (wrE (tsA a b d k) = 0) with
      | true =>
        rw [he, Bool.not_true, Bool.false_or] at hy1
        rw [cond_true, toList_beq, toList_beq, hy1]
        exact .inr next
      | false => exact .inr next
    · refine .inl ?_
      rw [decide_eq_false hk, hr']; rfl
  · cases hp
noncomputable def G2 : EnvK := G1.addW 5 20 [7, 8, 10, 11, 32, 33, 34, 88, 89, 90] [] shBB pBB fBB
theorem okg2 : EnvOK Tryd.prog G2.env :=
  okg1.addW (n := 60) Tryd.func5 (show Tryd.f5.body = some (bod Tryd.f5) by kernel_rfl) (show (loops (bod Tryd.f5)).filter (fun b => rid b == 20) = [lpb Tryd.f5 20] by kernel_rfl) [7, 8, 10, 11, 32, 33, 34, 88, 89, 90] [7, 8, 32, 33, 34] [] shBB mBB sBB
/-! the texts, one after the other -/
def shBO : S1 := ⟨113, [(7, .bool), (8, .sl 0), (32, .sl 0), (33, I64), (34, I64)], [.many 9 1]⟩
abbrev lBO (h : Bool) (i : Int) (a b d : ByteArray) : LS := ([.b h, .n 3, .n 3, .n 3, .n 3, .i 3, .i i], [.l false (ts3 a b d)])
noncomputable abbrev xBO (p : PX) (h : Bool) (a b d : ByteArray) : PX × List PV × List Row := (p, tm 113 [(7, bv h)], [⟨ts3 a b d, 1, 9, true, true, false, none, false⟩])
noncomputable def tailB (h : Bool) (i : Int) (x a b d : ByteArray) : RR :=
  bif !decide (wrE x = 0) then some (.normal, shBO.put (lBO h (W (i + 1)) a b d)) else
  bif decide (((wrS x).size : Int) ≤ 68719476736) then bif !decide (rdE (wrS x) = 0) then some (xBO .ret h a b d) else bif !((rdS (wrS x)).toList == x.toList) then some (xBO .ret h a b d) else
    bif decide (((wrS x).size : Int) > W (3 * (x.size : Int))) then some (xBO .ret h a b d) else
    bif pBA (lBA h 3 3 x (wrS x) 0 3 3 3 i (ts3 a b d)) then bif pBB (lBB h x (wrS x) i 0 a b d) then some (.normal, shBO.put (lBO h (W (i + 1)) a b d)) else none else none
  else none
set_option maxRecDepth 100000 in
theorem qBO (h : Bool) (i : Int) (a b d : ByteArray) : runB Tryd.prog G2 60 5 (lpb Tryd.f5 5) [7, 8, 32, 33, 34] [7] (shBO.put (lBO h i a b d)).1 (shBO.put (lBO h i a b d)).2 =
  bif decide (i < 3) then bif decide (0 ≤ i) && decide (i < 3) then bif decide (((tsA a b d i).size : Int) ≤ 1099511627776) then
    bif !(decide (wrE (tsA a b d i) = 0) == rgtB (tsA a b d i)) then some (xBO .ret h a b d) else
    bif !decide (wrE (tsA a b d i) = 0) then (bif !((wrS (tsA a b d i)).toList == ByteArray.empty.toList) then some (xBO .ret h a b d) else tailB h i (tsA a b d i) a b d) else tailB h i (tsA a b d i) a b d
    else none else none
  else some (xBO (.exit 0) h a b d) := by kernel_rfl
end Go.Ht
/- Braille: the law of Write and Right. -/
namespace Go.Ht
open Go.Hx Go.Proofs
abbrev okC2 (s t : ByteArray) (k : Option PV) : Option PV := bif !decide (((s.size + t.size : Nat) : Int) > IntKind.i64.max) then k else none
def chkW (x : ByteArray) (k : Option PV) : Option PV :=
  bif decide ((x.size : Int) ≤ 1099511627776) then bif Nat.ble x.size 1000000 then
    bif !((wrS x).toList == (wrS x).toList) then fB else bif !decide (wrE x = wrE x) then fB else
    bif decide ((x.size : Int) ≤ 1099511627776) then bif !(rgtB x == goodB x 0) then fB else k else none
  else none else none
def mn60 (s : ByteArray) : Int := if (60 : Int) < (s.size : Int) then 60 else (s.size : Int)
def cut60 (s : ByteArray) : ByteArray := s.extract (0 : Int).toNat (mn60 s).toNat
set_option maxRecDepth 100000 in
theorem qL3 (f : Bool) (ls : List PV) (s : ByteArray) : runP Tryd.prog F8 60 3 [.lst f 3 ls, sv s] =
  bif decide ((0 : Int) ≤ 0) && decide (0 ≤ mn60 s) && decide (mn60 s ≤ (s.size : Int)) then
  okC2 (mdS ls) (cut60 s) (okC2 (cut60 s) (mdS ls) (chkW (mdS ls) (chkW (cut60 s) (chkW (mdS ls ++ cut60 s) (chkW (cut60 s ++ mdS ls) (some (bv true))))))) else none := by kernel_rfl
theorem chkW_ok {x : ByteArray} {k : Option PV} (h : x.size ≤ 1000000) : chkW x k = k := by
  unfold chkW
  rw [decide_eq_true (show (x.size : Int) ≤ 1099511627776 by omega), Nat.ble_eq_true_of_le h, toList_beq, decide_eq_true rfl, decide_eq_true rfl, good_right, beq_self_eq_true]
  rfl
theorem okC2_of {s t : ByteArray} {k : Option PV} (h1 : s.size ≤ 1000000) (h2 : t.size ≤ 1000000) : okC2 s t k = k := by
  have hmx : IntKind.i64.max = 9223372036854775807 := rfl
  show (bif !decide (((s.size + t.size : Nat) : Int) > IntKind.i64.max) then k else none) = k
  rw [hmx, decide_eq_false (by omega)]; rfl
theorem mn60_ok (s : ByteArray) : 0 ≤ mn60 s ∧ mn60 s ≤ (s.size : Int) ∧ mn60 s ≤ 60 := by unfold mn60; split <;> omega
theorem cut60_size (s : ByteArray) : (cut60 s).size ≤ 60 := by
  have := mn60_ok s
  unfold cut60
  rw [ByteArray.size_extract]; omega
theorem law3 (f : Bool) (ls : List PV) (s : ByteArray) : runP Tryd.prog F8 60 3 [.lst f 3 ls, sv s] = some (bv true) := by
  have h1 := mdS_size ls
  have h2 := cut60_size s
  have h3 := mn60_ok s
  rw [qL3, decide_eq_true (Int.le_refl _), decide_eq_true h3.1, decide_eq_true h3.2.1, okC2_of (by omega) (by omega), okC2_of (by omega) (by omega), chkW_ok (by omega), chkW_ok (by omega), chkW_ok (by rw [ByteArray.size_append]; omega), chkW_ok (by rw [ByteArray.size_append]; omega)]
  rfl
theorem law3P (f : Bool) (ls : List PV) (s : ByteArray) : PCall Tryd.prog 3 [.lst f 3 ls, sv s] (bv true) := (runP_sound okf8 (n := 60) (law3 f ls s)).2
end Go.Ht
/- Braille: the law of writing and reading back. -/
namespace Go.Ht
open Go.Hx Go.Proofs
theorem gt_63 {s : ByteArray} (h : ((nl s).all fun x => decide (x ≤ 63)) = true) (z : Int) : gt s z ≤ 63 := by
  rw [gt_nl, List.getD_eq_getElem?_getD]
  cases he : (nl s)[z.toNat]? with
  | none => decide
  | some x => exact of_decide_eq_true (List.all_eq_true.1 h x (List.mem_of_getElem? he))
theorem lt63 : ((nl ltB).all fun x => decide (x ≤ 63)) = true := by decide
theorem sh63 : ((nl shB).all fun x => decide (x ≤ 63)) = true := by decide
theorem sc63 : ((nl scB).all fun x => decide (x ≤ 63)) = true := by decide
theorem clsL_63 (c : Int) (f : Bool) : ∀ x, x ∈ clsL c f → x ≤ 63 := by
  have h := gt_63 lt63
  have h2 := gt_63 sc63
  have key : ∀ x ∈ clsL c f, x ≤ 63 := by
    unfold clsL clsNL clsUL
    cases decide (97 ≤ c) && decide (c ≤ 122) <;> cases f && decide (c ≤ 106) <;> cases decide (65 ≤ c) && decide (c ≤ 90) <;> cases dgB c <;> cases f <;> cases decide (ixB c ≥ 0) <;>
      simp only [cond_true, cond_false, Bool.not_true, Bool.not_false, List.forall_mem_cons, List.not_mem_nil, h, h2, false_imp_iff, implies_true, and_true] <;> decide
  exact key
theorem wrl_63 : ∀ (n : Nat) (f : Bool) (l : List Int) x, x ∈ wrL n f l → x ≤ 63
  | 0, _, _, x, h => by cases h
  | n + 1, f, [], x, h => by cases h
  | n + 1, f, c :: r, x, h => by
    rw [wrL] at h
    cases hd : decide (wix (c :: r) ≥ 0) with
    | true =>
      rw [hd, cond_true] at h
      rcases List.mem_cons.1 h with rfl | h
      · exact gt_63 sh63 _
      · exact wrl_63 n _ _ x h
    | false =>
      rw [hd, cond_false] at h
      rcases List.mem_append.1 h with h | h
      · exact clsL_63 _ _ x h
      · exact wrl_63 n _ _ x h
theorem allA_wr {t : ByteArray} (h : rgtB t = true) : allA (wrS t) 0 = true := by
  unfold allA wrS
  rw [h, cond_true, nl_wrB, List.all_eq_true]
  intro x hx
  exact decide_eq_true (wrl_63 _ _ _ x hx)
theorem okY_wr {x : ByteArray} (y : ByteArray) (h : rgtB x = true) : okY x (wrS x) y = true := by
  unfold okY wrE
  cases hy : rgtB y with
  | false => rfl
  | true =>
    rw [cond_true, decide_eq_true rfl, Bool.not_true, Bool.false_or, beq_iff_eq]
    rw [Bool.eq_iff_iff, decide_eq_true_eq, decide_eq_true_eq]
    unfold wrS
    rw [h, hy, cond_true, cond_true]
    constructor
    · intro e
      rw [← (dT_wrB hy).2, e, (dT_wrB h).2]
    · rintro rfl; rfl
def pBO : LS → Bool
  | ([.b _, .n 3, .n 3, .n 3, .n 3, .i 3, .i i], [.l false [.val (.string a), .val (.string b), .val (.string d)]]) => decide (0 ≤ i) && decide (i ≤ 3) && (Nat.ble a.size 1000 && Nat.ble b.size 1000 && Nat.ble d.size 1000)
  | _ => false
noncomputable def fBO : LS → DT (PX × List PV × List Row)
  | ([.b h, .n _, .n _, .n _, .n _, .i _, .i _], [.l _ [.val (.string a), .val (.string b), .val (.string d)]]) => .leaf (xBO (.exit 0) h a b d)
  | _ => .no
def mBO : LS → Nat
  | ([.b _, .n _, .n _, .n _, .n _, .i _, .i i], [.l _ _]) => (3 - i).toNat
  | _ => 0
theorem sBO : ∀ s r, pBO s = true → (fBO s).run = some r → r.1 ≠ .normal ∧ (runB Tryd.prog G2 60 5 (lpb Tryd.f5 5) [7, 8, 32, 33, 34] [7] (shBO.put s).1 (shBO.put s).2 = some r ∨
      ∃ s', runB Tryd.prog G2 60 5 (lpb Tryd.f5 5) [7, 8, 32, 33, 34] [7] (shBO.put s).1 (shBO.put s).2 = some (.normal, shBO.put s') ∧ pBO s' = true ∧ mBO s' < mBO s ∧ (fBO s').run = some r) := by
  intro t r hp hr
  unfold pBO at hp; split at hp
  · rename_i h i a b d
    have hp0 := hp
    simp only [Bool.and_eq_true, decide_eq_true_eq] at hp
    obtain ⟨⟨h1, h2⟩, ⟨h3, h4⟩, h5⟩ := hp
    have h3 := Nat.le_of_ble_eq_true h3
    have h4 := Nat.le_of_ble_eq_true h4
    have h5 := Nat.le_of_ble_eq_true h5
    have hr' := (Option.some.inj hr).symm
    refine ⟨by rw [hr']; simp, ?_⟩
    rw [show shBO.put ([.b h, .n 3, .n 3, .n 3, .n 3, .i 3, .i i], [.l false [.val (.string a), .val (.string b), .val (.string d)]]) = shBO.put (lBO h i a b d) from rfl, qBO]
    by_cases hk : i < 3
    · have hx : (tsA a b d i).size ≤ 1000 := by
        rcases tsA_cases (a := a) (b := b) (d := d) h1 hk with e | e | e <;> rw [e] <;> assumption
      generalize tsA a b d i = x at hx
      have next : ∃ s', (some (PX.normal, shBO.put (lBO h (W (i + 1)) a b d)) : Option (PX × List PV × List Row)) = some (.normal, shBO.put s') ∧ pBO s' = true ∧ mBO s' < mBO ([.b h, .n 3, .n 3, .n 3, .n 3, .i 3, .i i], [.l false [.val (.string a), .val (.string b), .val (.string d)]]) ∧ (fBO s').run = some r := by
        rw [W_id (by omega) (by omega)]
        refine ⟨_, rfl, ?_, ?_, ?_⟩
        · show (decide (0 ≤ i + 1) && decide (i + 1 ≤ 3) && (Nat.ble a.size 1000 && Nat.ble b.size 1000 && Nat.ble d.size 1000)) = true
          simp only [Bool.and_eq_true, decide_eq_true_eq] at hp0 ⊢
          exact ⟨⟨by omega, by omega⟩, hp0.2⟩
        · show (3 - (i + 1)).toNat < (3 - i).toNat
          omega
        · rw [hr']; rfl
      have hw := wrS_size x
      rw [decide_eq_true hk, decide_eq_true h1, decide_eq_true (show (x.size : Int) ≤ 1099511627776 by omega)]
      simp only [cond_true, Bool.and_self]
      unfold tailB
      cases hrx : rgtB x with
      | false =>
        have e1 : wrE x = 40 := by unfold wrE; rw [hrx]; rfl
        have e2 : wrS x = ByteArray.empty := by unfold wrS; rw [hrx]; rfl
        rw [e1, e2]
        simp only [show decide ((40 : Int) = 0) = false by decide, toList_beq, Bool.not_false, Bool.not_true, cond_true, cond_false, beq_self_eq_true]
        exact .inr next
      | true =>
        have e1 : wrE x = 0 := by unfold wrE; rw [hrx]; rfl
        have e2 : wrS x = wrB x := by unfold wrS; rw [hrx]; rfl
        have e3 : rdE (wrS x) = 0 := by unfold rdE; rw [e2, rd_wr hrx]; rfl
        have e4 : rdS (wrS x) = x := by unfold rdS; rw [e2, rd_wr hrx]; exact (dT_wrB hrx).2
        have e5 : pBA (lBA h 3 3 x (wrS x) 0 3 3 3 i (ts3 a b d)) = true := by
          show hidB _ = true
          rw [hidB_eq, allA_wr hrx]
          simp only [Bool.and_eq_true, decide_eq_true_eq]
          exact ⟨⟨⟨by omega, by omega⟩, Nat.ble_eq_true_of_le (by omega)⟩, trivial⟩
        have e6 : pBB (lBB h x (wrS x) i 0 a b d) = true := by
          show okBB _ _ _ _ _ _ = true
          unfold okBB
          rw [hidB_eq, okY_wr a hrx, okY_wr b hrx, okY_wr d hrx]
          simp only [Bool.and_eq_true, decide_eq_true_eq]
          exact ⟨⟨⟨by omega, by omega⟩, ⟨Nat.ble_eq_true_of_le (by omega), Nat.ble_eq_true_of_le (by omega)⟩, Nat.ble_eq_true_of_le (by omega)⟩, ⟨trivial, trivial⟩, trivial⟩
        rw [e1, e3, e4, e5, e6, toList_beq x x, decide_eq_true rfl, decide_eq_true (show ((wrS x).size : Int) ≤ 68719476736 by omega), W_id (n := 3 * (x.size : Int)) (by omega) (by omega), decide_eq_false (show ¬ ((wrS x).size : Int) > 3 * (x.size : Int) by omega)]
        simp only [Bool.not_true, cond_true, cond_false, beq_self_eq_true]
        exact .inr next
    · refine .inl ?_
      rw [decide_eq_false hk, hr']; rfl
  · cases hp
noncomputable def G3 : EnvK := G2.addW 5 5 [7, 8, 32, 33, 34] [] shBO pBO fBO
theorem okg3 : EnvOK Tryd.prog G3.env :=
  okg2.addW (n := 60) Tryd.func5 (show Tryd.f5.body = some (bod Tryd.f5) by kernel_rfl) (show (loops (bod Tryd.f5)).filter (fun b => rid b == 5) = [lpb Tryd.f5 5] by kernel_rfl) [7, 8, 32, 33, 34] [7] [] shBO mBO sBO
set_option maxRecDepth 100000 in
theorem qL5 (f g : Bool) (ls ms : List PV) (s : ByteArray) : runP Tryd.prog G3 60 5 [.lst f 3 ls, .lst g 3 ms, sv s] =
  bif decide ((0 : Int) ≤ 0) && decide (0 ≤ mn60 s) && decide (mn60 s ≤ (s.size : Int)) then
  bif pBO (lBO true 0 (mdS ls) (mdS ms) (cut60 s)) then some (bv true) else none else none := by kernel_rfl
theorem law5 (f g : Bool) (ls ms : List PV) (s : ByteArray) : runP Tryd.prog G3 60 5 [.lst f 3 ls, .lst g 3 ms, sv s] = some (bv true) := by
  have h1 := mdS_size ls
  have h1' := mdS_size ms
  have h2 := cut60_size s
  have h3 := mn60_ok s
  have hp : pBO (lBO true 0 (mdS ls) (mdS ms) (cut60 s)) = true := by
    show (decide ((0 : Int) ≤ 0) && decide ((0 : Int) ≤ 3) && (Nat.ble (mdS ls).size 1000 && Nat.ble (mdS ms).size 1000 && Nat.ble (cut60 s).size 1000)) = true
    simp only [Bool.and_eq_true, decide_eq_true_eq]
    exact ⟨⟨by omega, by omega⟩, ⟨Nat.ble_eq_true_of_le (by omega), Nat.ble_eq_true_of_le (by omega)⟩, Nat.ble_eq_true_of_le (by omega)⟩
  rw [qL5, decide_eq_true (Int.le_refl _), decide_eq_true h3.1, decide_eq_true h3.2.1, hp]
  rfl
theorem law5P (f g : Bool) (ls ms : List PV) (s : ByteArray) : PCall Tryd.prog 5 [.lst f 3 ls, .lst g 3 ms, sv s] (bv true) := (runP_sound okg3 (n := 60) (law5 f g ls ms s)).2
end Go.Ht
/- Braille: the reference's index, two, and its search for a sign. -/
namespace Go.Ht
open Go.Hx Go.Proofs
def shX : S1 := ⟨19, [(0, .lst 3), (1, I64), (5, I64)], []⟩
abbrev lX (f : Bool) (xs : List PV) (n k : Int) : LS := ([.l f xs, .i n, .i k], [])
noncomputable abbrev xX (r : PV) : List PV := tm 19 [(4, r)]
theorem qX (f : Bool) (xs : List PV) (n k : Int) : runB Tryd.prog F8 60 52 (lpb Tryd.f52 2) [0, 1, 5] [4] (shX.put (lX f xs n k)).1 (shX.put (lX f xs n k)).2 =
  bif decide (k < (xs.length : Int)) then bif inr xs k then bif decide (gI xs k = n) then some (.ret, xX (iv k), []) else some (.normal, shX.put (lX f xs n (W (k + 1)))) else none else some (.exit 0, xX .any, []) := by kernel_rfl
def idxF (xs : List PV) (n : Int) (k : Int) : Nat → Int
  | 0 => -1
  | m + 1 => bif decide (gI xs k = n) then k else idxF xs n (k + 1) m
def pX : LS → Bool
  | ([.l _ xs, .i _, .i k], []) => Nat.ble xs.length 1000 && decide (0 ≤ k) && decide (k ≤ (xs.length : Int))
  | _ => false
noncomputable def fX : LS → DT (PX × List PV × List Row)
  | ([.l _ xs, .i n, .i k], []) => .br (decide (idxF xs n k (xs.length - k.toNat) ≥ 0)) (.leaf (.ret, xX (iv (idxF xs n k (xs.length - k.toNat))), [])) (.leaf (.exit 0, xX .any, []))
  | _ => .no
def mX : LS → Nat
  | ([.l _ xs, .i _, .i k], []) => xs.length - k.toNat
  | _ => 0
theorem sX : ∀ s r, pX s = true → (fX s).run = some r → r.1 ≠ .normal ∧ (runB Tryd.prog F8 60 52 (lpb Tryd.f52 2) [0, 1, 5] [4] (shX.put s).1 (shX.put s).2 = some r ∨
      ∃ s', runB Tryd.prog F8 60 52 (lpb Tryd.f52 2) [0, 1, 5] [4] (shX.put s).1 (shX.put s).2 = some (.normal, shX.put s') ∧ pX s' = true ∧ mX s' < mX s ∧ (fX s').run = some r) := by
  intro t r hp hr
  unfold pX at hp; split at hp
  · rename_i f xs n k
    simp only [Bool.and_eq_true, decide_eq_true_eq] at hp
    obtain ⟨⟨h1, h2⟩, h3⟩ := hp
    have h1' := Nat.le_of_ble_eq_true h1
    have hr' : r = bif decide (idxF xs n k (xs.length - k.toNat) ≥ 0) then (.ret, xX (iv (idxF xs n k (xs.length - k.toNat))), []) else (.exit 0, xX .any, []) := run_br2 hr
    refine ⟨by rw [hr']; cases decide (idxF xs n k (xs.length - k.toNat) ≥ 0) <;> simp, ?_⟩
    rw [show shX.put ([.l f xs, .i n, .i k], []) = shX.put (lX f xs n k) from rfl, qX]
    by_cases hk : k < (xs.length : Int)
    · obtain ⟨m, hm⟩ : ∃ m, xs.length - k.toNat = m + 1 := ⟨xs.length - k.toNat - 1, by omega⟩
      have hm2 : xs.length - (k + 1).toNat = m := by omega
      have hst : idxF xs n k (m + 1) = bif decide (gI xs k = n) then k else idxF xs n (k + 1) m := rfl
      rw [hm] at hr'
      rw [decide_eq_true hk, inr_of h2 hk, W_id (by omega) (by omega)]
      simp only [cond_true]
      cases he : decide (gI xs k = n) with
      | true =>
        rw [he, cond_true] at hst
        rw [hst, decide_eq_true (show k ≥ 0 from h2)] at hr'
        exact .inl (by rw [hr']; rfl)
      | false =>
        rw [he, cond_false] at hst
        rw [hst] at hr'
        refine .inr ⟨lX f xs n (k + 1), rfl, ?_, ?_, ?_⟩
        · simp only [pX, Bool.and_eq_true, decide_eq_true_eq]
          exact ⟨⟨h1, by omega⟩, by omega⟩
        · show xs.length - (k + 1).toNat < xs.length - k.toNat
          omega
        · rw [hr']
          show (DT.br (decide (idxF xs n (k + 1) (xs.length - (k + 1).toNat) ≥ 0)) (.leaf (PX.ret, xX (iv (idxF xs n (k + 1) (xs.length - (k + 1).toNat))), ([] : List Row))) (.leaf (PX.exit 0, xX .any, []))).run = _
          rw [hm2]
          cases decide (idxF xs n (k + 1) m ≥ 0) <;> rfl
    · rw [show xs.length - k.toNat = 0 by omega] at hr'
      refine .inl ?_
      rw [decide_eq_false hk, hr']; rfl
  · cases hp
noncomputable def J1 : EnvK := F8.addW 52 2 [0, 1, 5] [] shX pX fX
theorem okj1 : EnvOK Tryd.prog J1.env :=
  okf8.addW (n := 60) Tryd.func52 (show Tryd.f52.body = some (bod Tryd.f52) by kernel_rfl) (show (loops (bod Tryd.f52)).filter (fun b => rid b == 2) = [lpb Tryd.f52 2] by kernel_rfl) [0, 1, 5] [4] [] shX mX sX
def idx (xs : List PV) (n : Int) : Int := idxF xs n 0 xs.length
theorem qIx52 (f : Bool) (xs : List PV) (n : Int) : runP Tryd.prog J1 60 52 [.lst f 3 xs, iv n] = bif pX (lX f xs n 0) then bif decide (idxF xs n 0 (xs.length - (0 : Int).toNat) ≥ 0) then some (iv (idxF xs n 0 (xs.length - (0 : Int).toNat))) else some (iv (-1)) else none := by kernel_rfl
theorem idxF_ge (xs : List PV) (n : Int) : ∀ (m : Nat) (k : Int), 0 ≤ k → idxF xs n k m ≥ 0 ∨ idxF xs n k m = -1
  | 0, _, _ => .inr rfl
  | m + 1, k, h => by
    rw [idxF]
    cases decide (gI xs k = n)
    · exact idxF_ge xs n m (k + 1) (by omega)
    · exact .inl h
def c52 : List PV → Option (DT PV)
  | [.lst _ 3 xs, .val (.int .i64 n)] => some (.br (Nat.ble xs.length 1000) (.leaf (iv (idx xs n))) .no)
  | _ => none
theorem e52 : Hx.Enters Tryd.prog 52 := enters_of Tryd.func52 (show Tryd.f52.body = some (bod Tryd.f52) by kernel_rfl) (by kernel_rfl)
theorem o52 (args : List PV) (d : DT PV) (r : PV) (h : c52 args = some d) (hr : d.run = some r) : PCall Tryd.prog 52 args r := by
  unfold c52 at h; split at h
  · rename_i f xs n
    cases h
    obtain ⟨h1, rfl⟩ := run_br hr
    refine (runP_sound okj1 (n := 60) ?_).2
    have hp : pX (lX f xs n 0) = true := by
      simp only [pX, Bool.and_eq_true, decide_eq_true_eq]
      exact ⟨⟨h1, by omega⟩, by omega⟩
    rw [qIx52, hp, cond_true]
    show (bif decide (idx xs n ≥ 0) then some (iv (idx xs n)) else some (iv (-1))) = _
    rcases idxF_ge xs n xs.length 0 (by omega) with g | g
    · rw [decide_eq_true (show idx xs n ≥ 0 from g)]; rfl
    · rw [show idx xs n = -1 from g]; rfl
  · cases h
noncomputable def J2 : EnvK := J1.addF 52 c52
theorem okj2 : EnvOK Tryd.prog J2.env := okj1.addF e52 o52
/-! two -/
def la (s : ByteArray) (i : Int) : Int := idx lrL (W (gt s i))
theorem q53 (s : ByteArray) (k : Int) : runP Tryd.prog J2 60 53 [sv s, iv k] = bif decide (W (k + 1) ≥ (s.size : Int)) then some (.tup [iv 0, iv 0, bv false]) else
  bif decide (0 ≤ k) && decide (k < (s.size : Int)) then bif decide (0 ≤ W (k + 1)) && decide (W (k + 1) < (s.size : Int)) then
    bif decide (la s k ≥ 0) then bif decide (la s (W (k + 1)) ≥ 0) then bif decide (la s k < 16) then some (.tup [iv (la s k), iv (la s (W (k + 1))), bv (decide (la s (W (k + 1)) < 16))])
    else some (.tup [iv (la s k), iv (la s (W (k + 1))), bv false]) else some (.tup [iv (la s k), iv (la s (W (k + 1))), bv false]) else some (.tup [iv (la s k), iv (la s (W (k + 1))), bv false]) else none else none := by kernel_rfl
/-! the search for a sign -/
def shG : S1 := ⟨131, [(0, .str), (1, I64), (9, I64), (12, I64)], []⟩
abbrev lG (s : ByteArray) (k c b : Int) : LS := ([.s s, .i k, .i c, .i b], [])
noncomputable abbrev xG (s : ByteArray) (k c : Int) (p q r : PV) : List PV := tm 131 [(0, sv s), (1, iv k), (6, p), (7, q), (8, r), (9, iv c)]
theorem qG (s : ByteArray) (k c b : Int) : runB Tryd.prog J2 60 41 (lpb Tryd.f41 11) [0, 1, 9, 12] [0, 1, 6, 7, 8, 9] (shG.put (lG s k c b)).1 (shG.put (lG s k c b)).2 =
  bif decide (b < 127) then bif decide (sgV (B8 b) = c) then some (.ret, xG s k c (sv (strB [cv (B8 b)])) (iv 1) (bv false), []) else some (.normal, shG.put (lG s k c (W (b + 1)))) else some (.exit 0, xG s k c .any .any .any, []) := by kernel_rfl
end Go.Ht
/- Braille: the reference's piece as a plain function. -/
namespace Go.Ht
open Go.Hx Go.Proofs
def twOk (s : ByteArray) (k : Int) : Bool := decide (la s k ≥ 0) && (decide (la s (W (k + 1)) ≥ 0) && (decide (la s k < 16) && decide (la s (W (k + 1)) < 16)))
def c53 : List PV → Option (DT PV)
  | [.val (.string s), .val (.int .i64 k)] => some (.br (decide (0 ≤ k) && decide (k ≤ (s.size : Int)) && Nat.ble s.size 1000000)
      (.br (decide (W (k + 1) ≥ (s.size : Int))) (.leaf (.tup [iv 0, iv 0, bv false])) (.leaf (.tup [iv (la s k), iv (la s (W (k + 1))), bv (twOk s k)]))) .no)
  | _ => none
theorem e53 : Hx.Enters Tryd.prog 53 := enters_of Tryd.func53 (show Tryd.f53.body = some (bod Tryd.f53) by kernel_rfl) (by kernel_rfl)
theorem o53 (args : List PV) (d : DT PV) (r : PV) (h : c53 args = some d) (hr : d.run = some r) : PCall Tryd.prog 53 args r := by
  unfold c53 at h; split at h
  · rename_i s k
    cases h
    have hc : (decide (0 ≤ k) && decide (k ≤ (s.size : Int)) && Nat.ble s.size 1000000) = true := by
      cases hx : (decide (0 ≤ k) && decide (k ≤ (s.size : Int)) && Nat.ble s.size 1000000) with
      | true => rfl
      | false => rw [hx] at hr; cases hr
    rw [hc] at hr
    have hr2 := run_br2 hr
    simp only [Bool.and_eq_true, decide_eq_true_eq] at hc
    obtain ⟨⟨h0, h1⟩, h2⟩ := hc
    have h2 := Nat.le_of_ble_eq_true h2
    refine (runP_sound okj2 (n := 60) ?_).2
    rw [q53, hr2]
    unfold twOk
    by_cases hk : W (k + 1) ≥ (s.size : Int)
    · rw [decide_eq_true hk]; rfl
    · have hw : W (k + 1) = k + 1 := W_id (by omega) (by omega)
      rw [decide_eq_false hk, decide_eq_true h0, decide_eq_true (show k < (s.size : Int) by omega), decide_eq_true (show 0 ≤ W (k + 1) by omega), decide_eq_true (show W (k + 1) < (s.size : Int) by omega)]
      cases decide (la s k ≥ 0) <;> cases decide (la s (W (k + 1)) ≥ 0) <;> cases decide (la s k < 16) <;> rfl
  · cases h
/-- The first sign that has a cell; -1 for none. -/
def sgS (c : Int) (b : Int) : Nat → Int
  | 0 => -1
  | m + 1 => bif decide (sgV (B8 b) = c) then b else sgS c (b + 1) m
def pG : LS → Bool
  | ([.s _, .i _, .i _, .i b], []) => decide (0 ≤ b) && decide (b ≤ 127)
  | _ => false
noncomputable def fG : LS → DT (PX × List PV × List Row)
  | ([.s s, .i k, .i c, .i b], []) => .br (decide (sgS c b (127 - b.toNat) ≥ 0)) (.leaf (.ret, xG s k c (sv (strB [cv (B8 (sgS c b (127 - b.toNat)))])) (iv 1) (bv false), [])) (.leaf (.exit 0, xG s k c .any .any .any, []))
  | _ => .no
def mG : LS → Nat
  | ([.s _, .i _, .i _, .i b], []) => 127 - b.toNat
  | _ => 0
theorem sG : ∀ s r, pG s = true → (fG s).run = some r → r.1 ≠ .normal ∧ (runB Tryd.prog J2 60 41 (lpb Tryd.f41 11) [0, 1, 9, 12] [0, 1, 6, 7, 8, 9] (shG.put s).1 (shG.put s).2 = some r ∨
      ∃ s', runB Tryd.prog J2 60 41 (lpb Tryd.f41 11) [0, 1, 9, 12] [0, 1, 6, 7, 8, 9] (shG.put s).1 (shG.put s).2 = some (.normal, shG.put s') ∧ pG s' = true ∧ mG s' < mG s ∧ (fG s').run = some r) := by
  intro t r hp hr
  unfold pG at hp; split at hp
  · rename_i s k c b
    simp only [Bool.and_eq_true, decide_eq_true_eq] at hp
    obtain ⟨h1, h2⟩ := hp
    have hr' : r = bif decide (sgS c b (127 - b.toNat) ≥ 0) then (.ret, xG s k c (sv (strB [cv (B8 (sgS c b (127 - b.toNat)))])) (iv 1) (bv false), []) else (.exit 0, xG s k c .any .any .any, []) := run_br2 hr
    refine ⟨by rw [hr']; cases decide (sgS c b (127 - b.toNat) ≥ 0) <;> simp, ?_⟩
    rw [show shG.put ([.s s, .i k, .i c, .i b], []) = shG.put (lG s k c b) from rfl, qG]
    by_cases hk : b < 127
    · obtain ⟨m, hm⟩ : ∃ m, 127 - b.toNat = m + 1 := ⟨127 - b.toNat - 1, by omega⟩
      have hm2 : 127 - (b + 1).toNat = m := by omega
      have hst : sgS c b (m + 1) = bif decide (sgV (B8 b) = c) then b else sgS c (b + 1) m := rfl
      rw [hm] at hr'
      rw [decide_eq_true hk, W_id (by omega) (by omega)]
      simp only [cond_true]
      cases he : decide (sgV (B8 b) = c) with
      | true =>
        rw [he, cond_true] at hst
        rw [hst, decide_eq_true (show b ≥ 0 from h1)] at hr'
        exact .inl (by rw [hr']; rfl)
      | false =>
        rw [he, cond_false] at hst
        rw [hst] at hr'
        refine .inr ⟨lG s k c (b + 1), rfl, ?_, ?_, ?_⟩
        · simp only [pG, Bool.and_eq_true, decide_eq_true_eq]
          exact ⟨by omega, by omega⟩
        · show 127 - (b + 1).toNat < 127 - b.toNat
          omega
        · rw [hr']
          show (DT.br (decide (sgS c (b + 1) (127 - (b + 1).toNat) ≥ 0)) (.leaf (PX.ret, xG s k c (sv (strB [cv (B8 (sgS c (b + 1) (127 - (b + 1).toNat)))])) (iv 1) (bv false), ([] : List Row))) (.leaf (PX.exit 0, xG s k c .any .any .any, []))).run = _
          rw [hm2]
          cases decide (sgS c (b + 1) m ≥ 0) <;> rfl
    · rw [show 127 - b.toNat = 0 by omega] at hr'
      refine .inl ?_
      rw [decide_eq_false hk, hr']; rfl
  · cases hp
noncomputable def J3 : EnvK := J2.addW 41 11 [0, 1, 9, 12] [] shG pG fG
theorem okj3 : EnvOK Tryd.prog J3.env :=
  okj2.addW (n := 60) Tryd.func41 (show Tryd.f41.body = some (bod Tryd.f41) by kernel_rfl) (show (loops (bod Tryd.f41)).filter (fun b => rid b == 11) = [lpb Tryd.f41 11] by kernel_rfl) [0, 1, 9, 12] [0, 1, 6, 7, 8, 9] [] shG mG sG
noncomputable def J4 : EnvK := J3.addF 53 c53
theorem okj4 : EnvOK Tryd.prog J4.env := okj3.addF e53 o53
def po (t : ByteArray) (n : Int) (g : Bool) : Option PV := some (.tup [sv t, iv n, bv g])
def ch1 (n : Int) : ByteArray := strB [cv (B8 n)]
abbrev emp : ByteArray := ByteArray.empty
def piC (s : ByteArray) (k c : Int) : Option PV :=
  bif decide (c = 8) then
    bif decide (0 ≤ W (k + 1)) && decide (W (k + 1) ≤ (s.size : Int)) && Nat.ble s.size 1000000 then
      bif decide (W (W (k + 1) + 1) ≥ (s.size : Int)) then po emp 0 false else bif twOk s (W (k + 1)) then po (ch1 (W (W (16 * la s (W (k + 1))) + la s (W (W (k + 1) + 1))))) 3 false else po emp 0 false
    else none
  else bif decide (W (k + 1) = (s.size : Int)) then po emp 0 false else
    bif decide (0 ≤ W (k + 1)) && decide (W (k + 1) < (s.size : Int)) then
      bif decide (la s (W (k + 1)) < 0) then po emp 0 false else bif decide (c = 32) then po (ch1 (W (65 + la s (W (k + 1))))) 2 false else bif decide (c = 48) then po (ch1 (W (97 + la s (W (k + 1))))) 2 false else
      bif decide (c = 60) then (bif decide (la s (W (k + 1)) < 10) then po (ch1 (W (48 + (W (la s (W (k + 1)) + 1)).tmod 10))) 2 true else po emp 0 false) else po emp 0 false
    else none
def piB (s : ByteArray) (k c : Int) : Option PV :=
  bif decide (idx lrL c ≥ 0) then po (ch1 (W (97 + idx lrL c))) 1 false else
  bif decide (idx srL c ≥ 0) then (bif decide (0 ≤ idx srL c) && decide (idx srL c < 11) then po ((wdL.getD (idx srL c).toNat .any).cellAt 0).getS 1 false else none) else
  bif decide (sgS c 32 95 ≥ 0) then po (ch1 (sgS c 32 95)) 1 false else piC s k c
def piA (s : ByteArray) (k c : Int) (f : Bool) : Option PV :=
  bif f then bif decide (idx lrL c ≥ 0) then (bif decide (idx lrL c < 10) then po (ch1 (W (48 + (W (idx lrL c + 1)).tmod 10))) 1 true else piB s k c) else piB s k c else piB s k c
set_option maxRecDepth 100000 in
theorem q41 (s : ByteArray) (k : Int) (f : Bool) : runP Tryd.prog J4 60 41 [sv s, iv k, bv f] = bif decide (0 ≤ k) && decide (k < (s.size : Int)) then piA s k (W (gt s k)) f else none := by kernel_rfl
end Go.Ht
/- Braille: the reference's piece as a contract; its Read's loop. -/
namespace Go.Ht
open Go.Hx Go.Proofs
abbrev PT := ByteArray × Int × Bool
def pvC (s : ByteArray) (k c : Int) : PT :=
  bif decide (c = 8) then (bif decide (k + 2 ≥ (s.size : Int)) then (emp, 0, false) else bif twOk s (k + 1) then (ch1 (W (W (16 * la s (k + 1)) + la s (W (k + 1 + 1)))), 3, false) else (emp, 0, false))
  else bif decide (k + 1 = (s.size : Int)) then (emp, 0, false) else
    bif decide (la s (k + 1) < 0) then (emp, 0, false) else bif decide (c = 32) then (ch1 (W (65 + la s (k + 1))), 2, false) else bif decide (c = 48) then (ch1 (W (97 + la s (k + 1))), 2, false) else
      bif decide (c = 60) then (bif decide (la s (k + 1) < 10) then (ch1 (W (48 + (W (la s (k + 1) + 1)).tmod 10)), 2, true) else (emp, 0, false)) else (emp, 0, false)
def pvB (s : ByteArray) (k c : Int) : PT :=
  bif decide (idx lrL c ≥ 0) then (ch1 (W (97 + idx lrL c)), 1, false) else bif decide (idx srL c ≥ 0) then (wdB (idx srL c), 1, false) else bif decide (sgS c 32 95 ≥ 0) then (ch1 (sgS c 32 95), 1, false) else pvC s k c
def pvA (s : ByteArray) (k c : Int) (f : Bool) : PT := bif f && (decide (idx lrL c ≥ 0) && decide (idx lrL c < 10)) then (ch1 (W (48 + (W (idx lrL c + 1)).tmod 10)), 1, true) else pvB s k c
def poV (v : PT) : Option PV := po v.1 v.2.1 v.2.2
theorem idxF_lt (xs : List PV) (n : Int) : ∀ (m : Nat) (k : Int), idxF xs n k m < k + m ∨ idxF xs n k m = -1
  | 0, _ => .inr rfl
  | m + 1, k => by
    rw [idxF]
    cases decide (gI xs k = n)
    · rcases idxF_lt xs n m (k + 1) with h | h
      · exact .inl (by rw [cond_false]; omega)
      · exact .inr h
    · exact .inl (by rw [cond_true]; omega)
theorem srL_lt (c : Int) : idx srL c < 11 := by
  rcases idxF_lt srL c srL.length 0 with h | h
  · have e : (srL.length : Int) = 11 := rfl
    unfold idx; omega
  · unfold idx; omega
theorem piC_eq {s : ByteArray} {k c : Int} (h0 : 0 ≤ k) (h1 : k < (s.size : Int)) (hs : s.size ≤ 1000000) : piC s k c = poV (pvC s k c) := by
  have hw : W (k + 1) = k + 1 := W_id (by omega) (by omega)
  have hw2 : W (k + 1 + 1) = k + 1 + 1 := W_id (by omega) (by omega)
  unfold piC pvC
  rw [hw, hw2, Nat.ble_eq_true_of_le hs, decide_eq_true (show 0 ≤ k + 1 by omega), decide_eq_true (show k + 1 ≤ (s.size : Int) by omega), show k + 1 + 1 = k + 2 by omega]
  by_cases hk : k + 1 = (s.size : Int)
  · rw [decide_eq_true hk]
    cases decide (c = 8) <;> cases decide (k + 2 ≥ (s.size : Int)) <;> cases twOk s (k + 1) <;> rfl
  · rw [decide_eq_false hk, decide_eq_true (show k + 1 < (s.size : Int) by omega)]
    cases decide (c = 8) with
    | true => cases decide (k + 2 ≥ (s.size : Int)) <;> cases twOk s (k + 1) <;> rfl
    | false =>
    cases decide (la s (k + 1) < 0) with
    | true => rfl
    | false =>
    cases decide (c = 32) with
    | true => rfl
    | false =>
    cases decide (c = 48) with
    | true => rfl
    | false => cases decide (c = 60) <;> cases decide (la s (k + 1) < 10) <;> rfl
theorem piA_eq {s : ByteArray} {k c : Int} (f : Bool) (h0 : 0 ≤ k) (h1 : k < (s.size : Int)) (hs : s.size ≤ 1000000) : piA s k c f = poV (pvA s k c f) := by
  have hB : piB s k c = poV (pvB s k c) := by
    unfold piB pvB
    cases decide (idx lrL c ≥ 0) with
    | true => rfl
    | false =>
    by_cases hj : idx srL c ≥ 0
    · rw [decide_eq_true hj, decide_eq_true (srL_lt c)]; rfl
    · rw [decide_eq_false hj]
      cases decide (sgS c 32 95 ≥ 0) with
      | true => rfl
      | false => exact piC_eq h0 h1 hs
  unfold piA pvA
  rw [hB]
  cases f <;> cases decide (idx lrL c ≥ 0) <;> cases decide (idx lrL c < 10) <;> rfl
def pv (s : ByteArray) (k : Int) (f : Bool) : PT := pvA s k (W (gt s k)) f
def c41 : List PV → Option (DT PV)
  | [.val (.string s), .val (.int .i64 k), .val (.bool f)] => some (.br (decide (0 ≤ k) && decide (k < (s.size : Int)) && Nat.ble s.size 1000000) (.leaf (.tup [sv (pv s k f).1, iv (pv s k f).2.1, bv (pv s k f).2.2])) .no)
  | _ => none
theorem e41 : Hx.Enters Tryd.prog 41 := enters_of Tryd.func41 (show Tryd.f41.body = some (bod Tryd.f41) by kernel_rfl) (by kernel_rfl)
theorem o41 (args : List PV) (d : DT PV) (r : PV) (h : c41 args = some d) (hr : d.run = some r) : PCall Tryd.prog 41 args r := by
  unfold c41 at h; split at h
  · rename_i s k f
    cases h
    obtain ⟨h1, rfl⟩ := run_br hr
    simp only [Bool.and_eq_true, decide_eq_true_eq] at h1
    obtain ⟨⟨h1, h2⟩, h3⟩ := h1
    have h3 := Nat.le_of_ble_eq_true h3
    refine (runP_sound okj4 (n := 60) ?_).2
    rw [q41, decide_eq_true h1, decide_eq_true h2]
    exact piA_eq f h1 h2 h3
  · cases h
noncomputable def J5 : EnvK := J4.addF 41 c41
theorem okj5 : EnvOK Tryd.prog J5.env := okj4.addF e41 o41
/-! Read's loop -/
def shQ : S1 := ⟨46, [(0, .str), (4, .str), (5, .bool), (6, I64)], []⟩
abbrev lQ (s out : ByteArray) (f : Bool) (k : Int) : LS := ([.s s, .s out, .b f, .i k], [])
noncomputable abbrev xQ (s : ByteArray) (p q r : PV) : List PV := tm 46 [(0, sv s), (2, p), (3, q), (4, r)]
set_option maxRecDepth 100000 in
theorem qQ (s out : ByteArray) (f : Bool) (k : Int) : runB Tryd.prog J5 60 17 (lpb Tryd.f17 4) [0, 4, 5, 6] [0, 2, 3, 4] (shQ.put (lQ s out f k)).1 (shQ.put (lQ s out f k)).2 =
  bif decide (k < (s.size : Int)) then bif decide (0 ≤ k) && decide (k < (s.size : Int)) && Nat.ble s.size 1000000 then
    bif decide ((pv s k f).2.1 = 0) then some (.ret, xQ s (sv emp) (iv 40) (sv out), []) else
    bif !decide (((out.size + (pv s k f).1.size : Nat) : Int) > IntKind.i64.max) then some (.normal, shQ.put (lQ s (out ++ (pv s k f).1) (pv s k f).2.2 (W (k + (pv s k f).2.1)))) else none
    else none
  else some (.exit 0, xQ s .any .any (sv out), []) := by kernel_rfl
theorem ch1_size (n : Int) : (ch1 n).size = 1 := by unfold ch1; rw [strB_size]; rfl
theorem pv_ok (s : ByteArray) (k : Int) (f : Bool) : 0 ≤ (pv s k f).2.1 ∧ (pv s k f).2.1 ≤ 3 ∧ (pv s k f).1.size ≤ 4 := by
  unfold pv pvA pvB pvC
  have h1 := ch1_size
  have e0 : (emp).size = 0 := rfl
  generalize W (gt s k) = c
  cases f && (decide (idx lrL c ≥ 0) && decide (idx lrL c < 10)) with
  | true => simp [h1]
  | false =>
  cases decide (idx lrL c ≥ 0) with
  | true => simp [h1]
  | false =>
  by_cases hj : idx srL c ≥ 0
  · rw [decide_eq_true hj]
    have := (wdB_size hj (srL_lt c)).2
    simpa using this
  rw [decide_eq_false hj]
  cases decide (sgS c 32 95 ≥ 0) with
  | true => simp [h1]
  | false =>
  cases decide (c = 8) with
  | true => cases decide (k + 2 ≥ (s.size : Int)) <;> cases twOk s (k + 1) <;> simp [h1, e0]
  | false =>
  cases decide (k + 1 = (s.size : Int)) with
  | true => simp [e0]
  | false =>
  cases decide (la s (k + 1) < 0) with
  | true => simp [e0]
  | false =>
  cases decide (c = 32) with
  | true => simp [h1]
  | false =>
  cases decide (c = 48) with
  | true => simp [h1]
  | false => cases decide (c = 60) <;> cases decide (la s (k + 1) < 10) <;> simp [h1, e0]
def rcF (s : ByteArray) : Nat → Int → Bool → ByteArray → Bool × ByteArray
  | 0, _, _, out => (true, out)
  | n + 1, k, f, out => bif decide (k < (s.size : Int)) then (bif decide ((pv s k f).2.1 = 0) then (false, out) else rcF s n (k + (pv s k f).2.1) (pv s k f).2.2 (out ++ (pv s k f).1)) else (true, out)
theorem rcF_fuel (s : ByteArray) : ∀ (n m : Nat) (k : Int) (f : Bool) (out : ByteArray), (s.size : Int) - k ≤ n → (s.size : Int) - k ≤ m → rcF s n k f out = rcF s m k f out
  | 0, 0, _, _, _, _, _ => rfl
  | 0, m + 1, k, f, out, h, _ => by rw [rcF, rcF, decide_eq_false (show ¬ k < (s.size : Int) by omega)]; rfl
  | n + 1, 0, k, f, out, _, h => by rw [rcF, rcF, decide_eq_false (show ¬ k < (s.size : Int) by omega)]; rfl
  | n + 1, m + 1, k, f, out, h1, h2 => by
    rw [rcF, rcF]
    have hp := pv_ok s k f
    by_cases h0 : (pv s k f).2.1 = 0
    · rw [decide_eq_true h0]; rfl
    · rw [rcF_fuel s n m _ _ _ (by omega) (by omega)]
def rc (s : ByteArray) (k : Int) (f : Bool) (out : ByteArray) : Bool × ByteArray := rcF s ((s.size : Int) - k).toNat k f out
theorem rc_step {s : ByteArray} {k : Int} {f : Bool} {out : ByteArray} (h : k < (s.size : Int)) (hn : ¬ (pv s k f).2.1 = 0) : rc s k f out = rc s (k + (pv s k f).2.1) (pv s k f).2.2 (out ++ (pv s k f).1) := by
  have hp := pv_ok s k f
  obtain ⟨m, hm⟩ : ∃ m, ((s.size : Int) - k).toNat = m + 1 := ⟨((s.size : Int) - k).toNat - 1, by omega⟩
  unfold rc
  rw [hm, rcF, decide_eq_true h, decide_eq_false hn, cond_true, cond_false]
  exact rcF_fuel s _ _ _ _ _ (by omega) (by omega)
theorem rc_bad {s : ByteArray} {k : Int} {f : Bool} {out : ByteArray} (h : k < (s.size : Int)) (hn : (pv s k f).2.1 = 0) : rc s k f out = (false, out) := by
  obtain ⟨m, hm⟩ : ∃ m, ((s.size : Int) - k).toNat = m + 1 := ⟨((s.size : Int) - k).toNat - 1, by omega⟩
  unfold rc
  rw [hm, rcF, decide_eq_true h, decide_eq_true hn]; rfl
theorem rc_end {s : ByteArray} {k : Int} {f : Bool} {out : ByteArray} (h : ¬ k < (s.size : Int)) : rc s k f out = (true, out) := by
  unfold rc
  rw [show ((s.size : Int) - k).toNat = 0 by omega]; rfl
def pQ : LS → Bool
  | ([.s s, .s out, .b _, .i k], []) => decide (0 ≤ k) && decide (k ≤ (s.size : Int) + 2) && Nat.ble s.size 1000000 && decide ((out.size : Int) ≤ 4 * k)
  | _ => false
noncomputable def fQ : LS → DT (PX × List PV × List Row)
  | ([.s s, .s out, .b f, .i k], []) => .br (rc s k f out).1 (.leaf (.exit 0, xQ s .any .any (sv (rc s k f out).2), [])) (.leaf (.ret, xQ s (sv emp) (iv 40) (sv (rc s k f out).2), []))
  | _ => .no
def mQ : LS → Nat
  | ([.s s, .s _, .b _, .i k], []) => ((s.size : Int) - k).toNat
  | _ => 0
theorem sQ : ∀ s r, pQ s = true → (fQ s).run = some r → r.1 ≠ .normal ∧ (runB Tryd.prog J5 60 17 (lpb Tryd.f17 4) [0, 4, 5, 6] [0, 2, 3, 4] (shQ.put s).1 (shQ.put s).2 = some r ∨
      ∃ s', runB Tryd.prog J5 60 17 (lpb Tryd.f17 4) [0, 4, 5, 6] [0, 2, 3, 4] (shQ.put s).1 (shQ.put s).2 = some (.normal, shQ.put s') ∧ pQ s' = true ∧ mQ s' < mQ s ∧ (fQ s').run = some r) := by
  intro t r hp hr
  unfold pQ at hp; split at hp
  · rename_i s out f k
    simp only [Bool.and_eq_true, decide_eq_true_eq] at hp
    obtain ⟨⟨⟨h1, h2⟩, h3⟩, h4⟩ := hp
    have h3' := Nat.le_of_ble_eq_true h3
    have hr' : r = bif (rc s k f out).1 then (.exit 0, xQ s .any .any (sv (rc s k f out).2), []) else (.ret, xQ s (sv emp) (iv 40) (sv (rc s k f out).2), []) := run_br2 hr
    refine ⟨by rw [hr']; cases (rc s k f out).1 <;> simp, ?_⟩
    rw [show shQ.put ([.s s, .s out, .b f, .i k], []) = shQ.put (lQ s out f k) from rfl, qQ]
    by_cases hk : k < (s.size : Int)
    · have hp := pv_ok s k f
      rw [decide_eq_true hk, decide_eq_true h1, h3]
      simp only [cond_true, Bool.and_self]
      by_cases h0 : (pv s k f).2.1 = 0
      · rw [rc_bad hk h0] at hr'
        exact .inl (by rw [decide_eq_true h0, hr']; rfl)
      · have hmx : IntKind.i64.max = 9223372036854775807 := rfl
        rw [rc_step hk h0] at hr'
        rw [decide_eq_false h0, hmx, decide_eq_false (show ¬ ((out.size + (pv s k f).1.size : Nat) : Int) > 9223372036854775807 by omega), W_id (by omega) (by omega)]
        refine .inr ⟨lQ s (out ++ (pv s k f).1) (pv s k f).2.2 (k + (pv s k f).2.1), rfl, ?_, ?_, ?_⟩
        · simp only [pQ, Bool.and_eq_true, decide_eq_true_eq, ByteArray.size_append]
          exact ⟨⟨⟨by omega, by omega⟩, h3⟩, by omega⟩
        · show ((s.size : Int) - (k + (pv s k f).2.1)).toNat < ((s.size : Int) - k).toNat
          omega
        · rw [hr']
          show (DT.br (rc s (k + (pv s k f).2.1) (pv s k f).2.2 (out ++ (pv s k f).1)).1 (.leaf (PX.exit 0, xQ s .any .any (sv (rc s (k + (pv s k f).2.1) (pv s k f).2.2 (out ++ (pv s k f).1)).2), ([] : List Row))) (.leaf (PX.ret, xQ s (sv emp) (iv 40) (sv (rc s (k + (pv s k f).2.1) (pv s k f).2.2 (out ++ (pv s k f).1)).2), []))).run = _
          cases (rc s (k + (pv s k f).2.1) (pv s k f).2.2 (out ++ (pv s k f).1)).1 <;> rfl
    · rw [rc_end hk] at hr'
      refine .inl ?_
      rw [decide_eq_false hk, hr']; rfl
  · cases hp
noncomputable def J6 : EnvK := J5.addW 17 4 [0, 4, 5, 6] [] shQ pQ fQ
theorem okj6 : EnvOK Tryd.prog J6.env :=
  okj5.addW (n := 60) Tryd.func17 (show Tryd.f17.body = some (bod Tryd.f17) by kernel_rfl) (show (loops (bod Tryd.f17)).filter (fun b => rid b == 4) = [lpb Tryd.f17 4] by kernel_rfl) [0, 4, 5, 6] [0, 2, 3, 4] [] shQ mQ sQ
set_option maxRecDepth 100000 in
theorem q17 (x : ByteArray) : runP Tryd.prog J6 60 17 [sv x] = bif pQ (lQ x emp false 0) then
    bif (rc x 0 false emp).1 then bif Nat.ble (rc x 0 false emp).2.size 1000000 then bif !decide (wrE (rc x 0 false emp).2 = 0) then some rFail else bif !((wrS (rc x 0 false emp).2).toList == x.toList) then some rFail else
      some (.tup [sv (rc x 0 false emp).2, iv 0]) else none
    else some rFail else none := by kernel_rfl
end Go.Ht
/- Braille: both implementations' Read say the same. -/
namespace Go.Ht
open Go.Hx Go.Proofs
theorem idl : (List.range 26).all (fun n => decide (idx lrL (gt ltB (n : Int)) = (n : Int))) = true := by kernel_rfl
theorem ids : (List.range 11).all (fun n => decide (idx lrL (gt shB (n : Int)) = -1) && decide (idx srL (gt shB (n : Int)) = (n : Int))) = true := by kernel_rfl
theorem idg : (List.range 127).all (fun c => !decide (ixB (c : Int) ≥ 0) || (decide (idx lrL (gt scB (ixB (c : Int))) = -1) && decide (idx srL (gt scB (ixB (c : Int))) = -1) && decide (sgS (gt scB (ixB (c : Int))) 32 95 = (c : Int)))) = true := by kernel_rfl
theorem idp : ([32, 48, 60, 8] : List Int).all (fun c => decide (idx lrL c = -1) && decide (idx srL c = -1) && decide (sgS c 32 95 = -1)) = true := by kernel_rfl
theorem idp_of {c : Int} (h : c ∈ ([32, 48, 60, 8] : List Int)) : idx lrL c = -1 ∧ idx srL c = -1 ∧ sgS c 32 95 = -1 := by
  have h := List.all_eq_true.1 idp c h
  simp only [Bool.and_eq_true, decide_eq_true_eq] at h
  exact ⟨h.1.1, h.1.2, h.2⟩
theorem idl_of {n : Int} (h0 : 0 ≤ n) (h1 : n < 26) : idx lrL (gt ltB n) = n := by
  have h := List.all_eq_true.1 idl n.toNat (by simp; omega)
  rw [Int.toNat_of_nonneg h0, decide_eq_true_eq] at h
  exact h
theorem ch1_data {n : Int} (h0 : 0 ≤ n) (h1 : n < 256) : (ch1 n).data.toList = [UInt8.ofNat n.toNat] := by
  unfold ch1
  rw [B8_id h0 h1]; rfl
theorem drop_at {x : ByteArray} {k a : Int} {l : List Int} (h0 : 0 ≤ k) (h : (nl x).drop k.toNat = a :: l) : k < (x.size : Int) ∧ gt x k = a ∧ W (gt x k) = a ∧ (nl x).drop (k + 1).toNat = l := by
  have hl : k.toNat < (nl x).length := by
    rcases Nat.lt_or_ge k.toNat (nl x).length with h' | h'
    · exact h'
    · rw [List.drop_of_length_le h'] at h; cases h
  have e : gt x k = a := by
    rw [gt_nl, List.getD_eq_getElem?_getD, ← Nat.add_zero k.toNat, ← List.getElem?_drop, h]; rfl
  have hr := gt_range x k
  refine ⟨by rw [nl_len] at hl; omega, e, by rw [W_id (by omega) (by omega), e], ?_⟩
  rw [show (k + 1).toNat = k.toNat + 1 by omega, ← List.drop_drop, h]; rfl
def TakR (f : Bool) (x : ByteArray) (k : Int) (y : List UInt8) (l : List Int) (g : Bool) : Prop :=
  k < (x.size : Int) ∧ ¬ (pv x k f).2.1 = 0 ∧ (pv x k f).1.data.toList = y ∧ (nl x).drop (k + (pv x k f).2.1).toNat = l ∧ (pv x k f).2.2 = g
theorem takr_of {f : Bool} {x : ByteArray} {k : Int} {y : List UInt8} {l : List Int} {g : Bool} {t : ByteArray} {n : Int} (hk : k < (x.size : Int)) (e : pv x k f = (t, n, g)) (hn : ¬ n = 0) (ht : t.data.toList = y) (hl : (nl x).drop (k + n).toNat = l) : TakR f x k y l g := by
  refine ⟨hk, ?_, ?_, ?_, ?_⟩ <;> rw [e]
  · exact hn
  · exact ht
  · exact hl
section
variable {f : Bool} {x : ByteArray} {k : Int} {l : List Int}
theorem tr_letter {n : Int} (hk0 : 0 ≤ k) (h : (nl x).drop k.toNat = gt ltB n :: l) (h0 : 0 ≤ n) (h1 : n < 26) (hf : f = false ∨ 10 ≤ n) : TakR f x k [UInt8.ofNat (97 + n).toNat] l false := by
  obtain ⟨g1, _, g3, g4⟩ := drop_at hk0 h
  refine takr_of (t := ch1 (W (97 + n))) (n := 1) g1 ?_ (by omega) ?_ g4
  · unfold pv pvA pvB
    rw [g3, idl_of h0 h1, decide_eq_true (show n ≥ 0 from h0)]
    rcases hf with rfl | hf
    · rfl
    · rw [decide_eq_false (show ¬ n < 10 by omega), Bool.and_false, Bool.and_false]; rfl
  · rw [W_id (by omega) (by omega)]; exact ch1_data (by omega) (by omega)
theorem tr_digit {n : Int} (hk0 : 0 ≤ k) (h : (nl x).drop k.toNat = gt ltB n :: l) (h0 : 0 ≤ n) (h1 : n < 10) : TakR true x k [UInt8.ofNat (48 + (n + 1).tmod 10).toNat] l true := by
  obtain ⟨g1, _, g3, g4⟩ := drop_at hk0 h
  have t1 := Int.tmod_nonneg 10 (show 0 ≤ n + 1 by omega)
  have t2 := Int.tmod_lt_of_pos (n + 1) (show (0 : Int) < 10 by omega)
  refine takr_of (t := ch1 (W (48 + (W (n + 1)).tmod 10))) (n := 1) g1 ?_ (by omega) ?_ g4
  · unfold pv pvA
    rw [g3, idl_of h0 (by omega), decide_eq_true (show n ≥ 0 from h0), decide_eq_true h1]; rfl
  · rw [W_id (n := n + 1) (by omega) (by omega), W_id (by omega) (by omega)]; exact ch1_data (by omega) (by omega)
theorem tr_word {j : Nat} (hk0 : 0 ≤ k) (hj : j < 11) (h : (nl x).drop k.toNat = gt shB (j : Int) :: l) : TakR f x k (by8 (wd j)) l false := by
  obtain ⟨g1, _, g3, g4⟩ := drop_at hk0 h
  have a := List.all_eq_true.1 ids j (by simpa using hj)
  simp only [Bool.and_eq_true, decide_eq_true_eq] at a
  have b := List.all_eq_true.1 sho_all j (by simpa using hj)
  simp only [Bool.and_eq_true, decide_eq_true_eq] at b
  refine takr_of (t := wdB (j : Int)) (n := 1) g1 ?_ (by omega) b.2 g4
  unfold pv pvA pvB
  rw [g3, a.1, no1, a.2, decide_eq_true (show (j : Int) ≥ 0 by omega), Bool.false_and, Bool.and_false]; rfl
theorem tr_sign {c : Int} (hk0 : 0 ≤ k) (c0 : 0 ≤ c) (c1 : c < 127) (hi : ixB c ≥ 0) (h : (nl x).drop k.toNat = gt scB (ixB c) :: l) : TakR f x k [UInt8.ofNat c.toNat] l false := by
  obtain ⟨g1, _, g3, g4⟩ := drop_at hk0 h
  have b := List.all_eq_true.1 idg c.toNat (by simp; omega)
  rw [Int.toNat_of_nonneg c0, decide_eq_true hi, Bool.not_true, Bool.false_or] at b
  simp only [Bool.and_eq_true, decide_eq_true_eq] at b
  obtain ⟨⟨b1, b2⟩, b3⟩ := b
  refine takr_of (t := ch1 c) (n := 1) g1 ?_ (by omega) (ch1_data c0 (by omega)) g4
  unfold pv pvA pvB
  rw [g3, b1, b2, b3, no1, decide_eq_true (show c ≥ 0 from c0), Bool.false_and, Bool.and_false]; rfl
theorem sp_pv {c : Int} (h : c ∈ ([32, 48, 60, 8] : List Int)) : pvA x k c f = pvC x k c := by
  obtain ⟨s1, s2, s3⟩ := idp_of h
  unfold pvA pvB
  rw [s1, s2, s3, no1, Bool.false_and, Bool.and_false]; rfl
theorem two_at {a n : Int} (hk0 : 0 ≤ k) (h : (nl x).drop k.toNat = a :: gt ltB n :: l) (h0 : 0 ≤ n) (h1 : n < 26) : k < (x.size : Int) ∧ W (gt x k) = a ∧ k + 1 < (x.size : Int) ∧ la x (k + 1) = n ∧ (nl x).drop (k + 2).toNat = l := by
  obtain ⟨g1, _, g3, g4⟩ := drop_at hk0 h
  obtain ⟨q1, _, q3, q4⟩ := drop_at (k := k + 1) (by omega) g4
  refine ⟨g1, g3, q1, ?_, by rw [show k + 2 = k + 1 + 1 by omega]; exact q4⟩
  unfold la
  rw [q3]; exact idl_of h0 h1
theorem tr_cap {n : Int} (hk0 : 0 ≤ k) (h : (nl x).drop k.toNat = 32 :: gt ltB n :: l) (h0 : 0 ≤ n) (h1 : n < 26) : TakR f x k [UInt8.ofNat (65 + n).toNat] l false := by
  obtain ⟨g1, g2, g3, g4, g5⟩ := two_at hk0 h h0 h1
  refine takr_of (t := ch1 (W (65 + n))) (n := 2) g1 ?_ (by omega) ?_ g5
  · unfold pv
    rw [g2, sp_pv (by decide)]
    unfold pvC
    rw [g4, decide_eq_false (show ¬ k + 1 = (x.size : Int) by omega), decide_eq_false (show ¬ n < 0 by omega)]; rfl
  · rw [W_id (by omega) (by omega)]; exact ch1_data (by omega) (by omega)
theorem tr_lmark {n : Int} (hk0 : 0 ≤ k) (h : (nl x).drop k.toNat = 48 :: gt ltB n :: l) (h0 : 0 ≤ n) (h1 : n < 10) : TakR f x k [UInt8.ofNat (97 + n).toNat] l false := by
  obtain ⟨g1, g2, g3, g4, g5⟩ := two_at hk0 h h0 (by omega)
  refine takr_of (t := ch1 (W (97 + n))) (n := 2) g1 ?_ (by omega) ?_ g5
  · unfold pv
    rw [g2, sp_pv (by decide)]
    unfold pvC
    rw [g4, decide_eq_false (show ¬ k + 1 = (x.size : Int) by omega), decide_eq_false (show ¬ n < 0 by omega)]; rfl
  · rw [W_id (by omega) (by omega)]; exact ch1_data (by omega) (by omega)
theorem tr_nmark {n : Int} (hk0 : 0 ≤ k) (h : (nl x).drop k.toNat = 60 :: gt ltB n :: l) (h0 : 0 ≤ n) (h1 : n < 10) : TakR f x k [UInt8.ofNat (48 + (n + 1).tmod 10).toNat] l true := by
  obtain ⟨g1, g2, g3, g4, g5⟩ := two_at hk0 h h0 (by omega)
  have t1 := Int.tmod_nonneg 10 (show 0 ≤ n + 1 by omega)
  have t2 := Int.tmod_lt_of_pos (n + 1) (show (0 : Int) < 10 by omega)
  refine takr_of (t := ch1 (W (48 + (W (n + 1)).tmod 10))) (n := 2) g1 ?_ (by omega) ?_ g5
  · unfold pv
    rw [g2, sp_pv (by decide)]
    unfold pvC
    rw [g4, decide_eq_false (show ¬ k + 1 = (x.size : Int) by omega), decide_eq_false (show ¬ n < 0 by omega), decide_eq_true h1]; rfl
  · rw [W_id (n := n + 1) (by omega) (by omega), W_id (by omega) (by omega)]; exact ch1_data (by omega) (by omega)
theorem tr_other {a b : Int} (hk0 : 0 ≤ k) (hx : x.size ≤ 1000000) (h : (nl x).drop k.toNat = 8 :: gt ltB a :: gt ltB b :: l) (a0 : 0 ≤ a) (a1 : a < 8) (b0 : 0 ≤ b) (b1 : b < 16) : TakR f x k [UInt8.ofNat (16 * a + b).toNat] l false := by
  obtain ⟨g1, g2, g3, g4, g5⟩ := two_at hk0 h a0 (by omega)
  obtain ⟨q1, _, q3, q4⟩ := drop_at (k := k + 2) (by omega) g5
  have hb : la x (k + 2) = b := by unfold la; rw [q3]; exact idl_of b0 (by omega)
  have hw : W (k + 1 + 1) = k + 2 := by rw [W_id (by omega) (by omega)]; omega
  refine takr_of (t := ch1 (W (W (16 * a) + b))) (n := 3) g1 ?_ (by omega) ?_ (by rw [show k + 3 = k + 2 + 1 by omega]; exact q4)
  · unfold pv
    rw [g2, sp_pv (by decide)]
    unfold pvC twOk
    rw [hw, g4, hb, decide_eq_false (show ¬ k + 2 ≥ (x.size : Int) by omega), decide_eq_true (show a ≥ 0 from a0), decide_eq_true (show b ≥ 0 from b0), decide_eq_true (show a < 16 by omega), decide_eq_true b1]; rfl
  · rw [W_id (n := 16 * a) (by omega) (by omega), W_id (by omega) (by omega)]; exact ch1_data (by omega) (by omega)
end
end Go.Ht
/- Braille: the reference's Read as a contract: both Reads say the same. -/
namespace Go.Ht
open Go.Hx Go.Proofs
theorem cls_takr {f : Bool} {c : Int} {x : ByteArray} {k : Int} {l : List Int} (hk0 : 0 ≤ k) (hx : x.size ≤ 1000000) (c0 : 32 ≤ c) (c1 : c ≤ 126) (h : (nl x).drop k.toNat = clsL c f ++ l) : TakR f x k [UInt8.ofNat c.toNat] l (dgB c) := by
  by_cases hl : 97 ≤ c ∧ c ≤ 122
  · have hd : dgB c = false := by unfold dgB; rw [decide_eq_false (show ¬ c ≤ 57 by omega), Bool.and_false]
    have e : UInt8.ofNat (97 + (c - 97)).toNat = UInt8.ofNat c.toNat := by rw [show 97 + (c - 97) = c by omega]
    unfold clsL at h
    rw [decide_eq_true hl.1, decide_eq_true hl.2, B8_id (n := c - 97) (by omega) (by omega)] at h
    rw [hd, ← e]
    cases hf : f && decide (c ≤ 106) with
    | true =>
      rw [hf] at h
      rw [Bool.and_eq_true, decide_eq_true_eq] at hf
      exact tr_lmark hk0 h (by omega) (by omega)
    | false =>
      rw [hf] at h
      refine tr_letter hk0 h (by omega) (by omega) ?_
      cases f with
      | false => exact .inl rfl
      | true => rw [Bool.true_and, decide_eq_false_iff_not] at hf; exact .inr (by omega)
  · have h1 : clsL c f = clsNL c f := by
      unfold clsL
      have : (decide (97 ≤ c) && decide (c ≤ 122)) = false := by
        rw [Bool.and_eq_false_iff, decide_eq_false_iff_not, decide_eq_false_iff_not]; omega
      rw [this]; rfl
    rw [h1] at h
    by_cases hu : 65 ≤ c ∧ c ≤ 90
    · have hd : dgB c = false := by unfold dgB; rw [decide_eq_false (show ¬ c ≤ 57 by omega), Bool.and_false]
      have e : UInt8.ofNat (65 + (c - 65)).toNat = UInt8.ofNat c.toNat := by rw [show 65 + (c - 65) = c by omega]
      unfold clsNL at h
      rw [decide_eq_true hu.1, decide_eq_true hu.2, B8_id (n := c - 65) (by omega) (by omega)] at h
      rw [hd, ← e]
      exact tr_cap hk0 h (by omega) (by omega)
    · have h2 : clsNL c f = clsUL c f := by
        unfold clsNL
        have : (decide (65 ≤ c) && decide (c ≤ 90)) = false := by
          rw [Bool.and_eq_false_iff, decide_eq_false_iff_not, decide_eq_false_iff_not]; omega
        rw [this]; rfl
      rw [h2] at h
      unfold clsUL at h
      cases hd : dgB c with
      | true =>
        rw [hd, cond_true] at h
        unfold dgB at hd
        rw [Bool.and_eq_true, decide_eq_true_eq, decide_eq_true_eq] at hd
        have hn : (B8 (B8 (c - 48) + 9)).tmod 10 = (c - 39) % 10 := by
          rw [B8_id (n := c - 48) (by omega) (by omega), B8_id (by omega) (by omega), Int.tmod_eq_emod_of_nonneg (by omega)]
          congr 1; omega
        rw [hn] at h
        have e : UInt8.ofNat (48 + ((c - 39) % 10 + 1).tmod 10).toNat = UInt8.ofNat c.toNat := by
          rw [Int.tmod_eq_emod_of_nonneg (by omega), show 48 + ((c - 39) % 10 + 1) % 10 = c by omega]
        rw [← e]
        cases f with
        | true => exact tr_digit hk0 h (by omega) (by omega)
        | false => exact tr_nmark hk0 h (by omega) (by omega)
      | false =>
        rw [hd, cond_false] at h
        by_cases hi : ixB c ≥ 0
        · rw [decide_eq_true hi] at h
          exact tr_sign hk0 (by omega) (by omega) hi h
        · have h1 : c.tdiv 16 = c / 16 := Int.tdiv_eq_ediv_of_nonneg (by omega)
          have h2 : c.tmod 16 = c % 16 := Int.tmod_eq_emod_of_nonneg (by omega)
          rw [decide_eq_false hi, h1, h2, B8_id (n := c / 16) (by omega) (by omega)] at h
          have e : UInt8.ofNat (16 * (c / 16) + c % 16).toNat = UInt8.ofNat c.toNat := by rw [show 16 * (c / 16) + c % 16 = c by omega]
          rw [← e]
          exact tr_other hk0 hx h (by omega) (by omega) (by omega) (by omega)
theorem rc_tak {f g : Bool} {x : ByteArray} {k : Int} {y : List UInt8} {l : List Int} (hk : 0 ≤ k) (h : TakR f x k y l g) : ∃ k' t, 0 ≤ k' ∧ (nl x).drop k'.toNat = l ∧ t.data.toList = y ∧ ∀ out, rc x k f out = rc x k' g (out ++ t) := by
  obtain ⟨h1, h2, h3, h4, h5⟩ := h
  have hp := pv_ok x k f
  refine ⟨k + (pv x k f).2.1, (pv x k f).1, by omega, h4, h3, fun out => ?_⟩
  rw [rc_step h1 h2, h5]
theorem decodeR {x : ByteArray} (hx : x.size ≤ 1000000) : ∀ (n : Nat) (l : List Int), l.length ≤ n → goodL l → ∀ (f : Bool) (k : Int) (out : ByteArray), 0 ≤ k → (nl x).drop k.toNat = wrl f l → (rc x k f out).1 = true ∧ (rc x k f out).2.data.toList = out.data.toList ++ by8 l
  | n, [], _, _, f, k, out, hk, h => by
    rw [wrl_nil] at h
    have hl : (nl x).length ≤ k.toNat := by
      rcases Nat.lt_or_ge k.toNat (nl x).length with h' | h'
      · have := congrArg List.length h
        rw [List.length_drop, List.length_nil] at this
        omega
      · exact h'
    rw [nl_len] at hl
    rw [rc_end (by omega)]
    exact ⟨rfl, by simp [by8]⟩
  | 0, c :: r, hl, _, _, _, _, _, _ => by simp at hl
  | n + 1, c :: r, hl, hg, f, k, out, hk, h => by
    rw [List.length_cons] at hl
    have hc := hg c (by simp)
    rcases wix_cases (c :: r) with g | ⟨j, hj, g1, t, g2⟩
    · rw [wrl_none g] at h
      obtain ⟨k', t, h0, h1, h2, h3⟩ := rc_tak hk (cls_takr hk hx hc.1 hc.2 h)
      obtain ⟨i1, i2⟩ := decodeR hx n r (by omega) (fun x hx => hg x (by simp [hx])) (dgB c) k' (out ++ t) h0 h1
      rw [h3]
      refine ⟨i1, ?_⟩
      rw [i2, by8_cons, ByteArray.data_append, Array.toList_append, h2, List.append_assoc]
    · obtain ⟨w1, w2, w3, w4, w5⟩ := wd_facts hj
      rw [wrl_word hj g1 g2.symm] at h
      obtain ⟨k', t', h0, h1, h2, h3⟩ := rc_tak hk (tr_word (f := f) hk hj h)
      have hlen := congrArg List.length g2
      rw [List.length_append, List.length_cons] at hlen
      obtain ⟨i1, i2⟩ := decodeR hx n t (by omega) (fun x hx => hg x (by rw [← g2]; simp [hx])) false k' (out ++ t') h0 h1
      rw [h3]
      refine ⟨i1, ?_⟩
      rw [i2, ← g2, by8_app, ByteArray.data_append, Array.toList_append, h2, List.append_assoc]
theorem rc_wrB {t : ByteArray} (hx : (wrB t).size ≤ 1000000) (h : rgtB t = true) : rc (wrB t) 0 false emp = (true, t) := by
  obtain ⟨h1, h2⟩ := decodeR hx (nl t).length (nl t) (Nat.le_refl _) (good_of h) false 0 emp (by omega) (by rw [nl_wrB]; rfl)
  rw [by8_nl] at h2
  have e : (rc (wrB t) 0 false emp).2 = t := by
    generalize (rc (wrB t) 0 false emp).2 = u at h2
    obtain ⟨a⟩ := u; obtain ⟨b⟩ := t
    exact congrArg _ (Array.ext' h2)
  exact Prod.ext h1 e
def rcOk (x : ByteArray) : Bool := (rc x 0 false emp).1 && (rgtB (rc x 0 false emp).2 && decide (wrB (rc x 0 false emp).2 = x))
theorem rc_dc {x : ByteArray} (hx : x.size ≤ 1000000) : rcOk x = rdOk x ∧ (rdOk x = true → (rc x 0 false emp).2 = dT x) := by
  have a : rdOk x = true → rcOk x = true ∧ (rc x 0 false emp).2 = dT x := by
    intro h
    unfold rdOk at h
    simp only [Bool.and_eq_true, decide_eq_true_eq] at h
    obtain ⟨_, h2, h3⟩ := h
    have h4 := rc_wrB (t := dT x) (by rw [h3]; exact hx) h2
    rw [h3] at h4
    refine ⟨?_, by rw [h4]⟩
    unfold rcOk
    rw [h4]
    dsimp only
    rw [h2, decide_eq_true h3]; rfl
  have b : rcOk x = true → rdOk x = true := by
    intro h
    unfold rcOk at h
    simp only [Bool.and_eq_true, decide_eq_true_eq] at h
    obtain ⟨_, h2, h3⟩ := h
    have := rd_wr h2
    rwa [h3] at this
  refine ⟨?_, fun h => (a h).2⟩
  rw [Bool.eq_iff_iff]
  exact ⟨b, fun h => (a h).1⟩
theorem rcF_size (s : ByteArray) : ∀ (n : Nat) (k : Int) (f : Bool) (out : ByteArray), (rcF s n k f out).2.size ≤ out.size + 4 * n
  | 0, _, _, out => Nat.le_refl _
  | n + 1, k, f, out => by
    rw [rcF]
    have hp := pv_ok s k f
    cases decide (k < (s.size : Int)) with
    | false => exact Nat.le_add_right _ _
    | true =>
      cases decide ((pv s k f).2.1 = 0) with
      | true => exact Nat.le_add_right _ _
      | false =>
        have := rcF_size s n (k + (pv s k f).2.1) (pv s k f).2.2 (out ++ (pv s k f).1)
        rw [ByteArray.size_append] at this
        simp only [cond_true, cond_false]
        omega
theorem q17' {x : ByteArray} (hx : x.size ≤ 100000) : runP Tryd.prog J6 60 17 [sv x] = some (.tup [sv (rdS x), iv (rdE x)]) := by
  have hp : pQ (lQ x emp false 0) = true := by
    show (decide ((0 : Int) ≤ 0) && decide ((0 : Int) ≤ (x.size : Int) + 2) && Nat.ble x.size 1000000 && decide (((emp).size : Int) ≤ 4 * 0)) = true
    simp only [Bool.and_eq_true, decide_eq_true_eq]
    exact ⟨⟨⟨by omega, by omega⟩, Nat.ble_eq_true_of_le (by omega)⟩, by decide⟩
  have hs : (rc x 0 false emp).2.size ≤ 1000000 := by
    have h := rcF_size x ((x.size : Int) - 0).toNat 0 false emp
    have e0 : (emp).size = 0 := rfl
    unfold rc
    omega
  obtain ⟨h1, h2⟩ := rc_dc (x := x) (by omega)
  rw [q17, hp, Nat.ble_eq_true_of_le hs]
  unfold rdS rdE
  cases hr : rdOk x with
  | true =>
    rw [hr] at h1
    have h3 := h2 hr
    unfold rcOk at h1
    simp only [Bool.and_eq_true, decide_eq_true_eq] at h1
    obtain ⟨g1, g2, g3⟩ := h1
    have e1 : wrE (rc x 0 false emp).2 = 0 := by unfold wrE; rw [g2]; rfl
    have e2 : wrS (rc x 0 false emp).2 = x := by unfold wrS; rw [g2]; exact g3
    rw [g1, e1, e2, toList_beq, decide_eq_true rfl, decide_eq_true rfl, h3]; rfl
  | false =>
    rw [hr] at h1
    unfold rcOk at h1
    cases g1 : (rc x 0 false emp).1 with
    | false => rfl
    | true =>
      rw [g1, Bool.true_and, ← wr_is, Bool.and_eq_false_iff] at h1
      rcases h1 with h1 | h1
      · rw [h1]; rfl
      · rw [toList_beq, h1]
        cases decide (wrE (rc x 0 false emp).2 = 0) <;> rfl
def c17 : List PV → Option (DT PV)
  | [.val (.string x)] => some (.br (Nat.ble x.size 100000) (.leaf (.tup [sv (rdS x), iv (rdE x)])) .no)
  | _ => none
theorem e17 : Hx.Enters Tryd.prog 17 := enters_of Tryd.func17 (show Tryd.f17.body = some (bod Tryd.f17) by kernel_rfl) (by kernel_rfl)
theorem o17 (args : List PV) (d : DT PV) (r : PV) (h : c17 args = some d) (hr : d.run = some r) : PCall Tryd.prog 17 args r := by
  unfold c17 at h; split at h
  · rename_i x
    cases h
    obtain ⟨h1, rfl⟩ := run_br hr
    exact (runP_sound okj6 (n := 60) (q17' (Nat.le_of_ble_eq_true h1))).2
  · cases h
noncomputable def J7 : EnvK := J6.addF 17 c17
theorem okj7 : EnvOK Tryd.prog J7.env := okj6.addF e17 o17
end Go.Ht
/- Braille: BrailleReads' first loop. -/
namespace Go.Ht
open Go.Hx Go.Proofs
noncomputable def J8 : EnvK := J7.addN 4 5 [(8, 5, 1)]
theorem okj8 : EnvOK Tryd.prog J8.env := okj7.addN 4 5 [(8, 5, 1)]
def shT : S1 := ⟨84, [(0, .lst 3), (2, .lst 5), (4, .ptr 0 1 0 0), (7, .bool), (8, .sl 1), (26, .lst 5), (27, I64), (28, I64)], [.one 33 6 .pv, .many 5 1]⟩
abbrev lT (f : Bool) (ls : List PV) (g : Bool) (rs : List PV) (h : Bool) (n m : Nat) (f2 : Bool) (xs : List PV) (len k : Int) (p : PV) (nl : Bool) (es : List PV) : LS := ([.l f ls, .l g rs, .b h, .n n, .n m, .l f2 xs, .i len, .i k], [.p p, .l nl es])
noncomputable abbrev xT (f : Bool) (ls : List PV) (g : Bool) (rs : List PV) (h : Bool) (n m : Nat) (p : PV) (nl : Bool) (es : List PV) : PX × List PV × List Row := (.exit 0, tm 84 [(0, .lst f 3 ls), (2, .lst g 5 rs), (4, .ptr 0 1 0 0), (7, bv h), (8, .sl 1 n 0 m)], (shT.put (lT f ls g rs h n m true [] 0 0 p nl es)).2)
theorem qT (f : Bool) (ls : List PV) (g : Bool) (rs : List PV) (h : Bool) (n m : Nat) (f2 : Bool) (xs : List PV) (len k : Int) (p : PV) (nl : Bool) (es : List PV) : runB Tryd.prog J8 60 4 (lpb Tryd.f4 5) [0, 2, 4, 7, 8, 26, 27, 28] [0, 2, 4, 7, 8] (shT.put (lT f ls g rs h n m f2 xs len k p nl es)).1 (shT.put (lT f ls g rs h n m f2 xs len k p nl es)).2 =
  bif decide (k < len) then bif inr xs k then bif room1 es n m then some (.normal, shT.put (lT f ls g rs h (n + 1) (n + 1) f2 xs len (W (k + 1)) p (nl && false) (es ++ [cv (lo6 (gI xs k))]))) else none else none
  else some (xT f ls g rs h n m p nl es) := by kernel_rfl
def pT : LS → Bool
  | ([.l _ _, .l _ _, .b _, .n n, .n m, .l _ xs, .i len, .i k], [.p _, .l nl es]) => decide (n = es.length) && decide (m = es.length) && decide (len = (xs.length : Int)) && decide (len ≤ 1000) && decide (0 ≤ k) && decide (k ≤ len) && decide ((es.length : Int) ≤ k) && (nl == decide (es.length = 0))
  | _ => false
noncomputable def outT (f : Bool) (ls : List PV) (g : Bool) (rs : List PV) (h : Bool) (p : PV) (r : List PV) : DT (PX × List PV × List Row) := .br (r.length == 0) (.leaf (xT f ls g rs h 0 0 p true [])) (.leaf (xT f ls g rs h r.length r.length p false r))
noncomputable def fT : LS → DT (PX × List PV × List Row)
  | ([.l f ls, .l g rs, .b h, .n _, .n _, .l _ xs, .i len, .i k], [.p p, .l _ es]) => outT f ls g rs h p (es ++ smL xs k.toNat (len - k).toNat)
  | _ => .no
def mT : LS → Nat
  | ([.l _ _, .l _ _, .b _, .n _, .n _, .l _ _, .i len, .i k], [.p _, .l _ _]) => (len - k).toNat
  | _ => 0
theorem sT : ∀ s r, pT s = true → (fT s).run = some r → r.1 ≠ .normal ∧ (runB Tryd.prog J8 60 4 (lpb Tryd.f4 5) [0, 2, 4, 7, 8, 26, 27, 28] [0, 2, 4, 7, 8] (shT.put s).1 (shT.put s).2 = some r ∨
      ∃ s', runB Tryd.prog J8 60 4 (lpb Tryd.f4 5) [0, 2, 4, 7, 8, 26, 27, 28] [0, 2, 4, 7, 8] (shT.put s).1 (shT.put s).2 = some (.normal, shT.put s') ∧ pT s' = true ∧ mT s' < mT s ∧ (fT s').run = some r) := by
  intro t r hp hr
  unfold pT at hp; split at hp
  · rename_i f ls g rs h n m f2 xs len k p nl es
    simp only [Bool.and_eq_true, decide_eq_true_eq, beq_iff_eq] at hp
    obtain ⟨⟨⟨⟨⟨⟨⟨rfl, rfl⟩, rfl⟩, h4⟩, h5⟩, h6⟩, h7⟩, h8⟩ := hp
    have hr' : (outT f ls g rs h p (es ++ smL xs k.toNat ((xs.length : Int) - k).toNat)).run = some r := hr
    refine ⟨by have h0 := run_br2 hr'; rw [h0]; cases ((es ++ smL xs k.toNat ((xs.length : Int) - k).toNat).length == 0) <;> simp, ?_⟩
    rw [show shT.put ([.l f ls, .l g rs, .b h, .n es.length, .n es.length, .l f2 xs, .i (xs.length : Int), .i k], [.p p, .l nl es]) = shT.put (lT f ls g rs h es.length es.length f2 xs (xs.length : Int) k p nl es) from rfl, qT]
    by_cases hk : k < (xs.length : Int)
    · rw [decide_eq_true hk, cond_true, inr_of h5 hk, show room1 es es.length es.length = true by unfold room1; simp; omega, W_id (by omega) (by omega), Bool.and_false]
      obtain ⟨m, hm⟩ : ∃ m, ((xs.length : Int) - k).toNat = m + 1 := ⟨((xs.length : Int) - k).toNat - 1, by omega⟩
      have hm2 : ((xs.length : Int) - (k + 1)).toNat = m := by omega
      rw [hm] at hr'
      simp only [smL, Int.toNat_of_nonneg h5] at hr'
      refine .inr ⟨lT f ls g rs h (es.length + 1) (es.length + 1) f2 xs (xs.length : Int) (k + 1) p false (es ++ [cv (lo6 (gI xs k))]), rfl, by simp [pT]; omega, by simp only [mT]; omega, ?_⟩
      rw [← hr']
      show (outT f ls g rs h p (es ++ [cv (lo6 (gI xs k))] ++ smL xs (k + 1).toNat ((xs.length : Int) - (k + 1)).toNat)).run = _
      rw [hm2, List.append_assoc, show (k + 1).toNat = k.toNat + 1 by omega]; rfl
    · rw [show ((xs.length : Int) - k).toNat = 0 by omega] at hr'
      simp only [smL, List.append_nil] at hr'
      refine .inl ?_
      rw [decide_eq_false hk, ← hr', h8]
      cases es with
      | nil => rfl
      | cons x es => rfl
  · cases hp
noncomputable def J9 : EnvK := J8.addW 4 5 [0, 2, 4, 7, 8, 26, 27, 28] [] shT pT fT
theorem okj9 : EnvOK Tryd.prog J9.env :=
  okj8.addW (n := 60) Tryd.func4 (show Tryd.f4.body = some (bod Tryd.f4) by kernel_rfl) (show (loops (bod Tryd.f4)).filter (fun b => rid b == 5) = [lpb Tryd.f4 5] by kernel_rfl) [0, 2, 4, 7, 8, 26, 27, 28] [0, 2, 4, 7, 8] [] shT mT sT
end Go.Ht
/- Braille: the law of reading. -/
namespace Go.Ht
open Go.Hx Go.Proofs
def chkD (x : ByteArray) (k : Option PV) : Option PV :=
  bif decide ((x.size : Int) ≤ 68719476736) then bif Nat.ble x.size 100000 then
    bif !((rdS x).toList == (rdS x).toList) then fB else bif !decide (rdE x = rdE x) then fB else k
  else none else none
/-- Changed cells, twice. -/
structure CH where
  a : Int
  b : Int
  i : ByteArray
  c : Int
  d : Int
  j : ByteArray
def CH.pv (h : CH) : PV := .agg [cv h.a, cv h.b, sv h.i, cv h.c, cv h.d, sv h.j]
def wr4 (ls : List PV) : ByteArray := wrS (mdS ls)
def on4 (ls : List PV) (h : CH) : ByteArray := apS h.a h.b h.i (wr4 ls)
def tw4 (ls : List PV) (h : CH) : ByteArray := apS h.c h.d h.j (on4 ls h)
def mi4 (ls : List PV) (h : CH) (k : Option PV) : Option PV :=
  bif Nat.ble (mdS ls).size 1000000 then bif oR6 h.a && oR6 h.b && decide (((wr4 ls).size : Int) ≤ 1099511627776) then bif oR6 h.c && oR6 h.d && decide (((on4 ls h).size : Int) ≤ 1099511627776) then k else none else none else none
def fin4 (ls : List PV) (h : CH) (r m : ByteArray) : Option PV := chkD (wr4 ls) (chkD (on4 ls h) (chkD (tw4 ls h) (chkD r (chkD m (some (bv true))))))
set_option maxRecDepth 100000 in
theorem qL4 (f g : Bool) (ls xs : List PV) (h : CH) : runP Tryd.prog J9 60 4 [.lst f 3 ls, h.pv, .lst g 5 xs] =
  bif decide ((0 : Int) ≤ 0) && decide (0 ≤ mn40 xs) && decide (mn40 xs ≤ (xs.length : Int)) then
  bif pT (lT f ls true (xs6 xs) true 0 0 true (xs6 xs) ((xs6 xs).length : Int) 0 .any true []) then
  bif (sm6 xs).length == 0 then mi4 ls h (fin4 ls h (strB (xs6 xs)) emp)
  else mi4 ls h (bif ((sm6 xs).length == (sm6 xs).length) && true then fin4 ls h (strB (xs6 xs)) (strB (((sm6 xs).drop 0).take (sm6 xs).length)) else none)
  else none else none := by kernel_rfl
theorem chkD_ok {x : ByteArray} {k : Option PV} (h : x.size ≤ 100000) : chkD x k = k := by
  unfold chkD
  rw [decide_eq_true (show (x.size : Int) ≤ 68719476736 by omega), Nat.ble_eq_true_of_le h, toList_beq, decide_eq_true rfl, decide_eq_true rfl]
  rfl
theorem law4 (f g : Bool) (ls xs : List PV) (h : CH) (ha : oR6 h.a = true) (hb : oR6 h.b = true) (hc : oR6 h.c = true) (hd : oR6 h.d = true) : runP Tryd.prog J9 60 4 [.lst f 3 ls, h.pv, .lst g 5 xs] = some (bv true) := by
  have hm : 0 ≤ mn40 xs ∧ mn40 xs ≤ (xs.length : Int) ∧ mn40 xs ≤ 40 := by unfold mn40; split <;> omega
  have hx : (xs6 xs).length ≤ 40 := by unfold xs6; simp; omega
  have hs : (sm6 xs).length ≤ 40 := by unfold sm6; rw [List.nil_append, smL_len]; omega
  have hp : pT (lT f ls true (xs6 xs) true 0 0 true (xs6 xs) ((xs6 xs).length : Int) 0 .any true []) = true := by
    simp only [pT, Bool.and_eq_true, decide_eq_true_eq, List.length_nil]
    refine ⟨⟨⟨⟨⟨⟨⟨trivial, trivial⟩, trivial⟩, by omega⟩, by omega⟩, by omega⟩, by omega⟩, by rfl⟩
  have h1 := mdS_size ls
  have h2 := wrS_size (mdS ls)
  have ha' := ha
  have hb' := hb
  have hc' := hc
  have hd' := hd
  simp only [oR6, Bool.and_eq_true, decide_eq_true_eq] at ha' hb' hc' hd'
  have h3 := (apS_size (i := h.i) (s := wr4 ls) ha'.1 ha'.2 hb'.1 hb'.2 (by unfold wr4; omega)).2
  have h3' : (on4 ls h).size ≤ 2 * (wr4 ls).size + 10 := h3
  have h2' : (wr4 ls).size ≤ 3 * (mdS ls).size := h2
  have h4 := (apS_size (i := h.j) (s := on4 ls h) hc'.1 hc'.2 hd'.1 hd'.2 (by omega)).2
  have h4' : (tw4 ls h).size ≤ 2 * (on4 ls h).size + 10 := h4
  have mi : ∀ k, mi4 ls h k = k := by
    intro k
    unfold mi4
    rw [Nat.ble_eq_true_of_le (show (mdS ls).size ≤ 1000000 by omega), decide_eq_true (show ((wr4 ls).size : Int) ≤ 1099511627776 by omega), decide_eq_true (show ((on4 ls h).size : Int) ≤ 1099511627776 by omega), ha, hb, hc, hd]
    rfl
  have fi : ∀ r m : ByteArray, r.size ≤ 100000 → m.size ≤ 100000 → fin4 ls h r m = some (bv true) := by
    intro r m hr hm
    unfold fin4
    rw [chkD_ok (by omega), chkD_ok (by omega), chkD_ok (by omega), chkD_ok hr, chkD_ok hm]
  rw [qL4, decide_eq_true (Int.le_refl _), decide_eq_true hm.1, decide_eq_true hm.2.1, hp, mi, mi, fi _ _ (by rw [strB_size]; omega) (by decide), fi _ _ (by rw [strB_size]; omega) (by rw [strB_size, List.length_take, List.length_drop]; omega), beq_self_eq_true]
  cases (sm6 xs).length == 0 <;> rfl
theorem law4P (f g : Bool) (ls xs : List PV) {a b c d : Int} (i j : ByteArray) (ha : oR6 a = true) (hb : oR6 b = true) (hc : oR6 c = true) (hd : oR6 d = true) : PCall Tryd.prog 4 [.lst f 3 ls, .agg [cv a, cv b, sv i, cv c, cv d, sv j], .lst g 5 xs] (bv true) := (runP_sound okj9 (n := 60) (law4 f g ls xs ⟨a, b, i, c, d, j⟩ ha hb hc hd)).2
end Go.Ht
/- Braille: the frames of the laws: their arguments, the laid variable. -/
namespace Go.Proofs.YtooeeombopgghaaDoor
open Go.ChangeShapes Go.WideShapes Go.ChangeAt Go.RowKit Go.Hx Go.Ht

theorem own : ownKnob Tryd.prog.godebug = none := by kernel_rfl
theorem laidOut : laidOutB Tryd.prog = true := by kernel_rfl
theorem wt_nil {ps : List PV} (h : wtcs [] ps = true) : ps = [] := by
  cases ps with
  | nil => rfl
  | cons p ps => simp [wtcs] at h
theorem wtc_int {k : IntKind} {p : PV} (h : wtc (.int k) p = true) : ∃ n, p = .val (.int k n) := by
  cases p with
  | val v => cases v <;> simp_all [wtc]
  | lst f t es => simp_all [wtc]
  | _ => simp [wtc] at h
theorem wt_int {k : IntKind} {ks : List Kind} {ps : List PV} (h : wtcs ((.int k) :: ks) ps = true) : ∃ n qs, ps = .val (.int k n) :: qs ∧ wtcs ks qs = true := by
  cases ps with
  | nil => simp [wtcs] at h
  | cons p ps =>
    simp only [wtcs, Bool.and_eq_true] at h
    obtain ⟨n, rfl⟩ := wtc_int h.1
    exact ⟨n, ps, rfl, h.2⟩
theorem wtc_bool {p : PV} (h : wtc (.bool) p = true) : ∃ b, p = .val (.bool b) := by
  cases p with
  | val v => cases v <;> simp_all [wtc]
  | lst f t es => simp_all [wtc]
  | _ => simp [wtc] at h
theorem wt_bool {ks : List Kind} {ps : List PV} (h : wtcs ((.bool) :: ks) ps = true) : ∃ b qs, ps = .val (.bool b) :: qs ∧ wtcs ks qs = true := by
  cases ps with
  | nil => simp [wtcs] at h
  | cons p ps =>
    simp only [wtcs, Bool.and_eq_true] at h
    obtain ⟨b, rfl⟩ := wtc_bool h.1
    exact ⟨b, ps, rfl, h.2⟩
theorem wtc_str {p : PV} (h : wtc (.str) p = true) : ∃ s, p = .val (.string s) := by
  cases p with
  | val v => cases v <;> simp_all [wtc]
  | lst f t es => simp_all [wtc]
  | _ => simp [wtc] at h
theorem wt_str {ks : List Kind} {ps : List PV} (h : wtcs ((.str) :: ks) ps = true) : ∃ s qs, ps = .val (.string s) :: qs ∧ wtcs ks qs = true := by
  cases ps with
  | nil => simp [wtcs] at h
  | cons p ps =>
    simp only [wtcs, Bool.and_eq_true] at h
    obtain ⟨s, rfl⟩ := wtc_str h.1
    exact ⟨s, ps, rfl, h.2⟩
theorem wtc_sl {e : TypeId} {p : PV} (h : wtc (.sl e) p = true) : ∃ f es, p = .lst f e es := by
  cases p with
  | val v => cases v <;> simp [wtc] at h
  | lst f t es =>
    have : e = t := by simpa [wtc] using h
    subst this
    exact ⟨f, es, rfl⟩
  | _ => simp [wtc] at h
theorem wt_sl {e : TypeId} {ks : List Kind} {ps : List PV} (h : wtcs (.sl e :: ks) ps = true) : ∃ f es qs, ps = .lst f e es :: qs ∧ wtcs ks qs = true := by
  cases ps with
  | nil => simp [wtcs] at h
  | cons p ps =>
    simp only [wtcs, Bool.and_eq_true] at h
    obtain ⟨f, es, rfl⟩ := wtc_sl h.1
    exact ⟨f, es, ps, rfl, h.2⟩
theorem fit_i64 {n : Int} (h : Fit (.val (.int .i64 n))) : -9223372036854775808 ≤ n ∧ n ≤ 9223372036854775807 := by
  cases h with
  | int h => exact bounds_i64 h
theorem fit_u8 {n : Int} (h : Fit (.val (.int .u8 n))) : 0 ≤ n ∧ n ≤ 255 := by
  cases h with
  | int h => exact bounds_u8 h
theorem fit_u16 {n : Int} (h : Fit (.val (.int .u16 n))) : 0 ≤ n ∧ n ≤ 65535 := by
  cases h with
  | int h => exact bounds_u16 h
theorem rv_agg {t : TypeId} {ps : List PV} {W : World} {v : Value} (h : RV Tryd.prog (Ctx.of W) (mkE Tryd.prog t ps) v) (ha : isAggT Tryd.prog t = true) : RV Tryd.prog (Ctx.of W) (.agg ps) v := by
  unfold mkE at h
  rwa [if_pos ha] at h
theorem rv_one {t : TypeId} {p : PV} {W : World} {v : Value} (h : RV Tryd.prog (Ctx.of W) (mkE Tryd.prog t [p]) v) (ha : isAggT Tryd.prog t = false) : RV Tryd.prog (Ctx.of W) p v := by
  unfold mkE at h
  rwa [if_neg (by simp [ha])] at h
theorem cs_one {W : World} {p : PV} {v : Value} (h1 : RV Tryd.prog (Ctx.of W) p v) : Cs Tryd.prog (Ctx.of W) [p] #[v] := by
  refine ⟨rfl, fun j c x a b => ?_⟩
  match j with
  | 0 => simp at a b; subst a; subst b; exact h1
  | j + 1 => simp at a
theorem cs_four {W : World} {p q s t : PV} {v u x y : Value} (h1 : RV Tryd.prog (Ctx.of W) p v) (h2 : RV Tryd.prog (Ctx.of W) q u) (h3 : RV Tryd.prog (Ctx.of W) s x) (h4 : RV Tryd.prog (Ctx.of W) t y) : Cs Tryd.prog (Ctx.of W) [p, q, s, t] #[v, u, x, y] := by
  refine ⟨rfl, fun j c z a b => ?_⟩
  match j with
  | 0 => simp at a b; subst a; subst b; exact h1
  | 1 => simp at a b; subst a; subst b; exact h2
  | 2 => simp at a b; subst a; subst b; exact h3
  | 3 => simp at a b; subst a; subst b; exact h4
  | j + 4 => simp at a
theorem cs_two {W : World} {p q : PV} {v u : Value} (h1 : RV Tryd.prog (Ctx.of W) p v) (h2 : RV Tryd.prog (Ctx.of W) q u) : Cs Tryd.prog (Ctx.of W) [p, q] #[v, u] := by
  refine ⟨rfl, fun j c x a b => ?_⟩
  match j with
  | 0 => simp at a b; subst a; subst b; exact h1
  | 1 => simp at a b; subst a; subst b; exact h2
  | j + 2 => simp at a
theorem cs_three {W : World} {p q s : PV} {v u x : Value} (h1 : RV Tryd.prog (Ctx.of W) p v) (h2 : RV Tryd.prog (Ctx.of W) q u) (h3 : RV Tryd.prog (Ctx.of W) s x) : Cs Tryd.prog (Ctx.of W) [p, q, s] #[v, u, x] := by
  refine ⟨rfl, fun j c y a b => ?_⟩
  match j with
  | 0 => simp at a b; subst a; subst b; exact h1
  | 1 => simp at a b; subst a; subst b; exact h2
  | 2 => simp at a b; subst a; subst b; exact h3
  | j + 3 => simp at a
theorem gNone : Tryd.prog.globalNamed "hachure/braille.none" = some 0 := by kernel_rfl
theorem gNoneT : (Tryd.prog.globals[0]?).map (·.type) = some 57 := by kernel_rfl
theorem only0 : (List.range Tryd.prog.globals.size).all (fun g => !isLaid Tryd.prog g || Nat.beq g 0) = true := by kernel_rfl
theorem nm101 : Tryd.prog.typeName? 3 101 = some "*errors.errorString" := by kernel_rfl
/-- What the laid variable gives the machine. -/
theorem glb_of_laid {W : World} (hL : laidMetH Tryd.prog [("hachure/braille.none", Rows.laid_hachure_braille_none)] W) : Glb Tryd.prog (Ctx.of W) := by
  have hL' : laidMet Tryd.prog [("hachure/braille.none", Rows.laid_hachure_braille_none)] W := hL
  obtain ⟨a, s, hv, hc, _, _⟩ := laid_sentinel (ms := _) (f := _) hL' gNone gNoneT Tryd.underlying57 (fun u h => Go.Ht.err_101 h) Tryd.underlying101 Tryd.underlying125 rfl rfl Tryd.underlying9 (by kernel_rfl) (by kernel_rfl)
  intro g hg
  have hlt : g < Tryd.prog.globals.size := by
    unfold isLaid at hg
    split at hg
    · rename_i G hG; exact (Array.getElem?_eq_some_iff.1 hG).1
    · cases hg
  have h0 := List.all_eq_true.1 only0 g (List.mem_range.2 hlt)
  rw [hg, Bool.not_true, Bool.false_or] at h0
  obtain rfl := Nat.eq_of_beq_eq_true h0
  have hcell : W.cell? ⟨0, 0, none⟩ = some (.iface 101 (.pointer (some a))) := by simpa using World.var?_cell gNone hv 0
  refine ⟨of_ban W 0, ?_, 101, a, hcell, nm101⟩
  exact World.block_lt_of_cell? _ _ hcell
abbrev noneS : ByteArray := { data := #[110, 111, 32, 98, 114, 97, 105, 108, 108, 101] }
noncomputable def low : Nat := (World.holding Tryd.prog default ⟨#[], #[], []⟩).heap.size
noncomputable def laidWorld (os : Os) : World :=
  let w0 := World.holding Tryd.prog os ⟨#[.cells #[.string noneS] 125], #[], []⟩
  { w0 with heap := w0.heap.modify 0 fun
      | .cells _ t frozen => .cells #[.iface 101 (.pointer (some ⟨low, 0, none⟩))] t frozen
      | o => o }
theorem laid_met (os : Os) (args : Array Value) : laidMetH Tryd.prog [("hachure/braille.none", Rows.laid_hachure_braille_none)] ((laidWorld os).forCall (fun _ _ => 0) ⟨#[], args, []⟩).memory :=
  laidMet_of_run (ps := [.cell 0 0, .cell low 0]) 8 (by kernel_rfl) (by kernel_rfl) (by kernel_rfl)
theorem wants_no {l : Array TypeId} (h : l.toList.all (fun t => !Tryd.prog.wantsStandIn t) = true) {j : Nat} {t : TypeId} (ht : l[j]? = some t) : Tryd.prog.wantsStandIn t = false := by
  have hm : t ∈ l.toList := by
    rw [← Array.getElem?_toList] at ht
    exact List.mem_of_getElem? ht
  simpa using List.all_eq_true.1 h t hm
end Go.Proofs.YtooeeombopgghaaDoor
