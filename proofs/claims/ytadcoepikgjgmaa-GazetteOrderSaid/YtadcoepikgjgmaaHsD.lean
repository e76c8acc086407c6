/- Strings (gazette): names and classes. -/
import Derived.Test.YtadcoepikgjgmaaHsC
namespace Go.Hs
open Go.Hx Go.Proofs
def ctT (k : FuncId) (p : Int → Bool) (f : Bool) (es : List PV) : Option PV :=
  bif pI ([.l f es, .i (es.length : Int), .i 0], []) then bif anyG p (eB es) 0 ((es.length : Int) - 0).toNat then some (bv (decide (idxG p (eB es) 0 ((es.length : Int) - 0).toNat ≥ 0))) else some (bv false) else none
theorem qCt1 (f : Bool) (es : List PV) : runP Try.prog E5 40 26 [.lst f 5 es, .fn (.func 27) [] []] = ctT 27 p1 f es := by kernel_rfl
theorem qCt2 (f : Bool) (es : List PV) : runP Try.prog E5 40 26 [.lst f 5 es, .fn (.func 28) [] []] = ctT 28 p2 f es := by kernel_rfl
theorem ctT_eq (k : FuncId) (p : Int → Bool) (f : Bool) (es : List PV) (h : big es = true) : ctT k p f es = some (bv (anyG p (eB es) 0 es.length)) := by
  unfold ctT
  rw [show pI ([.l f es, .i (es.length : Int), .i 0], []) = true by simp [pI]; simpa using h, show ((es.length : Int) - 0).toNat = es.length by omega, cond_true]
  cases ha : anyG p (eB es) 0 es.length with
  | true => rw [cond_true, decide_eq_true (idxG_any p (eB es) es.length 0 (by omega) ha)]
  | false => rfl
def cCt : List PV → Option (DT PV)
  | [.lst _ 5 es, .fn (.func 27) [] []] => some (.br (big es) (.leaf (bv (anyG p1 (eB es) 0 es.length))) .no)
  | [.lst _ 5 es, .fn (.func 28) [] []] => some (.br (big es) (.leaf (bv (anyG p2 (eB es) 0 es.length))) .no)
  | _ => none
theorem eCt : Enters Try.prog 26 := (runP_sound ok5 ((qCt1 true []).trans (ctT_eq _ _ _ _ rfl))).1
theorem oCt (args : List PV) (d : DT PV) (r : PV) (h : cCt args = some d) (hr : d.run = some r) : PCall Try.prog 26 args r := by
  unfold cCt at h; split at h
  · rename_i f es; cases h; obtain ⟨h1, rfl⟩ := run_br1 hr; exact (runP_sound ok5 ((qCt1 f es).trans (ctT_eq _ _ _ _ h1))).2
  · rename_i f es; cases h; obtain ⟨h1, rfl⟩ := run_br1 hr; exact (runP_sound ok5 ((qCt2 f es).trans (ctT_eq _ _ _ _ h1))).2
  · cases h
noncomputable def E6 : EnvK := E5.addF 26 cCt
theorem ok6 : EnvOK Try.prog E6.env := ok5.addF eCt oCt
/-! Right. -/
def headR (s : ByteArray) (k : Option PV) : Option PV :=
  bif decide ((s.size : Int) < 1) then some (bv false) else bif decide ((s.size : Int) > 24) then some (bv false) else bif inS s 0 then bif sB s 0 == 32 then some (bv false) else
    bif inS s (W ((s.size : Int) - 1)) then bif sB s (W ((s.size : Int) - 1)) == 32 then some (bv false) else k else none else none
theorem qRight (s : ByteArray) : runP Try.prog E6 40 11 [sv s] = headR s (fr (bytesL s) s.size fun es => bif big es then some (bv (!anyG p1 (eB es) 0 es.length)) else none) := by kernel_rfl
/-- P9.1: the first and the last byte are no blanks, and all can be seen. -/
def rightS (s : ByteArray) : Bool := !(decide ((s.size : Int) < 1) || decide ((s.size : Int) > 24) || (sB s 0 == 32) || (sB s ((s.size : Int) - 1) == 32) || anyG p1 (sB s) 0 s.size)
theorem headR_eq (s : ByteArray) (k : Option PV) (hs : bigS s = true) (hk : ¬ (s.size : Int) < 1 → k = some (bv (!anyG p1 (sB s) 0 s.size))) : headR s k = some (bv (rightS s)) := by
  have hs' := of_decide_eq_true hs
  unfold headR rightS
  by_cases h1 : (s.size : Int) < 1
  · rw [decide_eq_true h1]; rfl
  · rw [hk h1, decide_eq_false h1, W_id (by omega) (by omega), inS_of (i := 0) (by omega) (by omega), inS_of (i := (s.size : Int) - 1) (by omega) (by omega)]
    cases decide ((s.size : Int) > 24) <;> cases sB s 0 == 32 <;> cases sB s ((s.size : Int) - 1) == 32 <;> rfl
theorem qRight' (s : ByteArray) (hs : bigS s = true) : runP Try.prog E6 40 11 [sv s] = some (bv (rightS s)) := by
  rw [qRight]
  have hs' := of_decide_eq_true hs
  refine headR_eq s _ hs fun _ => ?_
  rw [fr_eq (bytesL_len s), show big (bytesL s) = true by simp [big, bytesL_len]; exact hs', bytesL_len, any_bytes]; rfl
/-! Class. -/
theorem qClass (s : ByteArray) : runP Try.prog E6 40 13 [sv s] =
  bif decide ((s.size : Int) ≥ 1) then bif decide ((s.size : Int) ≤ 12) then fr (bytesL s) s.size fun es => bif big es then some (bv (!anyG p2 (eB es) 0 es.length)) else none else some (bv false) else some (bv false) := by kernel_rfl
def classS (s : ByteArray) : Bool := decide ((s.size : Int) ≥ 1) && decide ((s.size : Int) ≤ 12) && !anyG p2 (sB s) 0 s.size
theorem qClass' (s : ByteArray) (hs : bigS s = true) : runP Try.prog E6 40 13 [sv s] = some (bv (classS s)) := by
  rw [qClass]
  have hs' := of_decide_eq_true hs
  rw [fr_eq (bytesL_len s), show big (bytesL s) = true by simp [big, bytesL_len]; exact hs', bytesL_len, any_bytes]
  unfold classS
  cases decide ((s.size : Int) ≥ 1) <;> cases decide ((s.size : Int) ≤ 12) <;> rfl
/-! The reference. -/
def shS47 : S1 := ⟨47, [(0, .str), (3, I64)], []⟩
def shS28 : S1 := ⟨28, [(0, .str), (3, I64)], []⟩
theorem qRR (s : ByteArray) (i : Int) : runB Try.prog E6 60 12 (lpb Try.f12 4) [0, 3] [2] (shS47.put ([.s s, .i i], [])).1 (shS47.put ([.s s, .i i], [])).2 =
  bif decide (i < (s.size : Int)) then bif inS s i then bif decide (sB s i < 32) then some (.ret, tm 47 [(2, bv false)], []) else bif inS s i then bif decide (sB s i > 126) then some (.ret, tm 47 [(2, bv false)], []) else
    bif inS s i then bif sB s i == 34 then some (.ret, tm 47 [(2, bv false)], []) else some (.normal, shS47.put ([.s s, .i (W (i + 1))], [])) else none else none else none else some (.exit 0, tm 47 [], []) := by kernel_rfl
theorem qRC (s : ByteArray) (i : Int) : runB Try.prog E6 60 14 (lpb Try.f14 2) [0, 3] [0, 2] (shS28.put ([.s s, .i i], [])).1 (shS28.put ([.s s, .i i], [])).2 =
  bif decide (i < (s.size : Int)) then bif inS s i then bif decide (sB s i < 97) then some (.ret, tm 28 [(0, sv s), (2, bv false)], []) else bif inS s i then bif decide (sB s i > 122) then some (.ret, tm 28 [(0, sv s), (2, bv false)], []) else
    some (.normal, shS28.put ([.s s, .i (W (i + 1))], [])) else none else none else some (.exit 0, tm 28 [(0, sv s)], []) := by kernel_rfl
def pS : LS → Bool
  | ([.s s, .i i], []) => decide (0 ≤ i) && decide (i ≤ (s.size : Int)) && bigS s
  | _ => false
def fRR : LS → DT (PX × List PV × List Row)
  | ([.s s, .i i], []) => .br (anyG p1 (sB s) i ((s.size : Int) - i).toNat) (.leaf (.ret, tm 47 [(2, bv false)], [])) (.leaf (.exit 0, tm 47 [], []))
  | _ => .no
def fRC : LS → DT (PX × List PV × List Row)
  | ([.s s, .i i], []) => .br (anyG p2 (sB s) i ((s.size : Int) - i).toNat) (.leaf (.ret, tm 28 [(0, sv s), (2, bv false)], [])) (.leaf (.exit 0, tm 28 [(0, sv s)], []))
  | _ => .no
def mS : LS → Nat
  | ([.s s, .i i], []) => ((s.size : Int) - i).toNat
  | _ => 0
theorem sRR : ∀ s r, pS s = true → (fRR s).run = some r → r.1 ≠ .normal ∧ (runB Try.prog E6 60 12 (lpb Try.f12 4) [0, 3] [2] (shS47.put s).1 (shS47.put s).2 = some r ∨
      ∃ s', runB Try.prog E6 60 12 (lpb Try.f12 4) [0, 3] [2] (shS47.put s).1 (shS47.put s).2 = some (.normal, shS47.put s') ∧ pS s' = true ∧ mS s' < mS s ∧ (fRR s').run = some r) := by
  intro t r hp hr
  unfold pS at hp; split at hp
  · rename_i s i
    simp only [Bool.and_eq_true, decide_eq_true_eq] at hp
    obtain ⟨⟨h1, h2⟩, h9⟩ := hp
    have hr' := run_br2 hr
    refine ⟨by rw [hr']; cases anyG p1 (sB s) i ((s.size : Int) - i).toNat <;> simp, ?_⟩
    rw [qRR]
    by_cases hi : i < (s.size : Int)
    · rw [decide_eq_true hi, cond_true, inS_of h1 hi, W_id (by omega) (by omega)]
      obtain ⟨m, hm⟩ : ∃ m, ((s.size : Int) - i).toNat = m + 1 := ⟨((s.size : Int) - i).toNat - 1, by omega⟩
      have hm2 : ((s.size : Int) - (i + 1)).toNat = m := by omega
      rw [hm] at hr'
      simp only [anyG, p1] at hr'
      cases c1 : decide (sB s i < 32) with
      | true => rw [c1] at hr'; exact .inl (by rw [hr']; rfl)
      | false =>
        cases c2 : decide (sB s i > 126) with
        | true => rw [c1, c2] at hr'; exact .inl (by rw [hr']; rfl)
        | false =>
          cases c3 : sB s i == 34 with
          | true => rw [c1, c2, c3] at hr'; exact .inl (by rw [hr']; rfl)
          | false =>
            rw [c1, c2, c3] at hr'
            refine .inr ⟨([.s s, .i (i + 1)], []), rfl, by simp [pS]; omega, by simp only [mS]; omega, ?_⟩
            rw [hr']
            simp only [fRR, hm2, Bool.false_or]
            show _ = some (bif anyG p1 (sB s) (i + 1) m then _ else _)
            cases anyG p1 (sB s) (i + 1) m <;> rfl
    · rw [decide_eq_false hi]
      rw [show ((s.size : Int) - i).toNat = 0 by omega] at hr'
      exact .inl (by rw [hr']; rfl)
  · cases hp
theorem sRC : ∀ s r, pS s = true → (fRC s).run = some r → r.1 ≠ .normal ∧ (runB Try.prog E6 60 14 (lpb Try.f14 2) [0, 3] [0, 2] (shS28.put s).1 (shS28.put s).2 = some r ∨
      ∃ s', runB Try.prog E6 60 14 (lpb Try.f14 2) [0, 3] [0, 2] (shS28.put s).1 (shS28.put s).2 = some (.normal, shS28.put s') ∧ pS s' = true ∧ mS s' < mS s ∧ (fRC s').run = some r) := by
  intro t r hp hr
  unfold pS at hp; split at hp
  · rename_i s i
    simp only [Bool.and_eq_true, decide_eq_true_eq] at hp
    obtain ⟨⟨h1, h2⟩, h9⟩ := hp
    have hr' := run_br2 hr
    refine ⟨by rw [hr']; cases anyG p2 (sB s) i ((s.size : Int) - i).toNat <;> simp, ?_⟩
    rw [qRC]
    by_cases hi : i < (s.size : Int)
    · rw [decide_eq_true hi, cond_true, inS_of h1 hi, W_id (by omega) (by omega)]
      obtain ⟨m, hm⟩ : ∃ m, ((s.size : Int) - i).toNat = m + 1 := ⟨((s.size : Int) - i).toNat - 1, by omega⟩
      have hm2 : ((s.size : Int) - (i + 1)).toNat = m := by omega
      rw [hm] at hr'
      simp only [anyG, p2] at hr'
      cases c1 : decide (sB s i < 97) with
      | true => rw [c1] at hr'; exact .inl (by rw [hr']; rfl)
      | false =>
        cases c2 : decide (sB s i > 122) with
        | true => rw [c1, c2] at hr'; exact .inl (by rw [hr']; rfl)
        | false =>
          rw [c1, c2] at hr'
          refine .inr ⟨([.s s, .i (i + 1)], []), rfl, by simp [pS]; omega, by simp only [mS]; omega, ?_⟩
          rw [hr']
          simp only [fRC, hm2, Bool.false_or]
          show _ = some (bif anyG p2 (sB s) (i + 1) m then _ else _)
          cases anyG p2 (sB s) (i + 1) m <;> rfl
    · rw [decide_eq_false hi]
      rw [show ((s.size : Int) - i).toNat = 0 by omega] at hr'
      exact .inl (by rw [hr']; rfl)
  · cases hp
noncomputable def E7a : EnvK := E6.addW 12 4 [0, 3] [] shS47 pS fRR
theorem ok7a : EnvOK Try.prog E7a.env :=
  ok6.addW (n := 60) Try.func12 (show Try.f12.body = some (bod Try.f12) by kernel_rfl) (show (loops (bod Try.f12)).filter (fun b => rid b == 4) = [lpb Try.f12 4] by kernel_rfl) [0, 3] [2] [] shS47 mS sRR
noncomputable def E7b : EnvK := E6.addW 14 2 [0, 3] [] shS28 pS fRC
theorem ok7b : EnvOK Try.prog E7b.env :=
  ok6.addW (n := 60) Try.func14 (show Try.f14.body = some (bod Try.f14) by kernel_rfl) (show (loops (bod Try.f14)).filter (fun b => rid b == 2) = [lpb Try.f14 2] by kernel_rfl) [0, 3] [0, 2] [] shS28 mS sRC
theorem qRRight (s : ByteArray) : runP Try.prog E7a 40 12 [sv s] = headR s (bif pS ([.s s, .i 0], []) then bif anyG p1 (sB s) 0 ((s.size : Int) - 0).toNat then some (bv false) else some (bv true) else none) := by kernel_rfl
theorem qRClass (s : ByteArray) : runP Try.prog E7b 40 14 [sv s] = bif pS ([.s s, .i 0], []) then bif anyG p2 (sB s) 0 ((s.size : Int) - 0).toNat then some (bv false) else
  bif decide ((s.size : Int) ≥ 1) then some (bv (decide ((s.size : Int) ≤ 12))) else some (bv false) else none := by kernel_rfl
theorem qRRight' (s : ByteArray) (hs : bigS s = true) : runP Try.prog E7a 40 12 [sv s] = some (bv (rightS s)) := by
  rw [qRRight]
  refine headR_eq s _ hs fun _ => ?_
  rw [show pS ([.s s, .i 0], []) = true by simp [pS]; simpa using hs, show ((s.size : Int) - 0).toNat = s.size by omega]
  cases anyG p1 (sB s) 0 s.size <;> rfl
theorem qRClass' (s : ByteArray) (hs : bigS s = true) : runP Try.prog E7b 40 14 [sv s] = some (bv (classS s)) := by
  rw [qRClass]
  rw [show pS ([.s s, .i 0], []) = true by simp [pS]; simpa using hs, show ((s.size : Int) - 0).toNat = s.size by omega]
  unfold classS
  cases anyG p2 (sB s) 0 s.size <;> cases decide ((s.size : Int) ≥ 1) <;> cases decide ((s.size : Int) ≤ 12) <;> rfl
def cRight : List PV → Option (DT PV) | [.val (.string s)] => some (.br (bigS s) (.leaf (bv (rightS s))) .no) | _ => none
def cClass : List PV → Option (DT PV) | [.val (.string s)] => some (.br (bigS s) (.leaf (bv (classS s))) .no) | _ => none
theorem oRight (args : List PV) (d : DT PV) (r : PV) (h : cRight args = some d) (hr : d.run = some r) : PCall Try.prog 11 args r := by
  unfold cRight at h; split at h
  · rename_i s; cases h; obtain ⟨h1, rfl⟩ := run_br1 hr; exact (runP_sound ok6 (qRight' s h1)).2
  · cases h
theorem oClass (args : List PV) (d : DT PV) (r : PV) (h : cClass args = some d) (hr : d.run = some r) : PCall Try.prog 13 args r := by
  unfold cClass at h; split at h
  · rename_i s; cases h; obtain ⟨h1, rfl⟩ := run_br1 hr; exact (runP_sound ok6 (qClass' s h1)).2
  · cases h
theorem oRRight (args : List PV) (d : DT PV) (r : PV) (h : cRight args = some d) (hr : d.run = some r) : PCall Try.prog 12 args r := by
  unfold cRight at h; split at h
  · rename_i s; cases h; obtain ⟨h1, rfl⟩ := run_br1 hr; exact (runP_sound ok7a (qRRight' s h1)).2
  · cases h
theorem oRClass (args : List PV) (d : DT PV) (r : PV) (h : cClass args = some d) (hr : d.run = some r) : PCall Try.prog 14 args r := by
  unfold cClass at h; split at h
  · rename_i s; cases h; obtain ⟨h1, rfl⟩ := run_br1 hr; exact (runP_sound ok7b (qRClass' s h1)).2
  · cases h
theorem eRight : Enters Try.prog 11 := (runP_sound ok6 (qRight' .empty rfl)).1
theorem eClass : Enters Try.prog 13 := (runP_sound ok6 (qClass' .empty rfl)).1
theorem eRRight : Enters Try.prog 12 := (runP_sound ok7a (qRRight' .empty rfl)).1
theorem eRClass : Enters Try.prog 14 := (runP_sound ok7b (qRClass' .empty rfl)).1
noncomputable def E8 : EnvK := (((E6.addF 11 cRight).addF 13 cClass).addF 12 cRight).addF 14 cClass
theorem ok8 : EnvOK Try.prog E8.env := (((ok6.addF eRight oRight).addF eClass oClass).addF eRRight oRRight).addF eRClass oRClass
end Go.Hs
