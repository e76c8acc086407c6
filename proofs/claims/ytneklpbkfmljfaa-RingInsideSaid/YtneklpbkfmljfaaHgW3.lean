/- Geometry: the reference's Check of a line, of any length. -/
import Derived.Test.YtneklpbkfmljfaaHgW2
namespace Go.Hg
open Go.Hx Go.Proofs
def pK : LS → Bool
  | ([.l _ es, .i la, .i i, .i k], []) => decide (0 ≤ k) && decide (k ≤ i) && decide (i ≤ la) && decide (la + 2 = (es.length : Int)) && big es
  | _ => false
def fK : LS → DT (PX × List PV × List Row)
  | ([.l f es, .i la, .i i, .i k], []) => .br (allP es la i k (i - k).toNat) (.leaf (.exit 2, tK0 f es la i, [])) (.leaf (.ret, tK1 f es la i, []))
  | _ => .no
def mK : LS → Nat
  | ([.l _ _, .i _, .i i, .i k], []) => (i - k).toNat
  | _ => 0
theorem pairT2_eq {f : Bool} {es : List PV} {la i k : Int} (w : Int) (h0 : 0 ≤ k) (h1 : k < i) (h2 : i ≤ la) (h3 : la + 2 = (es.length : Int)) (hb : es.length ≤ 1000000) :
    pairT2 f es la i k w = bif mq es k i == w then some (.normal, shK.put ([.l f es, .i la, .i i, .i (k + 1)], [])) else some (.ret, tK1 f es la i, []) := by
  unfold pairT2 mqW
  rw [W_id (n := k + 1) (by omega) (by omega), W_id (n := i + 1) (by omega) (by omega), inr_of (by omega) (by omega), inr_of (by omega) (by omega), inr_of (by omega) (by omega), inr_of (by omega) (by omega)]
  show (bif mq es k i != w then _ else _) = _
  unfold bne
  cases mq es k i == w <;> rfl
theorem sK : ∀ s r, pK s = true → (fK s).run = some r → r.1 ≠ .normal ∧ (runB Try.prog E33 60 103 (lpb Try.f103 12) [0, 3, 4, 5] [0, 2, 3, 4] (shK.put s).1 (shK.put s).2 = some r ∨
      ∃ s', runB Try.prog E33 60 103 (lpb Try.f103 12) [0, 3, 4, 5] [0, 2, 3, 4] (shK.put s).1 (shK.put s).2 = some (.normal, shK.put s') ∧ pK s' = true ∧ mK s' < mK s ∧ (fK s').run = some r) := by
  intro s r hp hr
  unfold pK at hp; split at hp
  · rename_i f es la i k
    simp only [Bool.and_eq_true, decide_eq_true_eq] at hp
    obtain ⟨⟨⟨⟨h1, h2⟩, h3⟩, h4⟩, h5⟩ := hp
    have hr' := run_br2 hr
    refine ⟨by rw [hr']; cases allP es la i k (i - k).toNat <;> simp, ?_⟩
    rw [qK]
    by_cases hi : k < i
    · rw [decide_eq_true hi, cond_true, W_id (n := k + 1) (by omega) (by omega), show big es = true by simp [big]; omega, cond_true]
      rw [pairT2_eq 1 h1 hi h3 h4 h5, pairT2_eq 0 h1 hi h3 h4 h5]
      obtain ⟨n, hn⟩ : ∃ n, (i - k).toNat = n + 1 := ⟨(i - k).toNat - 1, by omega⟩
      rw [hn] at hr'
      simp only [allP] at hr'
      have key : (bif k + 1 == i then (bif mq es k i == 1 then some (PX.normal, shK.put ([.l f es, .i la, .i i, .i (k + 1)], [])) else some (PX.ret, tK1 f es la i, [])) else bif cls es then bif k == 0 then bif i == la then (bif mq es k i == 1 then some (PX.normal, shK.put ([.l f es, .i la, .i i, .i (k + 1)], [])) else some (PX.ret, tK1 f es la i, [])) else (bif mq es k i == 0 then some (PX.normal, shK.put ([.l f es, .i la, .i i, .i (k + 1)], [])) else some (PX.ret, tK1 f es la i, [])) else (bif mq es k i == 0 then some (PX.normal, shK.put ([.l f es, .i la, .i i, .i (k + 1)], [])) else some (PX.ret, tK1 f es la i, [])) else (bif mq es k i == 0 then some (PX.normal, shK.put ([.l f es, .i la, .i i, .i (k + 1)], [])) else some (PX.ret, tK1 f es la i, [])))
          = bif mq es k i == want es la i k then some (PX.normal, shK.put ([.l f es, .i la, .i i, .i (k + 1)], [])) else some (PX.ret, tK1 f es la i, []) := by
        unfold want
        cases k + 1 == i <;> cases cls es <;> cases k == 0 <;> cases i == la <;> rfl
      rw [key]
      cases hR : mq es k i == want es la i k with
      | false => rw [hR] at hr'; exact .inl (by rw [hr']; rfl)
      | true =>
        rw [hR] at hr'
        refine .inr ⟨([.l f es, .i la, .i i, .i (k + 1)], []), rfl, by simp [pK]; omega, by simp only [mK]; omega, ?_⟩
        rw [hr']
        simp only [fK]
        rw [show (i - (k + 1)).toNat = n by omega]
        cases allP es la i (k + 1) n <;> rfl
    · rw [decide_eq_false hi]
      rw [show (i - k).toNat = 0 by omega] at hr'
      exact .inl (by rw [hr']; rfl)
  · cases hp
noncomputable def E33k : EnvK := E33.addW 103 12 [0, 3, 4, 5] [] shK pK fK
theorem ok33k : EnvOK Try.prog E33k.env :=
  ok33.addW (n := 60) Try.func103 (show Try.f103.body = some (bod Try.f103) by kernel_rfl) (show (loops (bod Try.f103)).filter (fun b => rid b == 12) = [lpb Try.f103 12] by kernel_rfl) [0, 3, 4, 5] [0, 2, 3, 4] [] shK mK sK
def shJ : S1 := ⟨79, [(0, .lst 23), (3, I64), (4, I64)], []⟩
abbrev tJ0 (f : Bool) (es : List PV) (la : Int) : List PV := tm 79 [(0, .lst f 23 es), (3, iv la)]
abbrev tJ1 (f : Bool) (es : List PV) (la : Int) : List PV := tm 79 [(0, .lst f 23 es), (2, iv 11), (3, iv la)]
def eqqW (es : List PV) (i : Int) : Bool := (qX es i == qX es (W (i + 1))) && ((qY es i == qY es (W (i + 1))) && true)
theorem qJ (f : Bool) (es : List PV) (la i : Int) : runB Try.prog E33k 60 103 (lpb Try.f103 7) [0, 3, 4] [0, 2, 3] (shJ.put ([.l f es, .i la, .i i], [])).1 (shJ.put ([.l f es, .i la, .i i], [])).2 =
  bif decide (i ≤ la) then bif inr es i then bif inr es (W (i + 1)) then
    bif eqqW es i then some (.ret, tJ1 f es la, [])
    else bif pK ([.l f es, .i la, .i i, .i 0], []) then bif allP es la i 0 (i - 0).toNat then some (.normal, shJ.put ([.l f es, .i la, .i (W (i + 1))], [])) else some (.ret, tJ1 f es la, []) else none
    else none else none
  else some (.exit 0, tJ0 f es la, []) := by kernel_rfl
def pJ : LS → Bool
  | ([.l _ es, .i la, .i i], []) => decide (0 ≤ i) && decide (i ≤ la + 1) && decide (la + 2 = (es.length : Int)) && big es
  | _ => false
def fJ : LS → DT (PX × List PV × List Row)
  | ([.l f es, .i la, .i i], []) => .br (allI es la i (la + 1 - i).toNat) (.leaf (.exit 0, tJ0 f es la, [])) (.leaf (.ret, tJ1 f es la, []))
  | _ => .no
def mJ : LS → Nat
  | ([.l _ _, .i la, .i i], []) => (la + 1 - i).toNat
  | _ => 0
theorem sJ : ∀ s r, pJ s = true → (fJ s).run = some r → r.1 ≠ .normal ∧ (runB Try.prog E33k 60 103 (lpb Try.f103 7) [0, 3, 4] [0, 2, 3] (shJ.put s).1 (shJ.put s).2 = some r ∨
      ∃ s', runB Try.prog E33k 60 103 (lpb Try.f103 7) [0, 3, 4] [0, 2, 3] (shJ.put s).1 (shJ.put s).2 = some (.normal, shJ.put s') ∧ pJ s' = true ∧ mJ s' < mJ s ∧ (fJ s').run = some r) := by
  intro s r hp hr
  unfold pJ at hp; split at hp
  · rename_i f es la i
    simp only [Bool.and_eq_true, decide_eq_true_eq] at hp
    obtain ⟨⟨⟨h1, h2⟩, h4⟩, h5⟩ := hp
    have hr' := run_br2 hr
    refine ⟨by rw [hr']; cases allI es la i (la + 1 - i).toNat <;> simp, ?_⟩
    rw [qJ]
    by_cases hi : i ≤ la
    · have hw := W_id (n := i + 1) (by omega) (by omega)
      have he : eqqW es i = eqq es i (i + 1) := by unfold eqqW eqq; rw [hw]
      rw [decide_eq_true hi, cond_true, hw, inr_of (by omega) (by omega), inr_of (by omega) (by omega), he, show pK ([.l f es, .i la, .i i, .i 0], []) = true by simp [pK]; omega]
      obtain ⟨n, hn⟩ : ∃ n, (la + 1 - i).toNat = n + 1 := ⟨(la + 1 - i).toNat - 1, by omega⟩
      rw [hn] at hr'
      simp only [allI] at hr'
      simp only [cond_true, Int.sub_zero]
      cases hE : eqq es i (i + 1) with
      | true => rw [hE] at hr'; exact .inl (by rw [hr']; rfl)
      | false =>
        rw [hE] at hr'
        cases hR : allP es la i 0 i.toNat with
        | false => rw [hR] at hr'; exact .inl (by rw [hr']; rfl)
        | true =>
          rw [hR] at hr'
          refine .inr ⟨([.l f es, .i la, .i (i + 1)], []), rfl, by simp [pJ]; omega, by simp only [mJ]; omega, ?_⟩
          rw [hr']
          simp only [fJ]
          rw [show (la + 1 - (i + 1)).toNat = n by omega]
          cases allI es la (i + 1) n <;> rfl
    · rw [decide_eq_false hi]
      rw [show (la + 1 - i).toNat = 0 by omega] at hr'
      exact .inl (by rw [hr']; rfl)
  · cases hp
noncomputable def E33j : EnvK := E33k.addW 103 7 [0, 3, 4] [] shJ pJ fJ
theorem ok33j : EnvOK Try.prog E33j.env :=
  ok33k.addW (n := 60) Try.func103 (show Try.f103.body = some (bod Try.f103) by kernel_rfl) (show (loops (bod Try.f103)).filter (fun b => rid b == 7) = [lpb Try.f103 7] by kernel_rfl) [0, 3, 4] [0, 2, 3] [] shJ mJ sJ
/-- P5.1. -/
def chk (es : List PV) : Int := bif decide ((es.length : Int) < 2) || decide ((es.length : Int) > 40) then 2 else bif fin es then bif allI es ((es.length : Int) - 2) 0 (es.length - 1) then 0 else 11 else 10
def chkR (es : List PV) : Option PV := bif big es then bif !fin es then some (iv 10) else bif pJ ([.l true es, .i (W ((es.length : Int) - 2)), .i 0], []) then bif allI es (W ((es.length : Int) - 2)) 0 (W ((es.length : Int) - 2) + 1 - 0).toNat then some (iv 0) else some (iv 11) else none else none
theorem qRChk (f : Bool) (es : List PV) : runP Try.prog E33j 60 103 [.lst f 23 es] =
  bif decide ((es.length : Int) < 2) then some (iv 2) else bif decide ((es.length : Int) > 40) then some (iv 2) else chkR es := by kernel_rfl
theorem chk_tree (es : List PV) : (bif decide ((es.length : Int) < 2) then some (iv 2) else bif decide ((es.length : Int) > 40) then some (iv 2) else chkR es) = some (iv (chk es)) := by
  unfold chk
  by_cases h1 : (es.length : Int) < 2
  · rw [decide_eq_true h1]; rfl
  · by_cases h2 : (es.length : Int) > 40
    · rw [decide_eq_false h1, decide_eq_true h2]; rfl
    · rw [decide_eq_false h1, decide_eq_false h2]
      have hw := W_id (n := (es.length : Int) - 2) (by omega) (by omega)
      unfold chkR
      rw [hw, show big es = true by simp [big]; omega, show pJ ([.l true es, .i ((es.length : Int) - 2), .i 0], []) = true by simp [pJ]; omega, show ((es.length : Int) - 2 + 1 - 0).toNat = es.length - 1 by omega]
      cases fin es <;> cases allI es ((es.length : Int) - 2) 0 (es.length - 1) <;> rfl
def cChk : List PV → Option PV | [.lst _ 23 es] => some (iv (chk es)) | _ => none
theorem oRChk (args : List PV) (r : PV) (h : cChk args = some r) : Enters Try.prog 103 ∧ PCall Try.prog 103 args r := by
  unfold cChk at h; split at h
  · rename_i f es; cases h; exact runP_sound ok33j ((qRChk f es).trans (chk_tree es))
  · cases h
end Go.Hg
