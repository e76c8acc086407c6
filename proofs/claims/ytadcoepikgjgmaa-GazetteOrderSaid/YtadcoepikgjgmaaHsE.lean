/- Strings (gazette): small letters. -/
import Derived.Test.YtadcoepikgjgmaaHsD
namespace Go.Hs
open Go.Hx Go.Proofs
def eR (es : List PV) (i : Int) : Int := ((es.getD (0 + i.toNat) .any).cellAt 0).getI
theorem eR_eq (es : List PV) (i : Int) : eR es i = eB es i := by unfold eR eB; rw [Nat.zero_add]
def shF : S1 := ⟨30, [(3, .sl 0), (8, .sl 0), (9, I64), (10, I64)], [.many 5 1]⟩
abbrev lF (n3 l3 n8 l8 : Nat) (len i : Int) (nl : Bool) (es : List PV) : LS := ([.n n3, .n l3, .n n8, .n l8, .i len, .i i], [.l nl es])
noncomputable abbrev xF (n3 l3 : Nat) (nl : Bool) (es : List PV) : PX × List PV × List Row := (.exit 0, tm 30 [(3, .sl 0 n3 0 l3)], (shF.put (lF n3 l3 0 0 0 0 nl es)).2)
def lowJ (c : Int) : Int := B8 (B8 (c + 97) - 65)
def lowI (c : Int) : Int := bif decide (c ≥ 65) then bif decide (c ≤ 90) then B8 (B8 (c - 65) + 97) else c else c
theorem qFo (n3 l3 n8 l8 : Nat) (len i : Int) (nl : Bool) (es : List PV) : runB Try.prog E8 60 15 (lpb Try.f15 3) [3, 8, 9, 10] [3] (shF.put (lF n3 l3 n8 l8 len i nl es)).1 (shF.put (lF n3 l3 n8 l8 len i nl es)).2 =
  bif decide (i < len) then bif (es.length == n8) && true then bif decide (0 ≤ i) && decide (i < (l8 : Int)) then bif es.length == n8 then
    bif decide (eR es i ≥ 65) then bif decide (eR es i ≤ 90) then
      bif (es.length == n3) && true then bif decide (0 ≤ i) && decide (i < (l3 : Int)) then bif (es.length == n3) && true && true && true then
        some (.normal, shF.put (lF n3 l3 n8 l8 len (W (i + 1)) nl (es.set (0 + i.toNat) (cv (lowJ (eR es i))))))
      else none else none else none
    else some (.normal, shF.put (lF n3 l3 n8 l8 len (W (i + 1)) nl es)) else some (.normal, shF.put (lF n3 l3 n8 l8 len (W (i + 1)) nl es))
  else none else none else none else some (xF n3 l3 nl es) := by kernel_rfl
def lowE (es : List PV) (i : Int) : List PV := bif decide (eR es i ≥ 65) then bif decide (eR es i ≤ 90) then es.set (0 + i.toNat) (cv (lowJ (eR es i))) else es else es
def lowF (es : List PV) (i : Int) : Nat → List PV
  | 0 => es
  | m + 1 => lowF (lowE es i) (i + 1) m
theorem lowE_len (es : List PV) (i : Int) : (lowE es i).length = es.length := by
  unfold lowE; cases decide (eR es i ≥ 65) <;> cases decide (eR es i ≤ 90) <;> simp
theorem lowF_len : ∀ (m : Nat) (es : List PV) (i : Int), (lowF es i m).length = es.length
  | 0, _, _ => rfl
  | m + 1, es, i => by rw [lowF, lowF_len m, lowE_len]
def pF : LS → Bool
  | ([.n n3, .n l3, .n n8, .n l8, .i len, .i i], [.l _ es]) => decide (n3 = es.length) && decide (l3 = es.length) && decide (n8 = es.length) && decide (l8 = es.length) && decide (len = (es.length : Int)) && decide (0 ≤ i) && decide (i ≤ len) && big es
  | _ => false
noncomputable def fF : LS → DT (PX × List PV × List Row)
  | ([.n n3, .n l3, .n _, .n _, .i len, .i i], [.l nl es]) => .leaf (xF n3 l3 nl (lowF es i (len - i).toNat))
  | _ => .no
def mF : LS → Nat
  | ([.n _, .n _, .n _, .n _, .i len, .i i], [.l _ _]) => (len - i).toNat
  | _ => 0
theorem sF : ∀ s r, pF s = true → (fF s).run = some r → r.1 ≠ .normal ∧ (runB Try.prog E8 60 15 (lpb Try.f15 3) [3, 8, 9, 10] [3] (shF.put s).1 (shF.put s).2 = some r ∨
      ∃ s', runB Try.prog E8 60 15 (lpb Try.f15 3) [3, 8, 9, 10] [3] (shF.put s).1 (shF.put s).2 = some (.normal, shF.put s') ∧ pF s' = true ∧ mF s' < mF s ∧ (fF s').run = some r) := by
  intro s r hp hr
  unfold pF at hp; split at hp
  · rename_i n3 l3 n8 l8 len i nl es
    simp only [Bool.and_eq_true, decide_eq_true_eq] at hp
    obtain ⟨⟨⟨⟨⟨⟨⟨rfl, rfl⟩, rfl⟩, rfl⟩, rfl⟩, h6⟩, h7⟩, h8⟩ := hp
    have hr' := (Option.some.inj hr).symm
    refine ⟨by rw [hr']; simp, ?_⟩
    rw [show shF.put ([.n es.length, .n es.length, .n es.length, .n es.length, .i (es.length : Int), .i i], [.l nl es]) = shF.put (lF es.length es.length es.length es.length (es.length : Int) i nl es) from rfl, qFo]
    by_cases hi : i < (es.length : Int)
    · rw [decide_eq_true hi, cond_true, W_id (by omega) (by omega), decide_eq_true h6, beq_self_eq_true]
      simp only [Bool.and_true, Bool.true_and, cond_true]
      obtain ⟨m, hm⟩ : ∃ m, ((es.length : Int) - i).toNat = m + 1 := ⟨((es.length : Int) - i).toNat - 1, by omega⟩
      have hm2 : ((es.length : Int) - (i + 1)).toNat = m := by omega
      rw [hm] at hr'
      simp only [lowF] at hr'
      right
      refine ⟨lF es.length es.length es.length es.length (es.length : Int) (i + 1) nl (lowE es i), ?_, by simp [pF, lowE_len]; omega, by simp only [mF]; omega, ?_⟩
      · unfold lowE
        cases decide (eR es i ≥ 65) <;> cases decide (eR es i ≤ 90) <;> rfl
      · rw [hr']; simp only [fF, hm2]; rfl
    · rw [decide_eq_false hi]
      rw [show ((es.length : Int) - i).toNat = 0 by omega] at hr'
      exact .inl (by rw [hr']; rfl)
  · cases hp
noncomputable def E9 : EnvK := E8.addW 15 3 [3, 8, 9, 10] [] shF pF fF
theorem ok9 : EnvOK Try.prog E9.env :=
  ok8.addW (n := 60) Try.func15 (show Try.f15.body = some (bod Try.f15) by kernel_rfl) (show (loops (bod Try.f15)).filter (fun b => rid b == 3) = [lpb Try.f15 3] by kernel_rfl) [3, 8, 9, 10] [3] [] shF mF sF
theorem qFold (s : ByteArray) : runP Try.prog E9 40 15 [sv s] =
  bif pF (lF s.size s.size s.size s.size (s.size : Int) 0 false (bytesL s)) then
    bif ((lowF (bytesL s) 0 ((s.size : Int) - 0).toNat).length == s.size) && true then some (sv (strB (((lowF (bytesL s) 0 ((s.size : Int) - 0).toNat).drop 0).take s.size))) else none
  else none := by kernel_rfl
/-! The reference. -/
noncomputable def E10 : EnvK := E8.addN 16 3 [(3, 5, 1)]
theorem ok10 : EnvOK Try.prog E10.env := ok8.addN 16 3 [(3, 5, 1)]
def shG : S1 := ⟨30, [(0, .str), (3, .sl 0), (4, I64)], [.many 5 1]⟩
abbrev lG (s : ByteArray) (n l : Nat) (i : Int) (nl : Bool) (es : List PV) : LS := ([.s s, .n n, .n l, .i i], [.l nl es])
noncomputable abbrev xG (n l : Nat) (nl : Bool) (es : List PV) : PX × List PV × List Row := (.exit 0, tm 30 [(3, .sl 0 n 0 l)], (shG.put (lG .empty 0 0 0 nl es)).2)
def room1 (es : List PV) (n l : Nat) : Bool := decide (es.length = n) && decide (n = l) && decide ((n + 1) * 1 ≤ 140737488355328)
noncomputable def apG (s : ByteArray) (n l : Nat) (i : Int) (nl : Bool) (es : List PV) (c : Int) : Option (PX × List PV × List Row) :=
  bif room1 es n l then some (.normal, shG.put (lG s (n + 1) (n + 1) (W (i + 1)) (nl && false) (es ++ [cv c]))) else none
theorem qG (s : ByteArray) (n l : Nat) (i : Int) (nl : Bool) (es : List PV) : runB Try.prog E10 60 16 (lpb Try.f16 3) [0, 3, 4] [3] (shG.put (lG s n l i nl es)).1 (shG.put (lG s n l i nl es)).2 =
  bif decide (i < (s.size : Int)) then bif inS s i then bif decide (sB s i ≥ 65) then bif decide (sB s i ≤ 90) then apG s n l i nl es (B8 (B8 (sB s i - 65) + 97)) else apG s n l i nl es (sB s i) else apG s n l i nl es (sB s i) else none
  else some (xG n l nl es) := by kernel_rfl
def outF (s : ByteArray) (i : Int) : Nat → List PV
  | 0 => []
  | m + 1 => cv (lowI (sB s i)) :: outF s (i + 1) m
theorem outF_len (s : ByteArray) : ∀ (m : Nat) (i : Int), (outF s i m).length = m
  | 0, _ => rfl
  | m + 1, i => by simp [outF, outF_len s m (i + 1)]
def pG : LS → Bool
  | ([.s s, .n n, .n l, .i i], [.l _ es]) => decide (n = es.length) && decide (l = es.length) && decide ((es.length : Int) ≤ i) && decide (i ≤ (s.size : Int)) && bigS s
  | _ => false
noncomputable def fG : LS → DT (PX × List PV × List Row)
  | ([.s s, .n n, .n l, .i i], [.l nl es]) => .leaf (xG (n + ((s.size : Int) - i).toNat) (l + ((s.size : Int) - i).toNat) (nl && decide (((s.size : Int) - i).toNat = 0)) (es ++ outF s i ((s.size : Int) - i).toNat))
  | _ => .no
def mG : LS → Nat
  | ([.s s, .n _, .n _, .i i], [.l _ _]) => ((s.size : Int) - i).toNat
  | _ => 0
theorem sG : ∀ s r, pG s = true → (fG s).run = some r → r.1 ≠ .normal ∧ (runB Try.prog E10 60 16 (lpb Try.f16 3) [0, 3, 4] [3] (shG.put s).1 (shG.put s).2 = some r ∨
      ∃ s', runB Try.prog E10 60 16 (lpb Try.f16 3) [0, 3, 4] [3] (shG.put s).1 (shG.put s).2 = some (.normal, shG.put s') ∧ pG s' = true ∧ mG s' < mG s ∧ (fG s').run = some r) := by
  intro t r hp hr
  unfold pG at hp; split at hp
  · rename_i s n l i nl es
    simp only [Bool.and_eq_true, decide_eq_true_eq] at hp
    obtain ⟨⟨⟨⟨rfl, rfl⟩, h3⟩, h4⟩, h5⟩ := hp
    have hr' := (Option.some.inj hr).symm
    refine ⟨by rw [hr']; simp, ?_⟩
    rw [show shG.put ([.s s, .n es.length, .n es.length, .i i], [.l nl es]) = shG.put (lG s es.length es.length i nl es) from rfl, qG]
    by_cases hi : i < (s.size : Int)
    · rw [decide_eq_true hi, cond_true, inS_of (by omega) hi, cond_true]
      obtain ⟨m, hm⟩ : ∃ m, ((s.size : Int) - i).toNat = m + 1 := ⟨((s.size : Int) - i).toNat - 1, by omega⟩
      have hm2 : ((s.size : Int) - (i + 1)).toNat = m := by omega
      rw [hm] at hr'
      simp only [outF] at hr'
      have hroom : room1 es es.length es.length = true := by unfold room1; simp; omega
      have hap : ∀ c, apG s es.length es.length i nl es c = some (.normal, shG.put (lG s (es.length + 1) (es.length + 1) (i + 1) false (es ++ [cv c]))) := fun c => by
        unfold apG; rw [hroom, W_id (by omega) (by omega), Bool.and_false]; rfl
      right
      refine ⟨lG s (es.length + 1) (es.length + 1) (i + 1) false (es ++ [cv (lowI (sB s i))]), ?_, by simp [pG]; omega, by simp only [mG]; omega, ?_⟩
      · rw [hap, hap]
        unfold lowI
        cases decide (sB s i ≥ 65) <;> cases decide (sB s i ≤ 90) <;> rfl
      · rw [hr']
        simp only [fG, hm2, List.append_assoc, List.cons_append, List.nil_append, Bool.false_and]
        rw [show es.length + 1 + m = es.length + (m + 1) by omega]
        simp [DT.run]
    · rw [decide_eq_false hi]
      rw [show ((s.size : Int) - i).toNat = 0 by omega] at hr'
      exact .inl (by rw [hr']; simp [outF])
  · cases hp
noncomputable def E11 : EnvK := E10.addW 16 3 [0, 3, 4] [] shG pG fG
theorem ok11 : EnvOK Try.prog E11.env :=
  ok10.addW (n := 60) Try.func16 (show Try.f16.body = some (bod Try.f16) by kernel_rfl) (show (loops (bod Try.f16)).filter (fun b => rid b == 3) = [lpb Try.f16 3] by kernel_rfl) [0, 3, 4] [3] [] shG mG sG
theorem qRFold (s : ByteArray) : runP Try.prog E11 40 16 [sv s] =
  bif pG (lG s 0 0 0 true []) then
    bif (([] ++ outF s 0 ((s.size : Int) - 0).toNat).length == 0 + ((s.size : Int) - 0).toNat) && true then some (sv (strB ((([] ++ outF s 0 ((s.size : Int) - 0).toNat).drop 0).take (0 + ((s.size : Int) - 0).toNat)))) else none
  else none := by kernel_rfl
end Go.Hs
