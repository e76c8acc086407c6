/- Geometry: line.right; the reference's Check of a line. -/
import Derived.Test.YtneklpbkfmljfaaHgW1
namespace Go.Hg
open Go.Hx Go.Proofs
/-- The first point that is not right, from i on. -/
def fstW (es : List PV) (i : Int) : Nat → Int
  | 0 => i
  | n + 1 => bif right (qX es i) (qY es i) then fstW es (i + 1) n else i
theorem fstW_ge (es : List PV) : ∀ (n : Nat) (i : Int), i ≤ fstW es i n
  | 0, i => by simp [fstW]
  | n + 1, i => by
    have := fstW_ge es n (i + 1)
    simp only [fstW]
    cases right (qX es i) (qY es i) <;> simp only [cond_true, cond_false] <;> omega
abbrev fnR : PV := .fn (.func 151) [] []
def shI : S1 := ⟨19, [(0, .lst 23), (1, .fn 151 [] []), (7, I64), (8, I64)], []⟩
theorem qI (f : Bool) (es : List PV) (l i : Int) : runB Try.prog E33b 60 153 (lpb Try.f153 2) [0, 1, 7, 8] [4] (shI.put ([.l f es, .i l, .i i], [])).1 (shI.put ([.l f es, .i l, .i i], [])).2 =
  bif decide (i < l) then bif inr es i then bif !right (qX es i) (qY es i) then some (.ret, tm 19 [(4, iv i)], []) else some (.normal, shI.put ([.l f es, .i l, .i (W (i + 1))], [])) else none
    else some (.exit 0, tm 19 [], []) := by kernel_rfl
def pI : LS → Bool
  | ([.l _ es, .i l, .i i], []) => decide (0 ≤ i) && decide (i ≤ (es.length : Int)) && decide (l = (es.length : Int)) && big es
  | _ => false
def fI : LS → DT (PX × List PV × List Row)
  | ([.l _ es, .i _, .i i], []) => .br (allR es i ((es.length : Int) - i).toNat) (.leaf (.exit 0, tm 19 [], [])) (.leaf (.ret, tm 19 [(4, iv (fstW es i ((es.length : Int) - i).toNat))], []))
  | _ => .no
def mI : LS → Nat
  | ([.l _ es, .i _, .i i], []) => ((es.length : Int) - i).toNat
  | _ => 0
theorem sI : ∀ s r, pI s = true → (fI s).run = some r → r.1 ≠ .normal ∧ (runB Try.prog E33b 60 153 (lpb Try.f153 2) [0, 1, 7, 8] [4] (shI.put s).1 (shI.put s).2 = some r ∨
      ∃ s', runB Try.prog E33b 60 153 (lpb Try.f153 2) [0, 1, 7, 8] [4] (shI.put s).1 (shI.put s).2 = some (.normal, shI.put s') ∧ pI s' = true ∧ mI s' < mI s ∧ (fI s').run = some r) := by
  intro s r hp hr
  unfold pI at hp; split at hp
  · rename_i f es l i
    simp only [Bool.and_eq_true, decide_eq_true_eq] at hp
    obtain ⟨⟨⟨h1, h2⟩, hl⟩, h3⟩ := hp
    have hr' := run_br2 hr
    refine ⟨by rw [hr']; cases allR es i ((es.length : Int) - i).toNat <;> simp, ?_⟩
    rw [qI]
    by_cases hi : i < (es.length : Int)
    · rw [hl, decide_eq_true hi, cond_true, inr_of h1 hi, cond_true]
      obtain ⟨n, hn⟩ : ∃ n, ((es.length : Int) - i).toNat = n + 1 := ⟨((es.length : Int) - i).toNat - 1, by omega⟩
      rw [hn] at hr'
      simp only [allR, fstW] at hr'
      cases hR : right (qX es i) (qY es i) with
      | false => rw [hR] at hr'; exact .inl (by rw [hr']; rfl)
      | true =>
        rw [hR] at hr'
        refine .inr ⟨([.l f es, .i l, .i (i + 1)], []), by rw [W_id (by omega) (by omega), hl]; rfl, by simp [pI]; omega, by simp only [mI]; omega, ?_⟩
        rw [hr']
        simp only [fI]
        rw [show ((es.length : Int) - (i + 1)).toNat = n by omega]
        cases allR es (i + 1) n <;> rfl
    · rw [hl, decide_eq_false hi]
      rw [show ((es.length : Int) - i).toNat = 0 by omega] at hr'
      exact .inl (by rw [hr']; rfl)
  · cases hp
noncomputable def E33c : EnvK := E33b.addW 153 2 [0, 1, 7, 8] [] shI pI fI
theorem ok33c : EnvOK Try.prog E33c.env :=
  ok33b.addW (n := 60) Try.func153 (show Try.f153.body = some (bod Try.f153) by kernel_rfl) (show (loops (bod Try.f153)).filter (fun b => rid b == 2) = [lpb Try.f153 2] by kernel_rfl) [0, 1, 7, 8] [4] [] shI mI sI
theorem qLR (f : Bool) (es : List PV) : runP Try.prog E33c 60 118 [.lst f 23 es] =
  bif decide (0 ≤ (0 : Int)) && decide ((0 : Int) ≤ (es.length : Int)) && decide ((es.length : Int) = (es.length : Int)) && big es then bif allR es 0 ((es.length : Int) - 0).toNat then some (bv true) else some (bv (!decide (fstW es 0 ((es.length : Int) - 0).toNat ≥ 0))) else none := by kernel_rfl
theorem qLR' (f : Bool) (es : List PV) (h : big es = true) : runP Try.prog E33c 60 118 [.lst f 23 es] = some (bv (fin es)) := by
  rw [qLR, h]
  rw [show ((es.length : Int) - 0).toNat = es.length by omega]
  unfold fin
  have := fstW_ge es es.length 0
  simp only [Int.natCast_nonneg, decide_true, Bool.and_true, Int.le_refl, cond_true]
  cases allR es 0 es.length
  · rw [decide_eq_true (show fstW es 0 es.length ≥ 0 by omega)]; rfl
  · rfl
theorem eLR : Enters Try.prog 118 := (runP_sound ok33c (qLR' true [] rfl)).1
theorem oLR (args : List PV) (d : DT PV) (r : PV) (h : cFine args = some d) (hr : d.run = some r) : PCall Try.prog 118 args r := by
  unfold cFine at h; split at h
  · rename_i f es; cases h; obtain ⟨h1, rfl⟩ := run_br hr; exact (runP_sound ok33c (qLR' f es h1)).2
  · cases h
noncomputable def E33 : EnvK := E33b.addF 118 cFine
theorem ok33 : EnvOK Try.prog E33.env := ok33b.addF eLR oLR
/-- Meet of the segments at i and k. -/
def mq (es : List PV) (k i : Int) : Int := mt (qX es k) (qY es k) (qX es (k + 1)) (qY es (k + 1)) (qX es i) (qY es i) (qX es (i + 1)) (qY es (i + 1))
def mqW (es : List PV) (k i : Int) : Int := mt (qX es k) (qY es k) (qX es (W (k + 1))) (qY es (W (k + 1))) (qX es i) (qY es i) (qX es (W (i + 1))) (qY es (W (i + 1)))
def want (es : List PV) (la i k : Int) : Int := bif k + 1 == i then 1 else bif cls es && (k == 0) && (i == la) then 1 else 0
/-- The pairs of segment i with k, k + 1, .. are as they should be. -/
def allP (es : List PV) (la i k : Int) : Nat → Bool
  | 0 => true
  | n + 1 => (mq es k i == want es la i k) && allP es la i (k + 1) n
def eqq (es : List PV) (i j : Int) : Bool := (qX es i == qX es j) && ((qY es i == qY es j) && true)
def allI (es : List PV) (la i : Int) : Nat → Bool
  | 0 => true
  | n + 1 => !eqq es i (i + 1) && (allP es la i 0 i.toNat && allI es la (i + 1) n)
def shK : S1 := ⟨79, [(0, .lst 23), (3, I64), (4, I64), (5, I64)], []⟩
abbrev tK0 (f : Bool) (es : List PV) (la i : Int) : List PV := tm 79 [(0, .lst f 23 es), (3, iv la), (4, iv i)]
abbrev tK1 (f : Bool) (es : List PV) (la i : Int) : List PV := tm 79 [(0, .lst f 23 es), (2, iv 11), (3, iv la), (4, iv i)]
def pairT2 (f : Bool) (es : List PV) (la i k w : Int) : Option (PX × List PV × List Row) :=
  bif inr es k then bif inr es (W (k + 1)) then bif inr es i then bif inr es (W (i + 1)) then
    bif mqW es k i != w then some (.ret, tK1 f es la i, []) else some (.normal, shK.put ([.l f es, .i la, .i i, .i (W (k + 1))], [])) else none else none else none else none
theorem qK (f : Bool) (es : List PV) (la i k : Int) : runB Try.prog E33 60 103 (lpb Try.f103 12) [0, 3, 4, 5] [0, 2, 3, 4] (shK.put ([.l f es, .i la, .i i, .i k], [])).1 (shK.put ([.l f es, .i la, .i i, .i k], [])).2 =
  bif decide (k < i) then bif W (k + 1) == i then pairT2 f es la i k 1 else
    bif big es then bif cls es then bif k == 0 then bif i == la then pairT2 f es la i k 1 else pairT2 f es la i k 0 else pairT2 f es la i k 0 else pairT2 f es la i k 0 else none
  else some (.exit 2, tK0 f es la i, []) := by kernel_rfl
end Go.Hg
