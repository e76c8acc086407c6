/- Geometry: lists of any length: all points right; closed. -/
import Derived.Test.YtneklpbkfmljfaaHgO
import Derived.Test.YtneklpbkfmljfaaHxLf
namespace Go.Hg
open Go.Hx Go.Proofs
def qX (es : List PV) (i : Int) : Int := ((es.getD i.toNat .any).cellAt 0).getI
def qY (es : List PV) (i : Int) : Int := ((es.getD i.toNat .any).cellAt 1).getI
def inr (es : List PV) (i : Int) : Bool := decide (0 ≤ i) && decide (i < (es.length : Int))
abbrev qp (es : List PV) (i : Int) : PV := ptv (qX es i) (qY es i)
theorem inr_of {es : List PV} {i : Int} (h1 : 0 ≤ i) (h2 : i < (es.length : Int)) : inr es i = true := by unfold inr; simp; omega
/-- The points i, i + 1, .. are right. -/
def allR (es : List PV) (i : Int) : Nat → Bool
  | 0 => true
  | n + 1 => right (qX es i) (qY es i) && allR es (i + 1) n
theorem allR_false {es : List PV} : ∀ {n : Nat} {i : Int}, allR es i n = true ↔ ∀ j : Nat, j < n → right (qX es (i + j)) (qY es (i + j)) = true
  | 0, i => by simp [allR]
  | n + 1, i => by
    simp only [allR, Bool.and_eq_true, allR_false (n := n) (i := i + 1)]
    constructor
    · rintro ⟨h1, h2⟩ j hj
      cases j with
      | zero => simpa using h1
      | succ j => have := h2 j (by omega); rwa [show i + 1 + (j : Int) = i + ((j + 1 : Nat) : Int) by omega] at this
    · intro h
      exact ⟨by simpa using h 0 (by omega), fun j hj => by rw [show i + 1 + (j : Int) = i + ((j + 1 : Nat) : Int) by omega]; exact h (j + 1) (by omega)⟩
abbrev big (es : List PV) : Bool := decide (es.length ≤ 1000000)
def shF : S1 := ⟨18, [(0, .lst 23), (3, I64)], []⟩
abbrev tF0 (f : Bool) (es : List PV) : List PV := tm 18 [(0, .lst f 23 es)]
abbrev tF1 (f : Bool) (es : List PV) : List PV := tm 18 [(0, .lst f 23 es), (2, bv false)]
theorem qF (f : Bool) (es : List PV) (i : Int) : runB Try.prog E32 60 120 (lpb Try.f120 2) [0, 3] [0, 2] (shF.put ([.l f es, .i i], [])).1 (shF.put ([.l f es, .i i], [])).2 =
  bif decide (i < (es.length : Int)) then bif inr es i then bif !right (qX es i) (qY es i) then some (.ret, tF1 f es, []) else some (.normal, shF.put ([.l f es, .i (W (i + 1))], [])) else none
    else some (.exit 0, tF0 f es, []) := by kernel_rfl
def pF : LS → Bool
  | ([.l _ es, .i i], []) => decide (0 ≤ i) && decide (i ≤ (es.length : Int)) && big es
  | _ => false
def fF : LS → DT (PX × List PV × List Row)
  | ([.l f es, .i i], []) => .br (allR es i ((es.length : Int) - i).toNat) (.leaf (.exit 0, tF0 f es, [])) (.leaf (.ret, tF1 f es, []))
  | _ => .no
def mF : LS → Nat
  | ([.l _ es, .i i], []) => ((es.length : Int) - i).toNat
  | _ => 0
theorem run_br2 {α : Type} {b : Bool} {a c r : α} (h : (DT.br b (.leaf a) (.leaf c)).run = some r) : r = bif b then a else c := by
  cases b <;> exact (Option.some.inj h).symm
theorem sF : ∀ s r, pF s = true → (fF s).run = some r → r.1 ≠ .normal ∧ (runB Try.prog E32 60 120 (lpb Try.f120 2) [0, 3] [0, 2] (shF.put s).1 (shF.put s).2 = some r ∨
      ∃ s', runB Try.prog E32 60 120 (lpb Try.f120 2) [0, 3] [0, 2] (shF.put s).1 (shF.put s).2 = some (.normal, shF.put s') ∧ pF s' = true ∧ mF s' < mF s ∧ (fF s').run = some r) := by
  intro s r hp hr
  unfold pF at hp; split at hp
  · rename_i f es i
    simp only [Bool.and_eq_true, decide_eq_true_eq] at hp
    obtain ⟨⟨h1, h2⟩, h3⟩ := hp
    have hr' := run_br2 hr
    refine ⟨by rw [hr']; cases allR es i ((es.length : Int) - i).toNat <;> simp, ?_⟩
    rw [qF]
    by_cases hi : i < (es.length : Int)
    · rw [decide_eq_true hi, cond_true, inr_of h1 hi, cond_true]
      obtain ⟨n, hn⟩ : ∃ n, ((es.length : Int) - i).toNat = n + 1 := ⟨((es.length : Int) - i).toNat - 1, by omega⟩
      rw [hn] at hr'
      simp only [allR] at hr'
      cases hR : right (qX es i) (qY es i) with
      | false => rw [hR] at hr'; exact .inl (by rw [hr']; rfl)
      | true =>
        rw [hR] at hr'
        refine .inr ⟨([.l f es, .i (i + 1)], []), by rw [W_id (by omega) (by omega)]; rfl, by simp [pF]; omega, by simp only [mF]; omega, ?_⟩
        rw [hr']
        simp only [fF]
        rw [show ((es.length : Int) - (i + 1)).toNat = n by omega]
        cases allR es (i + 1) n <;> rfl
    · rw [decide_eq_false hi]
      rw [show ((es.length : Int) - i).toNat = 0 by omega] at hr'
      exact .inl (by rw [hr']; rfl)
  · cases hp
noncomputable def E33a : EnvK := E32.addW 120 2 [0, 3] [] shF pF fF
theorem ok33a : EnvOK Try.prog E33a.env :=
  ok32.addW (n := 60) Try.func120 (show Try.f120.body = some (bod Try.f120) by kernel_rfl) (show (loops (bod Try.f120)).filter (fun b => rid b == 2) = [lpb Try.f120 2] by kernel_rfl) [0, 3] [0, 2] [] shF mF sF
theorem qFine (f : Bool) (es : List PV) : runP Try.prog E33a 60 120 [.lst f 23 es] =
  bif decide (0 ≤ (0 : Int)) && decide ((0 : Int) ≤ (es.length : Int)) && big es then bif allR es 0 ((es.length : Int) - 0).toNat then some (bv true) else some (bv false) else none := by kernel_rfl
def fin (es : List PV) : Bool := allR es 0 es.length
def cFine : List PV → Option (DT PV) | [.lst _ 23 es] => some (.br (big es) (.leaf (bv (fin es))) .no) | _ => none
theorem qFine' (f : Bool) (es : List PV) (h : big es = true) : runP Try.prog E33a 60 120 [.lst f 23 es] = some (bv (fin es)) := by
  rw [qFine, h]
  rw [show ((es.length : Int) - 0).toNat = es.length by omega]
  unfold fin
  simp only [Int.natCast_nonneg, decide_true, Bool.and_true, Int.le_refl, cond_true]
  cases allR es 0 es.length <;> rfl
theorem eFine : Enters Try.prog 120 := (runP_sound ok33a (qFine' true [] rfl)).1
theorem oFine (args : List PV) (d : DT PV) (r : PV) (h : cFine args = some d) (hr : d.run = some r) : PCall Try.prog 120 args r := by
  unfold cFine at h; split at h
  · rename_i f es; cases h; obtain ⟨h1, rfl⟩ := run_br hr; exact (runP_sound ok33a (qFine' f es h1)).2
  · cases h
/-- Closed. -/
def cls (es : List PV) : Bool := decide ((es.length : Int) ≥ 4) && ((qX es 0 == qX es ((es.length : Int) - 1)) && ((qY es 0 == qY es ((es.length : Int) - 1)) && true))
def clsT (es : List PV) (c : Bool) : Option PV := bif c then bif inr es 0 then bif inr es (W ((es.length : Int) - 1)) then some (bv ((qX es 0 == qX es (W ((es.length : Int) - 1))) && ((qY es 0 == qY es (W ((es.length : Int) - 1))) && true))) else none else none else some (bv false)
theorem qRCls (f : Bool) (es : List PV) : runP Try.prog E32 60 144 [.lst f 23 es] = clsT es (decide ((es.length : Int) ≥ 4)) := by kernel_rfl
theorem qCls (f : Bool) (es : List PV) : runP Try.prog E32 60 115 [.lst f 23 es] = clsT es (decide ((es.length : Int) > 3)) := by kernel_rfl
theorem clsT_eq (es : List PV) (h : big es = true) : clsT es (decide ((es.length : Int) ≥ 4)) = some (bv (cls es)) := by
  simp only [decide_eq_true_eq] at h
  unfold clsT cls
  by_cases h4 : (es.length : Int) ≥ 4
  · rw [decide_eq_true h4, inr_of (by omega) (by omega), W_id (by omega) (by omega), inr_of (by omega) (by omega)]; rfl
  · rw [decide_eq_false h4]; rfl
def cCls : List PV → Option (DT PV) | [.lst _ 23 es] => some (.br (big es) (.leaf (bv (cls es))) .no) | _ => none
theorem eRCls : Enters Try.prog 144 := (runP_sound ok32 ((qRCls true []).trans (clsT_eq [] rfl))).1
theorem oRCls (args : List PV) (d : DT PV) (r : PV) (h : cCls args = some d) (hr : d.run = some r) : PCall Try.prog 144 args r := by
  unfold cCls at h; split at h
  · rename_i f es; cases h; obtain ⟨h1, rfl⟩ := run_br hr; exact (runP_sound ok32 ((qRCls f es).trans (clsT_eq es h1))).2
  · cases h
theorem qCls' (f : Bool) (es : List PV) (h : big es = true) : runP Try.prog E32 60 115 [.lst f 23 es] = some (bv (cls es)) := by
  rw [qCls, show decide ((es.length : Int) > 3) = decide ((es.length : Int) ≥ 4) by rw [decide_eq_decide]; omega]; exact clsT_eq es h
theorem eCls : Enters Try.prog 115 := (runP_sound ok32 (qCls' true [] rfl)).1
theorem oCls (args : List PV) (d : DT PV) (r : PV) (h : cCls args = some d) (hr : d.run = some r) : PCall Try.prog 115 args r := by
  unfold cCls at h; split at h
  · rename_i f es; cases h; obtain ⟨h1, rfl⟩ := run_br hr; exact (runP_sound ok32 (qCls' f es h1)).2
  · cases h
noncomputable def E33b : EnvK := ((E32.addF 120 cFine).addF 144 cCls).addF 115 cCls
theorem ok33b : EnvOK Try.prog E33b.env := ((ok32.addF eFine oFine).addF eRCls oRCls).addF eCls oCls
end Go.Hg
