/- Strings (gazette): names and classes: the scans of bytes. -/
import Derived.Test.YtadcoepikgjgmaaHsB
namespace Go.Hs
open Go.Hx Go.Proofs
/-- The byte at a place: of a list, of a string. -/
def eB (es : List PV) (i : Int) : Int := ((es.getD i.toNat .any).cellAt 0).getI
def sB (s : ByteArray) (i : Int) : Int := ((s.data.getD i.toNat 0).toNat : Int)
def inr (es : List PV) (i : Int) : Bool := decide (0 ≤ i) && decide (i < (es.length : Int))
def inS (s : ByteArray) (i : Int) : Bool := decide (0 ≤ i) && decide (i < (s.size : Int))
theorem inr_of {es : List PV} {i : Int} (h1 : 0 ≤ i) (h2 : i < (es.length : Int)) : inr es i = true := by unfold inr; simp; omega
theorem inS_of {s : ByteArray} {i : Int} (h1 : 0 ≤ i) (h2 : i < (s.size : Int)) : inS s i = true := by unfold inS; simp; omega
abbrev big (es : List PV) : Bool := decide (es.length ≤ 1000000)
abbrev bigS (s : ByteArray) : Bool := decide (s.size ≤ 1000000)
def fr (es : List PV) (n : Nat) (k : List PV → Option PV) : Option PV := bif es.length == n then k ((es.drop 0).take n) else none
theorem fr_eq {es : List PV} {n : Nat} (h : es.length = n) (k : List PV → Option PV) : fr es n k = k es := by
  unfold fr; rw [h, List.drop_zero, ← h, List.take_length]; simp
theorem bytesL_len (s : ByteArray) : (bytesL s).length = s.size := by simp only [bytesL, List.length_map, Array.length_toList]; rfl
theorem bytesL_at (s : ByteArray) (i : Int) (h1 : 0 ≤ i) (h2 : i < (s.size : Int)) : eB (bytesL s) i = sB s i := by
  have hs : i.toNat < s.data.toList.length := by rw [Array.length_toList]; have : s.size = s.data.size := rfl; omega
  unfold eB sB bytesL
  rw [List.getD_eq_getElem?_getD, List.getElem?_map, List.getElem?_eq_getElem hs]
  show (s.data.toList[i.toNat].toNat : Int) = _
  rw [Array.getD_eq_getD_getElem?, ← Array.getElem?_toList, List.getElem?_eq_getElem hs]; rfl
def p1 (c : Int) : Bool := decide (c < 32) || decide (c > 126) || (c == 34)
def p2 (c : Int) : Bool := decide (c < 97) || decide (c > 122)
/-- Is there a byte from i on? The first one. -/
def anyG (p : Int → Bool) (g : Int → Int) (i : Int) : Nat → Bool
  | 0 => false
  | n + 1 => p (g i) || anyG p g (i + 1) n
def idxG (p : Int → Bool) (g : Int → Int) (i : Int) : Nat → Int
  | 0 => -1
  | n + 1 => bif p (g i) then i else idxG p g (i + 1) n
theorem idxG_any (p : Int → Bool) (g : Int → Int) : ∀ (n : Nat) (i : Int), 0 ≤ i → anyG p g i n = true → 0 ≤ idxG p g i n
  | 0, _, _, h => by cases h
  | n + 1, i, h0, h => by
    simp only [anyG] at h
    simp only [idxG]
    cases hp : p (g i) with
    | true => exact h0
    | false => rw [hp, Bool.false_or] at h; exact idxG_any p g n (i + 1) (by omega) h
theorem anyG_congr {p : Int → Bool} {g h : Int → Int} : ∀ {n : Nat} {i : Int}, (∀ j : Nat, j < n → g (i + j) = h (i + j)) → anyG p g i n = anyG p h i n
  | 0, _, _ => rfl
  | n + 1, i, hh => by
    simp only [anyG]
    have h0 := hh 0 (by omega)
    rw [show i + ((0 : Nat) : Int) = i by omega] at h0
    have ih := anyG_congr (p := p) (g := g) (h := h) (n := n) (i := i + 1) fun j hj => by
      have := hh (j + 1) (by omega)
      rwa [show i + ((j + 1 : Nat) : Int) = i + 1 + (j : Int) by omega] at this
    rw [h0, ih]
theorem any_bytes (p : Int → Bool) (s : ByteArray) : anyG p (eB (bytesL s)) 0 s.size = anyG p (sB s) 0 s.size :=
  anyG_congr fun j hj => bytesL_at s (0 + j) (by omega) (by omega)
/-! The closures. -/
theorem qP1 (c : Int) : runP Try.prog E2 20 27 [cv c] = bif decide (c < 32) then some (bv true) else bif decide (c > 126) then some (bv true) else some (bv (c == 34)) := by kernel_rfl
theorem qP2 (c : Int) : runP Try.prog E2 20 28 [cv c] = bif decide (c < 97) then some (bv true) else some (bv (decide (c > 122))) := by kernel_rfl
def cP1 : List PV → Option PV | [.val (.int .u8 c)] => some (bv (p1 c)) | _ => none
def cP2 : List PV → Option PV | [.val (.int .u8 c)] => some (bv (p2 c)) | _ => none
theorem oP1 (args : List PV) (r : PV) (h : cP1 args = some r) : Enters Try.prog 27 ∧ PCall Try.prog 27 args r := by
  unfold cP1 at h; split at h
  · rename_i c; cases h; exact runP_sound ok2 (n := 20) (by rw [qP1]; unfold p1; cases decide (c < 32) <;> cases decide (c > 126) <;> rfl)
  · cases h
theorem oP2 (args : List PV) (r : PV) (h : cP2 args = some r) : Enters Try.prog 28 ∧ PCall Try.prog 28 args r := by
  unfold cP2 at h; split at h
  · rename_i c; cases h; exact runP_sound ok2 (n := 20) (by rw [qP2]; unfold p2; cases decide (c < 97) <;> rfl)
  · cases h
noncomputable def E3 : EnvK := (E2.addO 27 cP1).addO 28 cP2
theorem ok3 : EnvOK Try.prog E3.env := (ok2.addO oP1).addO oP2
/-! The loop of IndexFunc, for each of the closures. -/
def shI (k : FuncId) : S1 := ⟨19, [(0, .lst 5), (1, .fn k [] []), (7, I64), (8, I64)], []⟩
abbrev xI0 : PX × List PV × List Row := (.exit 0, tm 19 [], [])
abbrev xI1 (i : Int) : PX × List PV × List Row := (.ret, tm 19 [(4, iv i)], [])
theorem qI1 (f : Bool) (es : List PV) (l i : Int) : runB Try.prog E3 60 48 (lpb Try.f48 2) [0, 1, 7, 8] [4] ((shI 27).put ([.l f es, .i l, .i i], [])).1 ((shI 27).put ([.l f es, .i l, .i i], [])).2 =
  bif decide (i < l) then bif inr es i then bif p1 (eB es i) then some (xI1 i) else some (.normal, (shI 27).put ([.l f es, .i l, .i (W (i + 1))], [])) else none else some xI0 := by kernel_rfl
def pI : LS → Bool
  | ([.l _ es, .i l, .i i], []) => decide (0 ≤ i) && decide (i ≤ l) && decide (l = (es.length : Int)) && big es
  | _ => false
def fI (p : Int → Bool) : LS → DT (PX × List PV × List Row)
  | ([.l _ es, .i l, .i i], []) => .br (anyG p (eB es) i (l - i).toNat) (.leaf (xI1 (idxG p (eB es) i (l - i).toNat))) (.leaf xI0)
  | _ => .no
def mI : LS → Nat
  | ([.l _ _, .i l, .i i], []) => (l - i).toNat
  | _ => 0
theorem run_br2 {α : Type} {b : Bool} {a c r : α} (h : (DT.br b (.leaf a) (.leaf c)).run = some r) : r = bif b then a else c := by
  cases b <;> exact (Option.some.inj h).symm
theorem run_br1 {α : Type} {b : Bool} {a r : α} (h : (DT.br b (.leaf a) .no).run = some r) : b = true ∧ r = a := by
  cases b
  · cases h
  · exact ⟨rfl, (Option.some.inj h).symm⟩
theorem stepI (p : Int → Bool) (B : Bool → List PV → Int → Int → Option (PX × List PV × List Row)) (N : Bool → List PV → Int → Int → PX × List PV × List Row)
    (hB : ∀ f es l i, B f es l i = bif decide (i < l) then bif inr es i then bif p (eB es i) then some (xI1 i) else some (N f es l (W (i + 1))) else none else some xI0)
    (f : Bool) (es : List PV) (l i : Int) (r : PX × List PV × List Row) (hp : pI ([.l f es, .i l, .i i], []) = true) (hr : (fI p ([.l f es, .i l, .i i], [])).run = some r) :
    r.1 ≠ .normal ∧ (B f es l i = some r ∨ (B f es l i = some (N f es l (i + 1)) ∧ pI ([.l f es, .i l, .i (i + 1)], []) = true ∧ mI ([.l f es, .i l, .i (i + 1)], []) < mI ([.l f es, .i l, .i i], []) ∧ (fI p ([.l f es, .i l, .i (i + 1)], [])).run = some r)) := by
  simp only [pI, Bool.and_eq_true, decide_eq_true_eq] at hp
  obtain ⟨⟨⟨h1, h2⟩, rfl⟩, h9⟩ := hp
  have hr' := run_br2 hr
  refine ⟨by rw [hr']; cases anyG p (eB es) i ((es.length : Int) - i).toNat <;> simp, ?_⟩
  rw [hB]
  by_cases hi : i < (es.length : Int)
  · rw [decide_eq_true hi, cond_true, inr_of h1 hi, cond_true, W_id (by omega) (by omega)]
    obtain ⟨m, hm⟩ : ∃ m, ((es.length : Int) - i).toNat = m + 1 := ⟨((es.length : Int) - i).toNat - 1, by omega⟩
    have hm2 : ((es.length : Int) - (i + 1)).toNat = m := by omega
    rw [hm] at hr'
    simp only [anyG, idxG] at hr'
    cases hR : p (eB es i) with
    | true => rw [hR] at hr'; exact .inl (by rw [hr']; rfl)
    | false =>
      rw [hR] at hr'
      refine .inr ⟨rfl, by simp [pI]; omega, by simp only [mI]; omega, ?_⟩
      rw [hr']
      simp only [fI, hm2, Bool.false_or, cond_false]
      cases anyG p (eB es) (i + 1) m <;> rfl
  · rw [decide_eq_false hi]
    rw [show ((es.length : Int) - i).toNat = 0 by omega] at hr'
    exact .inl (by rw [hr']; rfl)
theorem sI1 : ∀ s r, pI s = true → ((fI p1) s).run = some r → r.1 ≠ .normal ∧ (runB Try.prog E3 60 48 (lpb Try.f48 2) [0, 1, 7, 8] [4] ((shI 27).put s).1 ((shI 27).put s).2 = some r ∨
      ∃ s', runB Try.prog E3 60 48 (lpb Try.f48 2) [0, 1, 7, 8] [4] ((shI 27).put s).1 ((shI 27).put s).2 = some (.normal, (shI 27).put s') ∧ pI s' = true ∧ mI s' < mI s ∧ ((fI p1) s').run = some r) := by
  intro s r hp hr
  have hp0 := hp
  unfold pI at hp; split at hp
  · rename_i f es l i
    obtain ⟨h1, h2⟩ := stepI p1 (fun f es l i => runB Try.prog E3 60 48 (lpb Try.f48 2) [0, 1, 7, 8] [4] ((shI 27).put ([.l f es, .i l, .i i], [])).1 ((shI 27).put ([.l f es, .i l, .i i], [])).2) (fun f es l i => (.normal, (shI 27).put ([.l f es, .i l, .i i], []))) qI1 f es l i r hp0 hr
    refine ⟨h1, ?_⟩
    rcases h2 with h2 | ⟨h2, h3, h4, h5⟩
    · exact .inl h2
    · exact .inr ⟨_, h2, h3, h4, h5⟩
  · cases hp
noncomputable def E4 : EnvK := E3.addW 48 2 [0, 1, 7, 8] [] (shI 27) pI (fI p1)
theorem ok4 : EnvOK Try.prog E4.env :=
  ok3.addW (n := 60) Try.func48 (show Try.f48.body = some (bod Try.f48) by kernel_rfl) (show (loops (bod Try.f48)).filter (fun b => rid b == 2) = [lpb Try.f48 2] by kernel_rfl) [0, 1, 7, 8] [4] [] (shI 27) mI sI1
theorem qI2 (f : Bool) (es : List PV) (l i : Int) : runB Try.prog E4 60 48 (lpb Try.f48 2) [0, 1, 7, 8] [4] ((shI 28).put ([.l f es, .i l, .i i], [])).1 ((shI 28).put ([.l f es, .i l, .i i], [])).2 =
  bif decide (i < l) then bif inr es i then bif p2 (eB es i) then some (xI1 i) else some (.normal, (shI 28).put ([.l f es, .i l, .i (W (i + 1))], [])) else none else some xI0 := by kernel_rfl
theorem sI2 : ∀ s r, pI s = true → ((fI p2) s).run = some r → r.1 ≠ .normal ∧ (runB Try.prog E4 60 48 (lpb Try.f48 2) [0, 1, 7, 8] [4] ((shI 28).put s).1 ((shI 28).put s).2 = some r ∨
      ∃ s', runB Try.prog E4 60 48 (lpb Try.f48 2) [0, 1, 7, 8] [4] ((shI 28).put s).1 ((shI 28).put s).2 = some (.normal, (shI 28).put s') ∧ pI s' = true ∧ mI s' < mI s ∧ ((fI p2) s').run = some r) := by
  intro s r hp hr
  have hp0 := hp
  unfold pI at hp; split at hp
  · rename_i f es l i
    obtain ⟨h1, h2⟩ := stepI p2 (fun f es l i => runB Try.prog E4 60 48 (lpb Try.f48 2) [0, 1, 7, 8] [4] ((shI 28).put ([.l f es, .i l, .i i], [])).1 ((shI 28).put ([.l f es, .i l, .i i], [])).2) (fun f es l i => (.normal, (shI 28).put ([.l f es, .i l, .i i], []))) qI2 f es l i r hp0 hr
    refine ⟨h1, ?_⟩
    rcases h2 with h2 | ⟨h2, h3, h4, h5⟩
    · exact .inl h2
    · exact .inr ⟨_, h2, h3, h4, h5⟩
  · cases hp
noncomputable def E5 : EnvK := E4.addW 48 2 [0, 1, 7, 8] [] (shI 28) pI (fI p2)
theorem ok5 : EnvOK Try.prog E5.env :=
  ok4.addW (n := 60) Try.func48 (show Try.f48.body = some (bod Try.f48) by kernel_rfl) (show (loops (bod Try.f48)).filter (fun b => rid b == 2) = [lpb Try.f48 2] by kernel_rfl) [0, 1, 7, 8] [4] [] (shI 28) mI sI2
end Go.Hs
