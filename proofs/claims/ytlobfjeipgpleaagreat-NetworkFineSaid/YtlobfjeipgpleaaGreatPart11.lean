/- Network: the reference's Check as a contract. -/
import Derived.Test.YtlobfjeipgpleaaGreatPart9
import Derived.Test.YtlobfjeipgpleaaGreatPart10
import Derived.Test.YtlobfjeipgpleaaGreatPart5
namespace Go.Hn
open Go.Hx Go.Hg Go.Proofs
noncomputable def X0 : EnvK := E73
theorem okX0 : EnvOK Tryz.prog X0.env := ok73
abbrev wayX : Hx.X1 := .agg [I64, .lst 37, I64, .str, .str, .bool, I64, I64]
/-- The way of the round, in a row of its own. -/
abbrev wr (f : Bool) (e : PV) : Row := r1 44 8 (.agg [iv (wI e), .lst f 37 (wL e), iv (wLv e), .val (.string ((e.cellAt 3).getS)), .val (.string ((e.cellAt 4).getS)), bv ((e.cellAt 5).getB), iv ((e.cellAt 6).getI), iv ((e.cellAt 7).getI)])
/-! Has one before it the same number? -/
def shA1 : Hx.S1 := ⟨84, [(0, .lst 44), (3, I64), (4, .ptr 0 1 0 0), (5, I64)], [.onef 44 8 wayX]⟩
abbrev lA1 (f : Bool) (ws : List PV) (i k : Int) (id : Int) (g : Bool) (M : List PV) (lv : Int) (c n : ByteArray) (s : Bool) (wt ds : Int) : LS := ([.l f ws, .i i, .i k], [.i id, .l g M, .i lv, .s c, .s n, .b s, .i wt, .i ds])
noncomputable abbrev hA1 (id : Int) (g : Bool) (M : List PV) (lv : Int) (c n : ByteArray) (s : Bool) (wt ds : Int) : List Row := (shA1.put (lA1 true [] 0 0 id g M lv c n s wt ds)).2
theorem qA1 (f : Bool) (ws : List PV) (i k : Int) (id : Int) (g : Bool) (M : List PV) (lv : Int) (c n : ByteArray) (s : Bool) (wt ds : Int) :
  runB Tryz.prog X0 60 14 (lpb Tryz.f14 10) [0, 3, 4, 5] [0, 2, 3, 4] (shA1.put (lA1 f ws i k id g M lv c n s wt ds)).1 (shA1.put (lA1 f ws i k id g M lv c n s wt ds)).2 =
  bif decide (k < i) then bif inr ws k then bif wN ws k == id then some (.ret, tm 84 [(0, .lst f 44 ws), (2, iv 6), (3, iv i), (4, .ptr 0 1 0 0)], hA1 id g M lv c n s wt ds)
    else some (.normal, shA1.put (lA1 f ws i (W (k + 1)) id g M lv c n s wt ds)) else none
  else some (.exit 2, tm 84 [(0, .lst f 44 ws), (3, iv i), (4, .ptr 0 1 0 0)], hA1 id g M lv c n s wt ds) := by kernel_rfl
def anyI (ws : List PV) (id : Int) : Int → Nat → Bool
  | _, 0 => false
  | k, n + 1 => (wN ws k == id) || anyI ws id (k + 1) n
def pA1 : LS → Bool
  | ([.l _ ws, .i i, .i k], [.i _, .l _ _, .i _, .s _, .s _, .b _, .i _, .i _]) => decide (0 ≤ k) && decide (i < (ws.length : Int)) && bigL ws
  | _ => false
noncomputable def fA1 : LS → DT (PX × List PV × List Row)
  | ([.l f ws, .i i, .i k], [.i id, .l g M, .i lv, .s c, .s n, .b s, .i wt, .i ds]) =>
    .br (anyI ws id k (i - k).toNat) (.leaf (.ret, tm 84 [(0, .lst f 44 ws), (2, iv 6), (3, iv i), (4, .ptr 0 1 0 0)], hA1 id g M lv c n s wt ds)) (.leaf (.exit 2, tm 84 [(0, .lst f 44 ws), (3, iv i), (4, .ptr 0 1 0 0)], hA1 id g M lv c n s wt ds))
  | _ => .no
def mA1 : LS → Nat
  | ([.l _ _, .i i, .i k], [.i _, .l _ _, .i _, .s _, .s _, .b _, .i _, .i _]) => (i - k).toNat
  | _ => 0
theorem sA1 : ∀ s r, pA1 s = true → (fA1 s).run = some r → r.1 ≠ .normal ∧ (runB Tryz.prog X0 60 14 (lpb Tryz.f14 10) [0, 3, 4, 5] [0, 2, 3, 4] (shA1.put s).1 (shA1.put s).2 = some r ∨
      ∃ s', runB Tryz.prog X0 60 14 (lpb Tryz.f14 10) [0, 3, 4, 5] [0, 2, 3, 4] (shA1.put s).1 (shA1.put s).2 = some (.normal, shA1.put s') ∧ pA1 s' = true ∧ mA1 s' < mA1 s ∧ (fA1 s').run = some r) := by
  intro t r hp hr
  unfold pA1 at hp; split at hp
  · rename_i f ws i k id g M lv c n s wt ds
    simp only [Bool.and_eq_true, decide_eq_true_eq] at hp
    obtain ⟨⟨h1, h2⟩, h3⟩ := hp
    have hr' := run_br2 hr
    refine ⟨by rw [hr']; cases anyI ws id k (i - k).toNat <;> simp, ?_⟩
    rw [show shA1.put ([.l f ws, .i i, .i k], [.i id, .l g M, .i lv, .s c, .s n, .b s, .i wt, .i ds]) = shA1.put (lA1 f ws i k id g M lv c n s wt ds) from rfl, qA1]
    by_cases hk : k < i
    · rw [decide_eq_true hk, cond_true, inr_of h1 (by omega), cond_true, W_id (n := k + 1) (by omega) (by omega)]
      obtain ⟨m, hm⟩ : ∃ m, (i - k).toNat = m + 1 := ⟨(i - k).toNat - 1, by omega⟩
      have hm2 : (i - (k + 1)).toNat = m := by omega
      rw [hm] at hr'
      simp only [anyI] at hr'
      cases he : wN ws k == id with
      | true => rw [he] at hr'; exact .inl (by rw [hr']; rfl)
      | false =>
        rw [he] at hr'
        refine .inr ⟨lA1 f ws i (k + 1) id g M lv c n s wt ds, rfl, by simp only [pA1, Bool.and_eq_true, decide_eq_true_eq]; exact ⟨⟨by omega, h2⟩, h3⟩, by simp only [mA1]; omega, ?_⟩
        rw [hr']
        simp only [fA1, hm2, Bool.false_or]
        cases anyI ws id (k + 1) m <;> rfl
    · rw [decide_eq_false hk]
      rw [show (i - k).toNat = 0 by omega] at hr'
      exact .inl (by rw [hr']; rfl)
  · cases hp
noncomputable def X1 : EnvK := X0.addW 14 10 [0, 3, 4, 5] [] shA1 pA1 fA1
theorem okX1 : EnvOK Tryz.prog X1.env :=
  okX0.addW (n := 60) Tryz.func14 (show Tryz.f14.body = some (bod Tryz.f14) by kernel_rfl) (show (loops (bod Tryz.f14)).filter (fun b => rid b == 10) = [lpb Tryz.f14 10] by kernel_rfl) [0, 3, 4, 5] [0, 2, 3, 4] [] shA1 mA1 sA1
/-! Does one before it on its level cross it? -/
def shA2 : Hx.S1 := ⟨84, [(0, .lst 44), (3, I64), (4, .ptr 0 1 0 0), (7, I64)], [.onef 44 8 wayX]⟩
theorem qA2 (f : Bool) (ws : List PV) (i k : Int) (id : Int) (g : Bool) (M : List PV) (lv : Int) (c n : ByteArray) (s : Bool) (wt ds : Int) :
  runB Tryz.prog X1 60 14 (lpb Tryz.f14 20) [0, 3, 4, 7] [0, 2, 3, 4] (shA2.put (lA1 f ws i k id g M lv c n s wt ds)).1 (shA2.put (lA1 f ws i k id g M lv c n s wt ds)).2 =
  bif decide (k < i) then bif inr ws k then bif wLv (ws.getD k.toNat .any) == lv then bif inr ws k then bif big (wL (ws.getD k.toNat .any)) && big M then bif crx (wL (ws.getD k.toNat .any)) M then
      some (.ret, tm 84 [(0, .lst f 44 ws), (2, iv 16), (3, iv i), (4, .ptr 0 1 0 0)], hA1 id g M lv c n s wt ds)
    else some (.normal, shA2.put (lA1 f ws i (W (k + 1)) id g M lv c n s wt ds)) else none else none
    else some (.normal, shA2.put (lA1 f ws i (W (k + 1)) id g M lv c n s wt ds)) else none
  else some (.exit 4, tm 84 [(0, .lst f 44 ws), (3, iv i), (4, .ptr 0 1 0 0)], hA1 id g M lv c n s wt ds) := by kernel_rfl
def anyC (ws : List PV) (lv : Int) (M : List PV) : Int → Nat → Bool
  | _, 0 => false
  | k, n + 1 => ((wLv (ws.getD k.toNat .any) == lv) && crx (wL (ws.getD k.toNat .any)) M) || anyC ws lv M (k + 1) n
def pA2 : LS → Bool
  | ([.l _ ws, .i i, .i k], [.i _, .l _ M, .i _, .s _, .s _, .b _, .i _, .i _]) => decide (0 ≤ k) && decide (i < (ws.length : Int)) && okB ws && big M
  | _ => false
noncomputable def fA2 : LS → DT (PX × List PV × List Row)
  | ([.l f ws, .i i, .i k], [.i id, .l g M, .i lv, .s c, .s n, .b s, .i wt, .i ds]) =>
    .br (anyC ws lv M k (i - k).toNat) (.leaf (.ret, tm 84 [(0, .lst f 44 ws), (2, iv 16), (3, iv i), (4, .ptr 0 1 0 0)], hA1 id g M lv c n s wt ds)) (.leaf (.exit 4, tm 84 [(0, .lst f 44 ws), (3, iv i), (4, .ptr 0 1 0 0)], hA1 id g M lv c n s wt ds))
  | _ => .no
theorem sA2 : ∀ s r, pA2 s = true → (fA2 s).run = some r → r.1 ≠ .normal ∧ (runB Tryz.prog X1 60 14 (lpb Tryz.f14 20) [0, 3, 4, 7] [0, 2, 3, 4] (shA2.put s).1 (shA2.put s).2 = some r ∨
      ∃ s', runB Tryz.prog X1 60 14 (lpb Tryz.f14 20) [0, 3, 4, 7] [0, 2, 3, 4] (shA2.put s).1 (shA2.put s).2 = some (.normal, shA2.put s') ∧ pA2 s' = true ∧ mA1 s' < mA1 s ∧ (fA2 s').run = some r) := by
  intro t r hp hr
  unfold pA2 at hp; split at hp
  · rename_i f ws i k id g M lv c n s wt ds
    simp only [Bool.and_eq_true, decide_eq_true_eq] at hp
    obtain ⟨⟨⟨h1, h2⟩, h3⟩, h4⟩ := hp
    have hr' := run_br2 hr
    have hb := okB_len h3
    refine ⟨by rw [hr']; cases anyC ws lv M k (i - k).toNat <;> simp, ?_⟩
    rw [show shA2.put ([.l f ws, .i i, .i k], [.i id, .l g M, .i lv, .s c, .s n, .b s, .i wt, .i ds]) = shA2.put (lA1 f ws i k id g M lv c n s wt ds) from rfl, qA2]
    by_cases hk : k < i
    · have hbg : (big (wL (ws.getD k.toNat .any)) && big M) = true := by
        have := okB_at h3 h1 (show k < (ws.length : Int) by omega)
        simp only [decide_eq_true_eq] at this
        rw [Bool.and_eq_true]; exact ⟨by simpa using this, by simpa using h4⟩
      rw [decide_eq_true hk, cond_true, inr_of h1 (by omega), hbg, W_id (n := k + 1) (by omega) (by omega)]
      obtain ⟨m, hm⟩ : ∃ m, (i - k).toNat = m + 1 := ⟨(i - k).toNat - 1, by omega⟩
      have hm2 : (i - (k + 1)).toNat = m := by omega
      rw [hm] at hr'
      simp only [anyC] at hr'
      have go : ((wLv (ws.getD k.toNat .any) == lv) && crx (wL (ws.getD k.toNat .any)) M) = false → r = bif anyC ws lv M (k + 1) m then (.ret, tm 84 [(0, .lst f 44 ws), (2, iv 16), (3, iv i), (4, .ptr 0 1 0 0)], hA1 id g M lv c n s wt ds) else (.exit 4, tm 84 [(0, .lst f 44 ws), (3, iv i), (4, .ptr 0 1 0 0)], hA1 id g M lv c n s wt ds) := fun h => by
        rw [h, Bool.false_or] at hr'; exact hr'
      have nxt : r = (bif anyC ws lv M (k + 1) m then (.ret, tm 84 [(0, .lst f 44 ws), (2, iv 16), (3, iv i), (4, .ptr 0 1 0 0)], hA1 id g M lv c n s wt ds) else (.exit 4, tm 84 [(0, .lst f 44 ws), (3, iv i), (4, .ptr 0 1 0 0)], hA1 id g M lv c n s wt ds)) →
          pA2 (lA1 f ws i (k + 1) id g M lv c n s wt ds) = true ∧ mA1 (lA1 f ws i (k + 1) id g M lv c n s wt ds) < mA1 (lA1 f ws i k id g M lv c n s wt ds) ∧ (fA2 (lA1 f ws i (k + 1) id g M lv c n s wt ds)).run = some r := fun h => by
        refine ⟨by simp only [pA2, Bool.and_eq_true, decide_eq_true_eq]; exact ⟨⟨⟨by omega, h2⟩, h3⟩, h4⟩, by simp only [mA1]; omega, ?_⟩
        rw [h]
        simp only [fA2, hm2]
        cases anyC ws lv M (k + 1) m <;> rfl
      cases he : wLv (ws.getD k.toNat .any) == lv with
      | false => exact .inr ⟨lA1 f ws i (k + 1) id g M lv c n s wt ds, rfl, nxt (go (by rw [he]; rfl))⟩
      | true =>
        cases hx : crx (wL (ws.getD k.toNat .any)) M with
        | false => exact .inr ⟨lA1 f ws i (k + 1) id g M lv c n s wt ds, rfl, nxt (go (by rw [he, hx]; rfl))⟩
        | true => rw [he, hx] at hr'; exact .inl (by rw [hr']; rfl)
    · rw [decide_eq_false hk]
      rw [show (i - k).toNat = 0 by omega] at hr'
      exact .inl (by rw [hr']; rfl)
  · cases hp
noncomputable def X2 : EnvK := X1.addW 14 20 [0, 3, 4, 7] [] shA2 pA2 fA2
theorem okX2 : EnvOK Tryz.prog X2.env :=
  okX1.addW (n := 60) Tryz.func14 (show Tryz.f14.body = some (bod Tryz.f14) by kernel_rfl) (show (loops (bod Tryz.f14)).filter (fun b => rid b == 20) = [lpb Tryz.f14 20] by kernel_rfl) [0, 3, 4, 7] [0, 2, 3, 4] [] shA2 mA1 sA2
end Go.Hn
/- Network: the reference's Check: what it comes to. -/
namespace Go.Hn
open Go.Hx Go.Hg Go.Proofs
def shA3 : Hx.S1 := ⟨84, [(0, .lst 44), (3, I64)], []⟩
abbrev lA3 (f : Bool) (ws : List PV) (i : Int) : LS := ([.l f ws, .i i], [])
def rt84 (c : Int) : Option (PX × List PV × List Row) := some (.ret, tm 84 [(2, iv c)], [])
abbrev wWt (e : PV) : Int := (e.cellAt 6).getI
/-- The state of the inner loops for a way. -/
abbrev lA0 (f : Bool) (ws : List PV) (i : Int) (e : PV) : LS := lA1 f ws i 0 (wI e) false (wL e) (wLv e) ((e.cellAt 3).getS) ((e.cellAt 4).getS) ((e.cellAt 5).getB) (wWt e) ((e.cellAt 7).getI)
theorem qA3 (f : Bool) (ws : List PV) (i : Int) : runB Tryz.prog X2 60 14 (lpb Tryz.f14 4) [0, 3] [2] (shA3.put (lA3 f ws i)).1 (shA3.put (lA3 f ws i)).2 =
  bif decide (i < (ws.length : Int)) then bif inr ws i then bif decide (wN ws i < 1) then rt84 1 else
    bif pA1 (lA0 f ws i (ws.getD i.toNat .any)) then bif anyI ws (wN ws i) 0 (i - 0).toNat then rt84 6 else
    bif chk (wL (ws.getD i.toNat .any)) != 0 then rt84 (chk (wL (ws.getD i.toNat .any))) else
    bif decide (wLv (ws.getD i.toNat .any) < -2) then rt84 3 else bif decide (wLv (ws.getD i.toNat .any) > 2) then rt84 3 else bif decide (wWt (ws.getD i.toNat .any) < 1) then rt84 3 else bif decide (wWt (ws.getD i.toNat .any) > 255) then rt84 3 else
    bif pA2 (lA0 f ws i (ws.getD i.toNat .any)) then bif anyC ws (wLv (ws.getD i.toNat .any)) (wL (ws.getD i.toNat .any)) 0 (i - 0).toNat then rt84 16 else some (.normal, shA3.put (lA3 f ws (W (i + 1)))) else none else none else none
  else some (.exit 0, tm 84 [], []) := by kernel_rfl
/-- Its level or its weight is wrong. -/
def rngB (e : PV) : Bool := decide (wLv e < -2) || (decide (wLv e > 2) || (decide (wWt e < 1) || decide (wWt e > 255)))
/-- What is wrong with a way, with those before it. -/
def errW (ws : List PV) (i : Int) : Int :=
  bif decide (wN ws i < 1) then 1 else bif anyI ws (wN ws i) 0 i.toNat then 6 else bif chk (wL (ws.getD i.toNat .any)) != 0 then chk (wL (ws.getD i.toNat .any)) else bif rngB (ws.getD i.toNat .any) then 3 else
  bif anyC ws (wLv (ws.getD i.toNat .any)) (wL (ws.getD i.toNat .any)) 0 i.toNat then 16 else 0
def errF (ws : List PV) : Int → Nat → Int
  | _, 0 => 0
  | i, n + 1 => bif errW ws i != 0 then errW ws i else errF ws (i + 1) n
def pA3 : LS → Bool
  | ([.l _ ws, .i i], []) => decide (0 ≤ i) && okB ws
  | _ => false
def fA3 : LS → DT (PX × List PV × List Row)
  | ([.l _ ws, .i i], []) => .br (errF ws i ((ws.length : Int) - i).toNat == 0) (.leaf (.exit 0, tm 84 [], [])) (.leaf (.ret, tm 84 [(2, iv (errF ws i ((ws.length : Int) - i).toNat))], []))
  | _ => .no
def mA3 : LS → Nat
  | ([.l _ ws, .i i], []) => ((ws.length : Int) - i).toNat
  | _ => 0
theorem rnd3 {ws : List PV} (f : Bool) {i : Int} (h1 : 0 ≤ i) (hi : i < (ws.length : Int)) (h7 : okB ws = true) {α : Type} (rt : Int → α) (nx : α) (e : PV) (he : e = ws.getD i.toNat .any) :
  (bif decide (wI e < 1) then rt 1 else
    bif pA1 (lA0 f ws i e) then bif anyI ws (wI e) 0 (i - 0).toNat then rt 6 else
    bif chk (wL e) != 0 then rt (chk (wL e)) else
    bif decide (wLv e < -2) then rt 3 else bif decide (wLv e > 2) then rt 3 else bif decide (wWt e < 1) then rt 3 else bif decide (wWt e > 255) then rt 3 else
    bif pA2 (lA0 f ws i e) then bif anyC ws (wLv e) (wL e) 0 (i - 0).toNat then rt 16 else nx else rt 77 else rt 77) = bif errW ws i != 0 then rt (errW ws i) else nx := by
  have hb := okB_len h7
  have hbg : big (wL e) = true := by
    have := okB_at h7 h1 hi
    rw [← he] at this
    exact this
  rw [show pA1 (lA0 f ws i e) = true by simp only [pA1, Bool.and_eq_true, decide_eq_true_eq]; exact ⟨⟨Int.le_refl _, hi⟩, by omega⟩,
    show pA2 (lA0 f ws i e) = true by simp only [pA2, Bool.and_eq_true, decide_eq_true_eq]; exact ⟨⟨⟨Int.le_refl _, hi⟩, h7⟩, by simpa using hbg⟩, show (i - 0).toNat = i.toNat by omega]
  unfold errW rngB wN
  rw [← he]
  cases decide (wI e < 1) <;> cases anyI ws (wI e) 0 i.toNat <;> cases hc : (chk (wL e) != 0) <;> cases decide (wLv e < -2) <;> cases decide (wLv e > 2) <;> cases decide (wWt e < 1) <;> cases decide (wWt e > 255) <;> cases anyC ws (wLv e) (wL e) 0 i.toNat <;> simp [hc]
theorem sA3 : ∀ s r, pA3 s = true → (fA3 s).run = some r → r.1 ≠ .normal ∧ (runB Tryz.prog X2 60 14 (lpb Tryz.f14 4) [0, 3] [2] (shA3.put s).1 (shA3.put s).2 = some r ∨
      ∃ s', runB Tryz.prog X2 60 14 (lpb Tryz.f14 4) [0, 3] [2] (shA3.put s).1 (shA3.put s).2 = some (.normal, shA3.put s') ∧ pA3 s' = true ∧ mA3 s' < mA3 s ∧ (fA3 s').run = some r) := by
  intro t r hp hr
  unfold pA3 at hp; split at hp
  · rename_i f ws i
    simp only [Bool.and_eq_true, decide_eq_true_eq] at hp
    obtain ⟨h1, h7⟩ := hp
    have hr' := run_br2 hr
    have hb := okB_len h7
    refine ⟨by rw [hr']; cases (errF ws i ((ws.length : Int) - i).toNat == 0) <;> simp, ?_⟩
    rw [show shA3.put ([.l f ws, .i i], []) = shA3.put (lA3 f ws i) from rfl, qA3]
    by_cases hi : i < (ws.length : Int)
    · rw [decide_eq_true hi, cond_true, inr_of h1 hi, cond_true, W_id (n := i + 1) (by omega) (by omega)]
      obtain ⟨m, hm⟩ : ∃ m, ((ws.length : Int) - i).toNat = m + 1 := ⟨((ws.length : Int) - i).toNat - 1, by omega⟩
      have hm2 : ((ws.length : Int) - (i + 1)).toNat = m := by omega
      rw [hm] at hr'
      simp only [errF] at hr'
      have key := rnd3 f h1 hi h7 rt84 (some (PX.normal, shA3.put (lA3 f ws (i + 1)))) (ws.getD i.toNat .any) rfl
      have hp1 : pA1 (lA0 f ws i (ws.getD i.toNat .any)) = true := by simp only [pA1, Bool.and_eq_true, decide_eq_true_eq]; exact ⟨⟨Int.le_refl _, hi⟩, by omega⟩
      have hp2 : pA2 (lA0 f ws i (ws.getD i.toNat .any)) = true := by
        simp only [pA2, Bool.and_eq_true, decide_eq_true_eq]
        have := okB_at h7 h1 hi
        exact ⟨⟨⟨Int.le_refl _, hi⟩, h7⟩, by simpa using this⟩
      rw [hp1, hp2] at key ⊢
      simp only [cond_true] at key ⊢
      unfold wN at *
      rw [key]
      cases hc : errW ws i != 0 with
      | true =>
        rw [hc] at hr'
        simp only [cond_true] at hr'
        rw [show (errW ws i == 0) = false by rw [bne] at hc; simpa using hc] at hr'
        exact .inl (by rw [hr']; rfl)
      | false =>
        rw [hc] at hr'
        refine .inr ⟨lA3 f ws (i + 1), rfl, by simp only [pA3, Bool.and_eq_true, decide_eq_true_eq]; exact ⟨by omega, h7⟩, by simp only [mA3]; omega, ?_⟩
        rw [hr']
        simp only [fA3, hm2, cond_false]
        cases (errF ws (i + 1) m == 0) <;> rfl
    · rw [decide_eq_false hi]
      rw [show ((ws.length : Int) - i).toNat = 0 by omega] at hr'
      exact .inl (by rw [hr']; rfl)
  · cases hp
noncomputable def X3 : EnvK := X2.addW 14 4 [0, 3] [] shA3 pA3 fA3
theorem okX3 : EnvOK Tryz.prog X3.env :=
  okX2.addW (n := 60) Tryz.func14 (show Tryz.f14.body = some (bod Tryz.f14) by kernel_rfl) (show (loops (bod Tryz.f14)).filter (fun b => rid b == 4) = [lpb Tryz.f14 4] by kernel_rfl) [0, 3] [2] [] shA3 mA3 sA3
/-- P8.1. -/
def chkF (ws : List PV) : Int := bif decide ((ws.length : Int) > 80) then 2 else errF ws 0 ws.length
theorem qRChk (f : Bool) (ws : List PV) : runP Tryz.prog X3 60 14 [.lst f 44 ws] =
  bif decide ((ws.length : Int) > 80) then some (iv 2) else bif pA3 (lA3 f ws 0) then bif errF ws 0 ((ws.length : Int) - 0).toNat == 0 then some (iv 0) else some (iv (errF ws 0 ((ws.length : Int) - 0).toNat)) else none := by kernel_rfl
theorem qRChk' (f : Bool) (ws : List PV) (h : okB ws = true) : runP Tryz.prog X3 60 14 [.lst f 44 ws] = some (iv (chkF ws)) := by
  rw [qRChk, show pA3 (lA3 f ws 0) = true by simp only [pA3, h]; rfl, show ((ws.length : Int) - 0).toNat = ws.length by omega]
  unfold chkF
  cases decide ((ws.length : Int) > 80)
  · simp only [cond_false, cond_true]
    cases hc : errF ws 0 ws.length == 0
    · rfl
    · rw [beq_iff_eq] at hc; rw [hc]; rfl
  · rfl
def cChW : List PV → Option (DT PV)
  | [.lst _ 44 ws] => some (.br (okB ws) (.leaf (iv (chkF ws))) .no)
  | _ => none
theorem eRChW : Hx.Enters Tryz.prog 14 := (runP_sound okX3 (n := 60) (qRChk' true [] rfl)).1
theorem oRChW (args : List PV) (d : DT PV) (r : PV) (h : cChW args = some d) (hr : d.run = some r) : PCall Tryz.prog 14 args r := by
  unfold cChW at h; split at h
  · cases h
    obtain ⟨h1, rfl⟩ := run_br hr
    exact (runP_sound okX3 (n := 60) (qRChk' _ _ h1)).2
  · cases h
end Go.Hn
/- Network: network.Check: it is what the reference's is. -/
namespace Go.Hn
open Go.Hx Go.Hg Go.Proofs
noncomputable abbrev hB1 (id : Int) (g : Bool) (M : List PV) (lv : Int) (c n : ByteArray) (s : Bool) (wt ds : Int) : List Row := hA1 id g M lv c n s wt ds
abbrev lB1 (f : Bool) (ws : List PV) (n k : Int) (id : Int) (g : Bool) (M : List PV) (lv : Int) (c m : ByteArray) (s : Bool) (wt ds : Int) : LS := ([.l f ws, .i n, .i k], [.i id, .l g M, .i lv, .s c, .s m, .b s, .i wt, .i ds])
def shB1 : Hx.S1 := ⟨19, [(0, .lst 44), (1, .fn 34 [] [.ptr 0 1 0 0]), (7, I64), (8, I64)], [.onef 44 8 wayX]⟩
def shB2 : Hx.S1 := ⟨19, [(0, .lst 44), (1, .fn 37 [] [.ptr 0 1 0 0]), (7, I64), (8, I64)], [.onef 44 8 wayX]⟩
theorem qB1 (f : Bool) (ws : List PV) (n k : Int) (id : Int) (g : Bool) (M : List PV) (lv : Int) (c m : ByteArray) (s : Bool) (wt ds : Int) :
  runB Tryz.prog X0 60 58 (lpb Tryz.f58 2) [0, 1, 7, 8] [4] (shB1.put (lB1 f ws n k id g M lv c m s wt ds)).1 (shB1.put (lB1 f ws n k id g M lv c m s wt ds)).2 =
  bif decide (k < n) then bif inr ws k then bif wN ws k == id then some (.ret, tm 19 [(4, iv k)], hB1 id g M lv c m s wt ds) else some (.normal, shB1.put (lB1 f ws n (W (k + 1)) id g M lv c m s wt ds)) else none
  else some (.exit 0, tm 19 [], hB1 id g M lv c m s wt ds) := by kernel_rfl
/-- The first that is such a one; -1 if none. -/
def fsI (q : Int → Bool) : Int → Nat → Int
  | _, 0 => -1
  | k, n + 1 => bif q k then k else fsI q (k + 1) n
def anQ (q : Int → Bool) : Int → Nat → Bool
  | _, 0 => false
  | k, n + 1 => q k || anQ q (k + 1) n
theorem fsI_ge {q : Int → Bool} : ∀ (n : Nat) (k : Int), 0 ≤ k → decide (fsI q k n ≥ 0) = anQ q k n
  | 0, _, _ => rfl
  | n + 1, k, h => by
    unfold fsI anQ
    cases q k with
    | true => simp only [cond_true, Bool.true_or]; exact decide_eq_true h
    | false => simp only [cond_false, Bool.false_or]; exact fsI_ge n (k + 1) (by omega)
abbrev qI (ws : List PV) (id : Int) (k : Int) : Bool := wN ws k == id
abbrev qC2 (ws : List PV) (lv : Int) (M : List PV) (k : Int) : Bool := (wLv (ws.getD k.toNat .any) == lv) && crx (wL (ws.getD k.toNat .any)) M
theorem anyI_q (ws : List PV) (id : Int) : ∀ (n : Nat) (k : Int), anQ (qI ws id) k n = anyI ws id k n
  | 0, _ => rfl
  | n + 1, k => by unfold anQ anyI; rw [anyI_q ws id n]
theorem anyC_q (ws : List PV) (lv : Int) (M : List PV) : ∀ (n : Nat) (k : Int), anQ (qC2 ws lv M) k n = anyC ws lv M k n
  | 0, _ => rfl
  | n + 1, k => by unfold anQ anyC; rw [anyC_q ws lv M n]
noncomputable def xB (q : Int → Bool) (n k : Int) (H : List Row) : DT (PX × List PV × List Row) := .br (anQ q k (n - k).toNat) (.leaf (.ret, tm 19 [(4, iv (fsI q k (n - k).toNat))], H)) (.leaf (.exit 0, tm 19 [], H))
theorem xB_run {q : Int → Bool} {n k : Int} {H : List Row} {r : PX × List PV × List Row} (h : (xB q n k H).run = some r) : r = bif anQ q k (n - k).toNat then (.ret, tm 19 [(4, iv (fsI q k (n - k).toNat))], H) else (.exit 0, tm 19 [], H) := run_br2 h
def pB1 : LS → Bool
  | ([.l _ ws, .i n, .i k], [.i _, .l _ M, .i _, .s _, .s _, .b _, .i _, .i _]) => decide (0 ≤ k) && decide (n = (ws.length : Int)) && okB ws && big M
  | _ => false
noncomputable def fB1 : LS → DT (PX × List PV × List Row)
  | ([.l _ ws, .i n, .i k], [.i id, .l g M, .i lv, .s c, .s m, .b s, .i wt, .i ds]) => xB (qI ws id) n k (hB1 id g M lv c m s wt ds)
  | _ => .no
noncomputable def fB2 : LS → DT (PX × List PV × List Row)
  | ([.l _ ws, .i n, .i k], [.i id, .l g M, .i lv, .s c, .s m, .b s, .i wt, .i ds]) => xB (qC2 ws lv M) n k (hB1 id g M lv c m s wt ds)
  | _ => .no
def mB1 : LS → Nat
  | ([.l _ _, .i n, .i k], [.i _, .l _ _, .i _, .s _, .s _, .b _, .i _, .i _]) => (n - k).toNat
  | _ => 0
theorem sB1 : ∀ s r, pB1 s = true → (fB1 s).run = some r → r.1 ≠ .normal ∧ (runB Tryz.prog X0 60 58 (lpb Tryz.f58 2) [0, 1, 7, 8] [4] (shB1.put s).1 (shB1.put s).2 = some r ∨
      ∃ s', runB Tryz.prog X0 60 58 (lpb Tryz.f58 2) [0, 1, 7, 8] [4] (shB1.put s).1 (shB1.put s).2 = some (.normal, shB1.put s') ∧ pB1 s' = true ∧ mB1 s' < mB1 s ∧ (fB1 s').run = some r) := by
  intro t r hp hr
  unfold pB1 at hp; split at hp
  · rename_i f ws n k id g M lv c m s wt ds
    simp only [Bool.and_eq_true, decide_eq_true_eq] at hp
    obtain ⟨⟨⟨h1, rfl⟩, h3⟩, h4⟩ := hp
    have hr' := xB_run hr
    have hb := okB_len h3
    refine ⟨by rw [hr']; cases anQ (qI ws id) k ((ws.length : Int) - k).toNat <;> simp, ?_⟩
    rw [show shB1.put ([.l f ws, .i (ws.length : Int), .i k], [.i id, .l g M, .i lv, .s c, .s m, .b s, .i wt, .i ds]) = shB1.put (lB1 f ws (ws.length : Int) k id g M lv c m s wt ds) from rfl, qB1]
    by_cases hk : k < (ws.length : Int)
    · rw [decide_eq_true hk, cond_true, inr_of h1 hk, cond_true, W_id (n := k + 1) (by omega) (by omega)]
      obtain ⟨j, hj⟩ : ∃ j, ((ws.length : Int) - k).toNat = j + 1 := ⟨((ws.length : Int) - k).toNat - 1, by omega⟩
      have hj2 : ((ws.length : Int) - (k + 1)).toNat = j := by omega
      rw [hj] at hr'
      simp only [anQ, fsI] at hr'
      rw [show (wN ws k == id) = qI ws id k from rfl]
      cases he : qI ws id k with
      | true => rw [he] at hr'; exact .inl (by rw [hr']; rfl)
      | false =>
        rw [he] at hr'
        refine .inr ⟨lB1 f ws (ws.length : Int) (k + 1) id g M lv c m s wt ds, rfl, by simp only [pB1, Bool.and_eq_true, decide_eq_true_eq]; exact ⟨⟨⟨by omega, trivial⟩, h3⟩, h4⟩, by simp only [mB1]; omega, ?_⟩
        rw [hr']
        simp only [fB1, xB, hj2, Bool.false_or, cond_false]
        cases anQ (qI ws id) (k + 1) j <;> rfl
    · rw [decide_eq_false hk]
      rw [show ((ws.length : Int) - k).toNat = 0 by omega] at hr'
      exact .inl (by rw [hr']; rfl)
  · cases hp
noncomputable def X4 : EnvK := X0.addW 58 2 [0, 1, 7, 8] [] shB1 pB1 fB1
theorem okX4 : EnvOK Tryz.prog X4.env :=
  okX0.addW (n := 60) Tryz.func58 (show Tryz.f58.body = some (bod Tryz.f58) by kernel_rfl) (show (loops (bod Tryz.f58)).filter (fun b => rid b == 2) = [lpb Tryz.f58 2] by kernel_rfl) [0, 1, 7, 8] [4] [] shB1 mB1 sB1
theorem qB2 (f : Bool) (ws : List PV) (n k : Int) (id : Int) (g : Bool) (M : List PV) (lv : Int) (c m : ByteArray) (s : Bool) (wt ds : Int) :
  runB Tryz.prog X4 60 58 (lpb Tryz.f58 2) [0, 1, 7, 8] [4] (shB2.put (lB1 f ws n k id g M lv c m s wt ds)).1 (shB2.put (lB1 f ws n k id g M lv c m s wt ds)).2 =
  bif decide (k < n) then bif inr ws k then bif wLv (ws.getD k.toNat .any) == lv then bif big (wL (ws.getD k.toNat .any)) && big M then bif crx (wL (ws.getD k.toNat .any)) M then
    some (.ret, tm 19 [(4, iv k)], hB1 id g M lv c m s wt ds) else some (.normal, shB2.put (lB1 f ws n (W (k + 1)) id g M lv c m s wt ds)) else none
    else some (.normal, shB2.put (lB1 f ws n (W (k + 1)) id g M lv c m s wt ds)) else none
  else some (.exit 0, tm 19 [], hB1 id g M lv c m s wt ds) := by kernel_rfl
theorem sB2 : ∀ s r, pB1 s = true → (fB2 s).run = some r → r.1 ≠ .normal ∧ (runB Tryz.prog X4 60 58 (lpb Tryz.f58 2) [0, 1, 7, 8] [4] (shB2.put s).1 (shB2.put s).2 = some r ∨
      ∃ s', runB Tryz.prog X4 60 58 (lpb Tryz.f58 2) [0, 1, 7, 8] [4] (shB2.put s).1 (shB2.put s).2 = some (.normal, shB2.put s') ∧ pB1 s' = true ∧ mB1 s' < mB1 s ∧ (fB2 s').run = some r) := by
  intro t r hp hr
  unfold pB1 at hp; split at hp
  · rename_i f ws n k id g M lv c m s wt ds
    simp only [Bool.and_eq_true, decide_eq_true_eq] at hp
    obtain ⟨⟨⟨h1, rfl⟩, h3⟩, h4⟩ := hp
    have hr' := xB_run hr
    have hb := okB_len h3
    refine ⟨by rw [hr']; cases anQ (qC2 ws lv M) k ((ws.length : Int) - k).toNat <;> simp, ?_⟩
    rw [show shB2.put ([.l f ws, .i (ws.length : Int), .i k], [.i id, .l g M, .i lv, .s c, .s m, .b s, .i wt, .i ds]) = shB2.put (lB1 f ws (ws.length : Int) k id g M lv c m s wt ds) from rfl, qB2]
    by_cases hk : k < (ws.length : Int)
    · have hbg : (big (wL (ws.getD k.toNat .any)) && big M) = true := by
        have := okB_at h3 h1 hk
        rw [Bool.and_eq_true]; exact ⟨this, by simpa using h4⟩
      rw [decide_eq_true hk, cond_true, inr_of h1 hk, hbg, W_id (n := k + 1) (by omega) (by omega)]
      obtain ⟨j, hj⟩ : ∃ j, ((ws.length : Int) - k).toNat = j + 1 := ⟨((ws.length : Int) - k).toNat - 1, by omega⟩
      have hj2 : ((ws.length : Int) - (k + 1)).toNat = j := by omega
      rw [hj] at hr'
      simp only [anQ, fsI] at hr'
      cases he : qC2 ws lv M k with
      | true =>
        rw [he] at hr'
        obtain ⟨e1, e2⟩ := Bool.and_eq_true_iff.1 he
        rw [e1, e2]
        exact .inl (by rw [hr']; rfl)
      | false =>
        rw [he] at hr'
        refine .inr ⟨lB1 f ws (ws.length : Int) (k + 1) id g M lv c m s wt ds, ?_, by simp only [pB1, Bool.and_eq_true, decide_eq_true_eq]; exact ⟨⟨⟨by omega, trivial⟩, h3⟩, h4⟩, by simp only [mB1]; omega, ?_⟩
        · have he' : ((wLv (ws.getD k.toNat .any) == lv) && crx (wL (ws.getD k.toNat .any)) M) = false := he
          cases e1 : wLv (ws.getD k.toNat .any) == lv with
          | false => rfl
          | true => rw [e1, Bool.true_and] at he'; rw [he']; rfl
        · rw [hr']
          simp only [fB2, xB, hj2, Bool.false_or, cond_false]
          cases anQ (qC2 ws lv M) (k + 1) j <;> rfl
    · rw [decide_eq_false hk]
      rw [show ((ws.length : Int) - k).toNat = 0 by omega] at hr'
      exact .inl (by rw [hr']; rfl)
  · cases hp
noncomputable def X5 : EnvK := X4.addW 58 2 [0, 1, 7, 8] [] shB2 pB1 fB2
theorem okX5 : EnvOK Tryz.prog X5.env :=
  okX4.addW (n := 60) Tryz.func58 (show Tryz.f58.body = some (bod Tryz.f58) by kernel_rfl) (show (loops (bod Tryz.f58)).filter (fun b => rid b == 2) = [lpb Tryz.f58 2] by kernel_rfl) [0, 1, 7, 8] [4] [] shB2 mB1 sB2
/-! ContainsFunc. -/
theorem qCF1 (f : Bool) (ws : List PV) (id : Int) (g : Bool) (M : List PV) (lv : Int) (c m : ByteArray) (s : Bool) (wt ds : Int) :
  runR Tryz.prog X5 60 0 33 [.lst f 44 ws, .fn (.func 34) [] [.ptr 0 1 0 0]] (hB1 id g M lv c m s wt ds) =
  bif pB1 (lB1 f ws (ws.length : Int) 0 id g M lv c m s wt ds) then bif anQ (qI ws id) 0 ((ws.length : Int) - 0).toNat then some (bv (decide (fsI (qI ws id) 0 ((ws.length : Int) - 0).toNat ≥ 0)), hB1 id g M lv c m s wt ds) else some (bv false, hB1 id g M lv c m s wt ds) else none := by kernel_rfl
theorem qCF2 (f : Bool) (ws : List PV) (id : Int) (g : Bool) (M : List PV) (lv : Int) (c m : ByteArray) (s : Bool) (wt ds : Int) :
  runR Tryz.prog X5 60 0 33 [.lst f 44 ws, .fn (.func 37) [] [.ptr 0 1 0 0]] (hB1 id g M lv c m s wt ds) =
  bif pB1 (lB1 f ws (ws.length : Int) 0 id g M lv c m s wt ds) then bif anQ (qC2 ws lv M) 0 ((ws.length : Int) - 0).toNat then some (bv (decide (fsI (qC2 ws lv M) 0 ((ws.length : Int) - 0).toNat ≥ 0)), hB1 id g M lv c m s wt ds) else some (bv false, hB1 id g M lv c m s wt ds) else none := by kernel_rfl
def okC (ws M : List PV) : Bool := okB ws && big M
theorem okC_p {ws M : List PV} (h : okC ws M = true) (f : Bool) (id : Int) (g : Bool) (lv : Int) (c m : ByteArray) (s : Bool) (wt ds : Int) : pB1 (lB1 f ws (ws.length : Int) 0 id g M lv c m s wt ds) = true := by
  unfold okC at h
  rw [Bool.and_eq_true] at h
  simp only [pB1, Bool.and_eq_true, decide_eq_true_eq]
  exact ⟨⟨⟨Int.le_refl _, trivial⟩, h.1⟩, by simpa using h.2⟩
theorem qCF1' {ws M : List PV} (h : okC ws M = true) (f : Bool) (id : Int) (g : Bool) (lv : Int) (c m : ByteArray) (s : Bool) (wt ds : Int) :
  runR Tryz.prog X5 60 0 33 [.lst f 44 ws, .fn (.func 34) [] [.ptr 0 1 0 0]] (hB1 id g M lv c m s wt ds) = some (bv (anyI ws id 0 ws.length), hB1 id g M lv c m s wt ds) := by
  rw [qCF1, okC_p h, show ((ws.length : Int) - 0).toNat = ws.length by omega, fsI_ge _ _ (Int.le_refl _), anyI_q]
  cases anyI ws id 0 ws.length <;> rfl
theorem qCF2' {ws M : List PV} (h : okC ws M = true) (f : Bool) (id : Int) (g : Bool) (lv : Int) (c m : ByteArray) (s : Bool) (wt ds : Int) :
  runR Tryz.prog X5 60 0 33 [.lst f 44 ws, .fn (.func 37) [] [.ptr 0 1 0 0]] (hB1 id g M lv c m s wt ds) = some (bv (anyC ws lv M 0 ws.length), hB1 id g M lv c m s wt ds) := by
  rw [qCF2, okC_p h, show ((ws.length : Int) - 0).toNat = ws.length by omega, fsI_ge _ _ (Int.le_refl _), anyC_q]
  cases anyC ws lv M 0 ws.length <;> rfl
noncomputable def cCF : List PV → List Row → Option (DT (PV × List Row))
  | [.lst _ 44 ws, .fn (.func 34) [] [.ptr 0 1 0 0]], [⟨[.agg [.val (.int .i64 id), .lst g 37 M, .val (.int .i64 lv), .val (.string c), .val (.string m), .val (.bool s), .val (.int .i64 wt), .val (.int .i64 ds)]], 8, 44, false, true, false, none, false⟩] =>
    some (.br (okC ws M) (.leaf (bv (anyI ws id 0 ws.length), hB1 id g M lv c m s wt ds)) .no)
  | [.lst _ 44 ws, .fn (.func 37) [] [.ptr 0 1 0 0]], [⟨[.agg [.val (.int .i64 id), .lst g 37 M, .val (.int .i64 lv), .val (.string c), .val (.string m), .val (.bool s), .val (.int .i64 wt), .val (.int .i64 ds)]], 8, 44, false, true, false, none, false⟩] =>
    some (.br (okC ws M) (.leaf (bv (anyC ws lv M 0 ws.length), hB1 id g M lv c m s wt ds)) .no)
  | _, _ => none
theorem eCF : Hx.Enters Tryz.prog 33 := (runR_sound okX5 (qCF1' (ws := []) (M := []) rfl true 0 true 0 .empty .empty false 0 0)).1
theorem oCF (args : List PV) (H : List Row) (d : DT (PV × List Row)) (p : PV) (H' : List Row) (h : cCF args H = some d) (hd : d.run = some (p, H')) : RCall Tryz.prog 0 33 args H p H' := by
  unfold cCF at h; split at h
  · cases h
    obtain ⟨hc, he⟩ := run_br hd
    cases he
    exact (runR_sound okX5 (qCF1' hc ..)).2
  · cases h
    obtain ⟨hc, he⟩ := run_br hd
    cases he
    exact (runR_sound okX5 (qCF2' hc ..)).2
  · cases h
noncomputable def X6 : EnvK := X0.addR 33 cCF
theorem okX6 : EnvOK Tryz.prog X6.env := okX0.addR eCF oCF
end Go.Hn
/- Network: network.Check as a contract: the same as the reference's. -/
namespace Go.Hn
open Go.Hx Go.Hg Go.Proofs
def shD3 : Hx.S1 := ⟨46, [(0, .lst 44), (10, .lst 44), (11, I64), (12, I64)], []⟩
abbrev lD3 (f : Bool) (ws : List PV) (g : Bool) (vs : List PV) (n i : Int) : LS := ([.l f ws, .l g vs, .i n, .i i], [])
def rt46 (c : Int) : Option (PX × List PV × List Row) := some (.ret, tm 46 [(2, iv c)], [])
theorem qD3 (f : Bool) (ws : List PV) (g : Bool) (vs : List PV) (n i : Int) : runB Tryz.prog X6 60 13 (lpb Tryz.f13 4) [0, 10, 11, 12] [2] (shD3.put (lD3 f ws g vs n i)).1 (shD3.put (lD3 f ws g vs n i)).2 =
  bif decide (i < n) then bif inr vs i then bif decide (wN vs i < 1) then rt46 1 else
    bif decide (0 ≤ i) && decide (i ≤ (ws.length : Int)) then bif okC (ws.take i.toNat) (wL (vs.getD i.toNat .any)) then bif anyI (ws.take i.toNat) (wN vs i) 0 (ws.take i.toNat).length then rt46 6 else
    bif chk (wL (vs.getD i.toNat .any)) != 0 then rt46 (chk (wL (vs.getD i.toNat .any))) else
    bif decide (-2 ≤ wLv (vs.getD i.toNat .any)) then bif !decide (wLv (vs.getD i.toNat .any) ≤ 2) then rt46 3 else bif decide (1 ≤ wWt (vs.getD i.toNat .any)) then bif !decide (wWt (vs.getD i.toNat .any) ≤ 255) then rt46 3 else
      bif okC (ws.take i.toNat) (wL (vs.getD i.toNat .any)) then bif anyC (ws.take i.toNat) (wLv (vs.getD i.toNat .any)) (wL (vs.getD i.toNat .any)) 0 (ws.take i.toNat).length then rt46 16 else some (.normal, shD3.put (lD3 f ws g vs n (W (i + 1)))) else none
    else rt46 3 else rt46 3 else none else none else none
  else some (.exit 0, tm 46 [], []) := by kernel_rfl
theorem wN_take {ws : List PV} {m : Nat} {k : Int} (h0 : 0 ≤ k) (h : k < (m : Int)) : (ws.take m).getD k.toNat .any = ws.getD k.toNat .any := by
  rw [List.getD_eq_getElem?_getD, List.getD_eq_getElem?_getD, List.getElem?_take, if_pos (by omega)]
theorem anyI_take (ws : List PV) (id : Int) (m : Nat) : ∀ (n : Nat) (k : Int), 0 ≤ k → k + n ≤ (m : Int) → anyI (ws.take m) id k n = anyI ws id k n
  | 0, _, _, _ => rfl
  | n + 1, k, h0, h => by
    unfold anyI wN
    rw [wN_take h0 (by omega), anyI_take ws id m n (k + 1) (by omega) (by omega)]
theorem anyC_take (ws : List PV) (lv : Int) (M : List PV) (m : Nat) : ∀ (n : Nat) (k : Int), 0 ≤ k → k + n ≤ (m : Int) → anyC (ws.take m) lv M k n = anyC ws lv M k n
  | 0, _, _, _ => rfl
  | n + 1, k, h0, h => by
    unfold anyC
    rw [wN_take h0 (by omega), anyC_take ws lv M m n (k + 1) (by omega) (by omega)]
theorem okB_take {ws : List PV} (h : okB ws = true) (m : Nat) : okB (ws.take m) = true := by
  unfold okB at *
  rw [Bool.and_eq_true, List.all_eq_true, decide_eq_true_eq] at *
  exact ⟨by rw [List.length_take]; omega, fun e he => h.2 e (List.mem_of_mem_take he)⟩
noncomputable def pD3 : LS → Bool
  | ([.l _ ws, .l _ vs, .i n, .i i], []) => decide (0 ≤ i) && decide (n = (ws.length : Int)) && okB ws && same ws vs
  | _ => false
def fD3 : LS → DT (PX × List PV × List Row)
  | ([.l _ ws, .l _ _, .i n, .i i], []) => .br (errF ws i (n - i).toNat == 0) (.leaf (.exit 0, tm 46 [], [])) (.leaf (.ret, tm 46 [(2, iv (errF ws i (n - i).toNat))], []))
  | _ => .no
def mD3 : LS → Nat
  | ([.l _ _, .l _ _, .i n, .i i], []) => (n - i).toNat
  | _ => 0
theorem rndD {ws : List PV} {i : Int} (h1 : 0 ≤ i) (hi : i < (ws.length : Int)) (h7 : okB ws = true) {α : Type} (rt : Int → Option α) (nx : Option α) (e : PV) (he : e = ws.getD i.toNat .any) :
  (bif decide (wI e < 1) then rt 1 else
    bif decide (0 ≤ i) && decide (i ≤ (ws.length : Int)) then bif okC (ws.take i.toNat) (wL e) then bif anyI (ws.take i.toNat) (wI e) 0 (ws.take i.toNat).length then rt 6 else
    bif chk (wL e) != 0 then rt (chk (wL e)) else
    bif decide (-2 ≤ wLv e) then bif !decide (wLv e ≤ 2) then rt 3 else bif decide (1 ≤ wWt e) then bif !decide (wWt e ≤ 255) then rt 3 else
      bif okC (ws.take i.toNat) (wL e) then bif anyC (ws.take i.toNat) (wLv e) (wL e) 0 (ws.take i.toNat).length then rt 16 else nx else none
    else rt 3 else rt 3 else none else none) = bif errW ws i != 0 then rt (errW ws i) else nx := by
  have hb := okB_len h7
  have hbg : big (wL e) = true := by
    have := okB_at h7 h1 hi
    rw [← he] at this
    exact this
  have hl : (ws.take i.toNat).length = i.toNat := by rw [List.length_take]; omega
  have hok : okC (ws.take i.toNat) (wL e) = true := by unfold okC; rw [okB_take h7, hbg]; rfl
  rw [hok, hl, anyI_take ws _ _ _ 0 (Int.le_refl _) (by omega), anyC_take ws _ _ _ _ 0 (Int.le_refl _) (by omega), decide_eq_true h1, decide_eq_true (show i ≤ (ws.length : Int) by omega)]
  unfold errW rngB wN
  rw [← he]
  have e1 : decide (-2 ≤ wLv e) = !decide (wLv e < -2) := by rw [← decide_not, decide_eq_decide]; omega
  have e2 : decide (wLv e ≤ 2) = !decide (wLv e > 2) := by rw [← decide_not, decide_eq_decide]; omega
  have e3 : decide (1 ≤ wWt e) = !decide (wWt e < 1) := by rw [← decide_not, decide_eq_decide]; omega
  have e4 : decide (wWt e ≤ 255) = !decide (wWt e > 255) := by rw [← decide_not, decide_eq_decide]; omega
  rw [e1, e2, e3, e4]
  cases decide (wI e < 1) <;> cases anyI ws (wI e) 0 i.toNat <;> cases hc : (chk (wL e) != 0) <;> cases decide (wLv e < -2) <;> cases decide (wLv e > 2) <;> cases decide (wWt e < 1) <;> cases decide (wWt e > 255) <;> cases anyC ws (wLv e) (wL e) 0 i.toNat <;> simp [hc]
theorem sD3 : ∀ s r, pD3 s = true → (fD3 s).run = some r → r.1 ≠ .normal ∧ (runB Tryz.prog X6 60 13 (lpb Tryz.f13 4) [0, 10, 11, 12] [2] (shD3.put s).1 (shD3.put s).2 = some r ∨
      ∃ s', runB Tryz.prog X6 60 13 (lpb Tryz.f13 4) [0, 10, 11, 12] [2] (shD3.put s).1 (shD3.put s).2 = some (.normal, shD3.put s') ∧ pD3 s' = true ∧ mD3 s' < mD3 s ∧ (fD3 s').run = some r) := by
  intro t r hp hr
  unfold pD3 at hp; split at hp
  · rename_i f ws g vs n i
    simp only [Bool.and_eq_true, decide_eq_true_eq, same_iff] at hp
    obtain ⟨⟨⟨h1, rfl⟩, h7⟩, rfl⟩ := hp
    have hr' := run_br2 hr
    have hb := okB_len h7
    refine ⟨by rw [hr']; cases (errF ws i ((ws.length : Int) - i).toNat == 0) <;> simp, ?_⟩
    rw [show shD3.put ([.l f ws, .l g ws, .i (ws.length : Int), .i i], []) = shD3.put (lD3 f ws g ws (ws.length : Int) i) from rfl, qD3]
    by_cases hi : i < (ws.length : Int)
    · rw [decide_eq_true hi, cond_true, inr_of h1 hi, cond_true, W_id (n := i + 1) (by omega) (by omega)]
      obtain ⟨m, hm⟩ : ∃ m, ((ws.length : Int) - i).toNat = m + 1 := ⟨((ws.length : Int) - i).toNat - 1, by omega⟩
      have hm2 : ((ws.length : Int) - (i + 1)).toNat = m := by omega
      rw [hm] at hr'
      simp only [errF] at hr'
      have key := rndD h1 hi h7 rt46 (some (PX.normal, shD3.put (lD3 f ws g ws (ws.length : Int) (i + 1)))) (ws.getD i.toNat .any) rfl
      unfold wN
      rw [key]
      cases hc : errW ws i != 0 with
      | true =>
        rw [hc] at hr'
        simp only [cond_true] at hr'
        rw [show (errW ws i == 0) = false by rw [bne] at hc; simpa using hc] at hr'
        exact .inl (by rw [hr']; rfl)
      | false =>
        rw [hc] at hr'
        refine .inr ⟨lD3 f ws g ws (ws.length : Int) (i + 1), rfl, by simp only [pD3, Bool.and_eq_true, decide_eq_true_eq, same_iff]; exact ⟨⟨⟨by omega, trivial⟩, h7⟩, trivial⟩, by simp only [mD3]; omega, ?_⟩
        rw [hr']
        simp only [fD3, hm2, cond_false]
        cases (errF ws (i + 1) m == 0) <;> rfl
    · rw [decide_eq_false hi]
      rw [show ((ws.length : Int) - i).toNat = 0 by omega] at hr'
      exact .inl (by rw [hr']; rfl)
  · cases hp
noncomputable def X7 : EnvK := X6.addW 13 4 [0, 10, 11, 12] [] shD3 pD3 fD3
theorem okX7 : EnvOK Tryz.prog X7.env :=
  okX6.addW (n := 60) Tryz.func13 (show Tryz.f13.body = some (bod Tryz.f13) by kernel_rfl) (show (loops (bod Tryz.f13)).filter (fun b => rid b == 4) = [lpb Tryz.f13 4] by kernel_rfl) [0, 10, 11, 12] [2] [] shD3 mD3 sD3
theorem qNChk (f : Bool) (ws : List PV) : runP Tryz.prog X7 60 13 [.lst f 44 ws] =
  bif decide ((ws.length : Int) > 80) then some (iv 2) else bif pD3 (lD3 f ws f ws (ws.length : Int) 0) then bif errF ws 0 ((ws.length : Int) - 0).toNat == 0 then some (iv 0) else some (iv (errF ws 0 ((ws.length : Int) - 0).toNat)) else none := by kernel_rfl
theorem qNChk' (f : Bool) (ws : List PV) (h : okB ws = true) : runP Tryz.prog X7 60 13 [.lst f 44 ws] = some (iv (chkF ws)) := by
  rw [qNChk, show pD3 (lD3 f ws f ws (ws.length : Int) 0) = true by simp [pD3, h, same_self], show ((ws.length : Int) - 0).toNat = ws.length by omega]
  unfold chkF
  cases decide ((ws.length : Int) > 80)
  · simp only [cond_false, cond_true]
    cases hc : errF ws 0 ws.length == 0
    · rfl
    · rw [beq_iff_eq] at hc; rw [hc]; rfl
  · rfl
theorem eChW : Hx.Enters Tryz.prog 13 := (runP_sound okX7 (n := 60) (qNChk' true [] rfl)).1
theorem oChW (args : List PV) (d : DT PV) (r : PV) (h : cChW args = some d) (hr : d.run = some r) : PCall Tryz.prog 13 args r := by
  unfold cChW at h; split at h
  · cases h
    obtain ⟨h1, rfl⟩ := run_br hr
    exact (runP_sound okX7 (n := 60) (qNChk' _ _ h1)).2
  · cases h
end Go.Hn
/- Network: fine ways: made ones without those that would make a network wrong. -/
namespace Go.Hn
open Go.Hx Go.Hg Go.Proofs
/-- What the further laws begin with. -/
noncomputable def Y0 : EnvK := (((((((X0.addO 8 cSan8).addF 18 cSt2).addF 20 cJnd).addO 9 cMade).addF 14 cChW).addF 13 cChW)).addN 10 4 [(4, 44, 0)]
theorem okY0 : EnvOK Tryz.prog Y0.env := (((((((okX0.addO oSan8).addF eSt2 oSt2).addF eJnd oJnd).addO oMade).addF eRChW oRChW).addF eChW oChW)).addN 10 4 [(4, 44, 0)]
/-- A way that was read out of a list. -/
def wvE (e : PV) : PV := .agg [iv (wI e), .lst false 37 (wL e), iv (wLv e), .val (.string ((e.cellAt 3).getS)), .val (.string ((e.cellAt 4).getS)), bv ((e.cellAt 5).getB), iv (wWt e), iv ((e.cellAt 7).getI)]
def shQ : Hx.S1 := ⟨29, [(3, .lst 44), (4, .lst 44), (5, I64)], []⟩
abbrev lQ (f : Bool) (vs : List PV) (g : Bool) (es : List PV) (i : Int) : LS := ([.l f vs, .l g es, .i i], [])
/-- The next list. -/
def nxQ (vs es : List PV) (i : Int) : List PV := ((es ++ [wvE (vs.getD i.toNat .any)]).drop 0).take (0 + es.length + 1)
def rmQ (vs es : List PV) (i : Int) {α : Type} (k : Option α) : Option α := bif (es ++ [wvE (vs.getD i.toNat .any)]).length == 0 + es.length + 1 then k else none
theorem qQ (f : Bool) (vs : List PV) (g : Bool) (es : List PV) (i : Int) : runB Tryz.prog Y0 60 10 (lpb Tryz.f10 4) [3, 4, 5] [4] (shQ.put (lQ f vs g es i)).1 (shQ.put (lQ f vs g es i)).2 =
  bif decide (i < (vs.length : Int)) then bif decide ((0 + es.length) * 96 ≤ 140737488355328) then bif inr vs i then
    bif decide (es.length = 0 + es.length) && decide (0 + es.length = 0 + es.length) && decide ((0 + es.length + 1) * 96 ≤ 140737488355328) then rmQ vs es i (bif okB (nxQ vs es i) then
      bif chkF (nxQ vs es i) == 0 then rmQ vs es i (some (.normal, shQ.put (lQ f vs false (nxQ vs es i) (W (i + 1))))) else some (.normal, shQ.put (lQ f vs g es (W (i + 1)))) else none) else none else none else none
  else some (.exit 0, tm 29 [(4, .lst g 44 es)], []) := by kernel_rfl
end Go.Hn
/- Network: fine ways as a contract; facts. -/
namespace Go.Hn
open Go.Hx Go.Hg Go.Proofs
/-- One more way, if nothing is wrong with it. -/
def fqS (es : List PV) (e : PV) : List PV := bif chkF (es ++ [wvE e]) == 0 then es ++ [wvE e] else es
def fq (vs : List PV) : Int → Nat → List PV → List PV
  | _, 0, es => es
  | i, n + 1, es => fq vs (i + 1) n (fqS es (vs.getD i.toNat .any))
theorem okB_add {es : List PV} {e : PV} (h : okB es = true) (hl : es.length ≤ 999999) (he : (wL e).length ≤ 1000000) : okB (es ++ [wvE e]) = true := by
  unfold okB at *
  rw [Bool.and_eq_true, List.all_eq_true, decide_eq_true_eq] at *
  refine ⟨by simp; omega, fun x hx => ?_⟩
  rcases List.mem_append.1 hx with hx | hx
  · exact h.2 x hx
  · rw [List.mem_singleton] at hx
    subst hx
    rw [decide_eq_true_eq]; exact he
def pQ : LS → Bool
  | ([.l _ vs, .l g es, .i i], []) => !g && decide (0 ≤ i) && decide ((es.length : Int) ≤ i) && decide (vs.length ≤ 1000) && okB vs && okB es && decide (es.length ≤ 1000)
  | _ => false
def fQ : LS → DT (PX × List PV × List Row)
  | ([.l _ vs, .l _ es, .i i], []) => .leaf (.exit 0, tm 29 [(4, .lst false 44 (fq vs i ((vs.length : Int) - i).toNat es))], [])
  | _ => .no
def mQ : LS → Nat
  | ([.l _ vs, .l _ _, .i i], []) => ((vs.length : Int) - i).toNat
  | _ => 0
theorem sQ : ∀ s r, pQ s = true → (fQ s).run = some r → r.1 ≠ .normal ∧ (runB Tryz.prog Y0 60 10 (lpb Tryz.f10 4) [3, 4, 5] [4] (shQ.put s).1 (shQ.put s).2 = some r ∨
      ∃ s', runB Tryz.prog Y0 60 10 (lpb Tryz.f10 4) [3, 4, 5] [4] (shQ.put s).1 (shQ.put s).2 = some (.normal, shQ.put s') ∧ pQ s' = true ∧ mQ s' < mQ s ∧ (fQ s').run = some r) := by
  intro t r hp hr
  unfold pQ at hp; split at hp
  · rename_i f vs g es i
    simp only [Bool.and_eq_true, decide_eq_true_eq, Bool.not_eq_true'] at hp
    obtain ⟨⟨⟨⟨⟨⟨rfl, h1⟩, h2⟩, h3⟩, h4⟩, h5⟩, h6⟩ := hp
    have hr' := (Option.some.inj hr).symm
    refine ⟨by rw [hr']; simp, ?_⟩
    rw [show shQ.put ([.l f vs, .l false es, .i i], []) = shQ.put (lQ f vs false es i) from rfl, qQ]
    by_cases hi : i < (vs.length : Int)
    · obtain ⟨m, hm⟩ : ∃ m, ((vs.length : Int) - i).toNat = m + 1 := ⟨((vs.length : Int) - i).toNat - 1, by omega⟩
      have hm2 : ((vs.length : Int) - (i + 1)).toNat = m := by omega
      rw [hm] at hr'
      simp only [fq] at hr'
      have hN : nxQ vs es i = es ++ [wvE (vs.getD i.toNat .any)] := by
        unfold nxQ
        rw [List.drop_zero, List.take_of_length_le (by rw [List.length_append, List.length_singleton]; omega)]
      have hR : ∀ {α : Type} (k : Option α), rmQ vs es i k = k := fun k => by
        unfold rmQ
        rw [show (es ++ [wvE (vs.getD i.toNat .any)]).length = 0 + es.length + 1 by simp, beq_self_eq_true]; rfl
      have hO : okB (es ++ [wvE (vs.getD i.toNat .any)]) = true := okB_add h5 (by omega) (of_decide_eq_true (okB_at h4 h1 hi))
      rw [decide_eq_true hi, cond_true, W_id (n := i + 1) (by omega) (by omega), decide_eq_true (show (0 + es.length) * 96 ≤ 140737488355328 by omega), inr_of h1 hi, decide_eq_true (show es.length = 0 + es.length by omega), decide_eq_true rfl, decide_eq_true (show (0 + es.length + 1) * 96 ≤ 140737488355328 by omega)]
      simp only [Bool.and_self, cond_true, hR]
      rw [hN, hO, cond_true]
      unfold fqS at hr'
      right
      cases hc : chkF (es ++ [wvE (vs.getD i.toNat .any)]) == 0 with
      | true =>
        rw [hc] at hr'
        refine ⟨lQ f vs false (es ++ [wvE (vs.getD i.toNat .any)]) (i + 1), rfl, by simp only [pQ, Bool.and_eq_true, decide_eq_true_eq, Bool.not_eq_true', List.length_append, List.length_cons, List.length_nil]; exact ⟨⟨⟨⟨⟨⟨trivial, by omega⟩, by omega⟩, h3⟩, h4⟩, hO⟩, by omega⟩, by simp only [mQ]; omega, ?_⟩
        rw [hr']; simp only [fQ, hm2]; rfl
      | false =>
        rw [hc] at hr'
        refine ⟨lQ f vs false es (i + 1), rfl, by simp only [pQ, Bool.and_eq_true, decide_eq_true_eq, Bool.not_eq_true']; exact ⟨⟨⟨⟨⟨⟨trivial, by omega⟩, by omega⟩, h3⟩, h4⟩, h5⟩, h6⟩, by simp only [mQ]; omega, ?_⟩
        rw [hr']; simp only [fQ, hm2]; rfl
    · rw [decide_eq_false hi]
      rw [show ((vs.length : Int) - i).toNat = 0 by omega] at hr'
      exact .inl (by rw [hr']; rfl)
  · cases hp
noncomputable def Y1 : EnvK := Y0.addW 10 4 [3, 4, 5] [] shQ pQ fQ
theorem okY1 : EnvOK Tryz.prog Y1.env :=
  okY0.addW (n := 60) Tryz.func10 (show Tryz.f10.body = some (bod Tryz.f10) by kernel_rfl) (show (loops (bod Tryz.f10)).filter (fun b => rid b == 4) = [lpb Tryz.f10 4] by kernel_rfl) [3, 4, 5] [4] [] shQ mQ sQ
theorem qFine (f : Bool) (L : List PV) : runP Tryz.prog Y1 60 10 [.lst f 3 L] =
  bif pQ (lQ false (madeW L) false [] 0) then some (.lst false 44 (fq (madeW L) 0 (((madeW L).length : Int) - 0).toNat [])) else none := by kernel_rfl
/-- The fine ways. -/
def fineW (L : List PV) : List PV := fq (madeW L) 0 (madeW L).length []
theorem qFine' (f : Bool) (L : List PV) : runP Tryz.prog Y1 60 10 [.lst f 3 L] = some (.lst false 44 (fineW L)) := by
  have hl := madeW_len L
  rw [qFine, show pQ (lQ false (madeW L) false [] 0) = true by simp only [pQ, Bool.and_eq_true, decide_eq_true_eq]; exact ⟨⟨⟨⟨⟨⟨rfl, Int.le_refl _⟩, Int.le_refl _⟩, by omega⟩, made_okB L⟩, rfl⟩, by decide⟩, show (((madeW L).length : Int) - 0).toNat = (madeW L).length by omega]
  rfl
def cFine : List PV → Option PV
  | [.lst _ 3 L] => some (.lst false 44 (fineW L))
  | _ => none
theorem oFine (args : List PV) (r : PV) (h : cFine args = some r) : Hx.Enters Tryz.prog 10 ∧ PCall Tryz.prog 10 args r := by
  unfold cFine at h; split at h
  · cases h; exact runP_sound okY1 (n := 60) (qFine' _ _)
  · cases h
/-! Facts. -/
theorem wvE_mW (L : List PV) (k a : Int) : wvE (mW L k a) = mW L k a := rfl
theorem fq_facts {vs : List PV} (hv : ∀ e ∈ vs, wvE e = e) : ∀ (n i : Nat) (es : List PV), i + n = vs.length → chkF es = 0 → ∃ ds : List PV, fq vs (i : Int) n es = es ++ ds ∧ ds.Sublist (vs.drop i) ∧ chkF (fq vs (i : Int) n es) = 0
  | 0, i, es, hn, h => ⟨[], by simp [fq], List.nil_sublist _, h⟩
  | n + 1, i, es, hn, h => by
    have hi : i < vs.length := by omega
    have hg : vs.getD (i : Int).toNat .any = vs[i] := by rw [Int.toNat_natCast, List.getD_eq_getElem?_getD, List.getElem?_eq_getElem hi]; rfl
    unfold fq
    rw [hg, List.drop_eq_getElem_cons hi, show (i : Int) + 1 = ((i + 1 : Nat) : Int) by omega]
    unfold fqS
    rw [hv _ (List.getElem_mem hi)]
    cases hc : chkF (es ++ [vs[i]]) == 0 with
    | true =>
      obtain ⟨ds, h1, h2, h3⟩ := fq_facts hv n (i + 1) (es ++ [vs[i]]) (by omega) (by simpa using hc)
      refine ⟨vs[i] :: ds, ?_, h2.cons_cons _, h3⟩
      rw [cond_true, h1]; simp
    | false =>
      obtain ⟨ds, h1, h2, h3⟩ := fq_facts hv n (i + 1) es (by omega) h
      exact ⟨ds, h1, h2.cons _, h3⟩
theorem fine_facts (L : List PV) : (fineW L).Sublist (madeW L) ∧ chkF (fineW L) = 0 := by
  obtain ⟨ds, h1, h2, h3⟩ := fq_facts (vs := madeW L) (fun e he => by obtain ⟨k, a, _, _, rfl⟩ := made_mem he; exact wvE_mW L k a) (madeW L).length 0 [] (by omega) rfl
  unfold fineW
  refine ⟨?_, h3⟩
  have h1 : fq (madeW L) 0 (madeW L).length [] = [] ++ ds := h1
  rw [h1]
  simpa using h2
theorem fine_okW (L : List PV) : okW (fineW L) = true := by
  obtain ⟨h1, h2⟩ := okW_iff (made_okW L)
  have hs := (fine_facts L).1
  unfold okW
  simp only [Bool.and_eq_true, decide_eq_true_eq, List.all_eq_true]
  exact ⟨Nat.le_trans hs.length_le h1, fun e he => h2 e (hs.subset he)⟩
theorem fine_okB (L : List PV) : okB (fineW L) = true := by
  have h := made_okB L
  have hs := (fine_facts L).1
  unfold okB at *
  rw [Bool.and_eq_true, List.all_eq_true, decide_eq_true_eq] at *
  exact ⟨Nat.le_trans hs.length_le h.1, fun e he => h.2 e (hs.subset he)⟩
theorem fine_ids (L : List PV) : ((fineW L).map wI).Nodup := List.Nodup.sublist ((fine_facts L).1.map wI) (made_ids L)
/-- Nothing is wrong with any way. -/
theorem errF_zero {ws : List PV} : ∀ (n i : Nat), errF ws (i : Int) n = 0 → ∀ j : Nat, i ≤ j → j < i + n → errW ws (j : Int) = 0
  | 0, _, _, j, h1, h2 => by omega
  | n + 1, i, h, j, h1, h2 => by
    unfold errF at h
    cases hc : errW ws (i : Int) != 0 with
    | true =>
      rw [hc] at h
      rw [bne_iff_ne] at hc
      exact absurd h hc
    | false =>
      rw [hc, cond_false, show (i : Int) + 1 = ((i + 1 : Nat) : Int) by omega] at h
      by_cases e : j = i
      · subst e
        rw [bne_eq_false_iff_eq] at hc; exact hc
      · exact errF_zero n (i + 1) h j (by omega) (by omega)
theorem anyC_false {ws : List PV} {lv : Int} {M : List PV} : ∀ (n k : Nat), anyC ws lv M (k : Int) n = false → ∀ j : Nat, k ≤ j → j < k + n → ((wLv (ws.getD j .any) == lv) && crx (wL (ws.getD j .any)) M) = false
  | 0, _, _, j, h1, h2 => by omega
  | n + 1, k, h, j, h1, h2 => by
    unfold anyC at h
    rw [Bool.or_eq_false_iff, Int.toNat_natCast, show (k : Int) + 1 = ((k + 1 : Nat) : Int) by omega] at h
    by_cases e : j = k
    · subst e; exact h.1
    · exact anyC_false n (k + 1) h.2 j (by omega) (by omega)
theorem errW_zero {ws : List PV} {i : Nat} (h : errW ws (i : Int) = 0) : chk (wL (ws.getD i .any)) = 0 ∧ anyC ws (wLv (ws.getD i .any)) (wL (ws.getD i .any)) 0 i = false := by
  unfold errW at h
  simp only [Int.toNat_natCast] at h
  cases h1 : decide (wN ws (i : Int) < 1) <;> rw [h1] at h <;> try (simp at h; done)
  cases h2 : anyI ws (wN ws (i : Int)) 0 i <;> rw [h2] at h <;> try (simp at h; done)
  cases h3 : chk (wL (ws.getD i .any)) != 0 with
  | true => rw [h3] at h; rw [bne_iff_ne] at h3; exact absurd (by simpa using h) h3
  | false =>
    rw [h3] at h
    cases h4 : rngB (ws.getD i .any) <;> rw [h4] at h <;> try (simp at h; done)
    cases h5 : anyC ws (wLv (ws.getD i .any)) (wL (ws.getD i .any)) 0 i with
    | true => rw [h5] at h; simp at h
    | false => exact ⟨by rw [bne_eq_false_iff_eq] at h3; exact h3, rfl⟩
/-- Two ways of one level do not cross. -/
theorem fine_crx {ws : List PV} (hl : ws.length ≤ 80) (h : chkF ws = 0) {i k : Nat} (hi : i < ws.length) (hk : k < i) (hlv : wLv ws[k] = wLv ws[i]) : crx (wL ws[k]) (wL ws[i]) = false ∧ chk (wL ws[i]) = 0 := by
  unfold chkF at h
  rw [decide_eq_false (by omega), cond_false] at h
  have h1 := errF_zero ws.length 0 h i (by omega) (by omega)
  obtain ⟨h2, h3⟩ := errW_zero h1
  have g : ∀ {j : Nat} (hj : j < ws.length), ws.getD j .any = ws[j] := fun {j} hj => by rw [List.getD_eq_getElem?_getD, List.getElem?_eq_getElem hj]; rfl
  have h4 := anyC_false i 0 h3 k (by omega) (by omega)
  rw [g (by omega), g hi] at h4
  rw [g hi] at h2
  rw [show (wLv ws[k] == wLv ws[i]) = true by simpa using hlv, Bool.true_and] at h4
  exact ⟨h4, h2⟩
end Go.Hn
/- Network: NetworkFine: is a point on a line, and where? (printed by genxg.py) -/
namespace Go.Hn
open Go.Hx Go.Hg Go.Proofs
noncomputable def Y2 : EnvK := Y0.addO 10 cFine
theorem okY2 : EnvOK Tryz.prog Y2.env := okY0.addO oFine
abbrev U8 : Hx.X1 := .int .u8
abbrev tu (t : Int) : PV := .val (.int .u8 t)
def shE1 : Hx.S1 := ⟨141, [(1, U8), (5, .bool), (6, .lst 44), (7, I64), (8, I64), (9, .ptr 0 1 0 0), (10, .ptr 1 1 0 0), (11, I64), (12, .ptr 2 1 0 0), (13, .bool), (14, I64)],
  [.onef 44 8 wayX, .onef 44 8 wayX, .one 37 2 (.agg [I64, I64])]⟩
abbrev lE1 (t : Int) (u f : Bool) (ws : List PV) (i k n : Int) (o : Bool) (m : Int) (a1 : Int) (a2 : Bool) (A : List PV) (a3 : Int) (a4 a5 : ByteArray) (a6 : Bool) (a7 a8 : Int) (b1 : Int) (b2 : Bool) (B : List PV) (b3 : Int) (b4 b5 : ByteArray) (b6 : Bool) (b7 b8 : Int) (x y : Int) : LS :=
  ([.i t, .b u, .l f ws, .i i, .i k, .i n, .b o, .i m], [.i a1, .l a2 A, .i a3, .s a4, .s a5, .b a6, .i a7, .i a8, .i b1, .l b2 B, .i b3, .s b4, .s b5, .b b6, .i b7, .i b8, .i x, .i y])
theorem qE1 (t : Int) (u f : Bool) (ws : List PV) (i k n : Int) (o : Bool) (m : Int) (a1 : Int) (a2 : Bool) (A : List PV) (a3 : Int) (a4 a5 : ByteArray) (a6 : Bool) (a7 a8 : Int) (b1 : Int) (b2 : Bool) (B : List PV) (b3 : Int) (b4 b5 : ByteArray) (b6 : Bool) (b7 b8 : Int) (x y : Int) :
  runB Tryz.prog Y2 60 4 (lpb Tryz.f4 18) [1, 5, 6, 7, 8, 9, 10, 11, 12, 13, 14] [1, 5, 6, 7, 8, 9, 10, 11, 12, 13] (shE1.put (lE1 t u f ws i k n o m a1 a2 A a3 a4 a5 a6 a7 a8 b1 b2 B b3 b4 b5 b6 b7 b8 x y)).1 (shE1.put (lE1 t u f ws i k n o m a1 a2 A a3 a4 a5 a6 a7 a8 b1 b2 B b3 b4 b5 b6 b7 b8 x y)).2 =
  bif decide (W (m + 1) < (B.length : Int)) then bif o then some (.normal, shE1.put (lE1 t u f ws i k n true (W (m + 1)) a1 a2 A a3 a4 a5 a6 a7 a8 b1 b2 B b3 b4 b5 b6 b7 b8 x y)) else
    bif inr B m then bif inr B (W (m + 1)) then some (.normal, shE1.put (lE1 t u f ws i k n (onX (Hg.qX B m) (Hg.qY B m) (Hg.qX B (W (m + 1))) (Hg.qY B (W (m + 1))) x y) (W (m + 1)) a1 a2 A a3 a4 a5 a6 a7 a8 b1 b2 B b3 b4 b5 b6 b7 b8 x y)) else none else none
  else some (.exit 6, tm 141 [(1, tu t), (5, bv u), (6, .lst f 44 ws), (7, iv i), (8, iv k), (9, .ptr 0 1 0 0), (10, .ptr 1 1 0 0), (11, iv n), (12, .ptr 2 1 0 0), (13, bv o)], (shE1.put (lE1 t u f ws i k n o m a1 a2 A a3 a4 a5 a6 a7 a8 b1 b2 B b3 b4 b5 b6 b7 b8 x y)).2) := by kernel_rfl
def foldOn (B : List PV) (x y : Int) : Int → Nat → Bool → Bool
  | _, 0, o => o
  | m, n + 1, o => foldOn B x y (m + 1) n (bif o then true else onX (Hg.qX B m) (Hg.qY B m) (Hg.qX B (m + 1)) (Hg.qY B (m + 1)) x y)
def pE1 : LS → Bool
  | ([.i _, .b _, .l _ _, .i _, .i _, .i _, .b _, .i m], [.i _, .l _ A, .i _, .s _, .s _, .b _, .i _, .i _, .i _, .l _ B, .i _, .s _, .s _, .b _, .i _, .i _, .i _, .i _]) => decide (0 ≤ m) && decide (m ≤ (B.length : Int)) && big B && big A
  | _ => false
noncomputable def fE1 : LS → DT (PX × List PV × List Row)
  | ([.i t, .b u, .l f ws, .i i, .i k, .i n, .b o, .i m], [.i a1, .l a2 A, .i a3, .s a4, .s a5, .b a6, .i a7, .i a8, .i b1, .l b2 B, .i b3, .s b4, .s b5, .b b6, .i b7, .i b8, .i x, .i y]) => .leaf (.exit 6, tm 141 [(1, tu t), (5, bv u), (6, .lst f 44 ws), (7, iv i), (8, iv k), (9, .ptr 0 1 0 0), (10, .ptr 1 1 0 0), (11, iv n), (12, .ptr 2 1 0 0), (13, bv (foldOn B x y m ((B.length : Int) - 1 - m).toNat o))], (shE1.put (lE1 t u f ws i k n o m a1 a2 A a3 a4 a5 a6 a7 a8 b1 b2 B b3 b4 b5 b6 b7 b8 x y)).2)
  | _ => .no
def mE1 : LS → Nat
  | ([.i _, .b _, .l _ _, .i _, .i _, .i _, .b _, .i m], [.i _, .l _ A, .i _, .s _, .s _, .b _, .i _, .i _, .i _, .l _ B, .i _, .s _, .s _, .b _, .i _, .i _, .i _, .i _]) => ((B.length : Int) - 1 - m).toNat + 0 * A.length
  | _ => 0
theorem sE1 : ∀ s r, pE1 s = true → (fE1 s).run = some r → r.1 ≠ .normal ∧ (runB Tryz.prog Y2 60 4 (lpb Tryz.f4 18) [1, 5, 6, 7, 8, 9, 10, 11, 12, 13, 14] [1, 5, 6, 7, 8, 9, 10, 11, 12, 13] (shE1.put s).1 (shE1.put s).2 = some r ∨
      ∃ s', runB Tryz.prog Y2 60 4 (lpb Tryz.f4 18) [1, 5, 6, 7, 8, 9, 10, 11, 12, 13, 14] [1, 5, 6, 7, 8, 9, 10, 11, 12, 13] (shE1.put s).1 (shE1.put s).2 = some (.normal, shE1.put s') ∧ pE1 s' = true ∧ mE1 s' < mE1 s ∧ (fE1 s').run = some r) := by
  intro t r hp hr
  unfold pE1 at hp; split at hp
  · rename_i t u f ws i k n o m a1 a2 A a3 a4 a5 a6 a7 a8 b1 b2 B b3 b4 b5 b6 b7 b8 x y
    simp only [Bool.and_eq_true, decide_eq_true_eq] at hp
    obtain ⟨⟨⟨h1, h0⟩, h2⟩, h3⟩ := hp
    have hr' := (Option.some.inj hr).symm
    refine ⟨by rw [hr']; simp, ?_⟩
    rw [show shE1.put ([.i t, .b u, .l f ws, .i i, .i k, .i n, .b o, .i m], [.i a1, .l a2 A, .i a3, .s a4, .s a5, .b a6, .i a7, .i a8, .i b1, .l b2 B, .i b3, .s b4, .s b5, .b b6, .i b7, .i b8, .i x, .i y]) = shE1.put (lE1 t u f ws i k n o m a1 a2 A a3 a4 a5 a6 a7 a8 b1 b2 B b3 b4 b5 b6 b7 b8 x y) from rfl, qE1]
    by_cases hm : m + 1 < (B.length : Int)
    · rw [W_id (n := m + 1) (by omega) (by omega), decide_eq_true hm, cond_true, inr_of h1 (by omega), inr_of (by omega) hm]
      obtain ⟨j, hj⟩ : ∃ j, ((B.length : Int) - 1 - m).toNat = j + 1 := ⟨((B.length : Int) - 1 - m).toNat - 1, by omega⟩
      have hj2 : ((B.length : Int) - 1 - (m + 1)).toNat = j := by omega
      rw [hj] at hr'
      simp only [foldOn] at hr'
      refine .inr ⟨lE1 t u f ws i k n (bif o then true else onX (Hg.qX B m) (Hg.qY B m) (Hg.qX B (m + 1)) (Hg.qY B (m + 1)) x y) (m + 1) a1 a2 A a3 a4 a5 a6 a7 a8 b1 b2 B b3 b4 b5 b6 b7 b8 x y, ?_, by simp only [pE1, Bool.and_eq_true, decide_eq_true_eq]; exact ⟨⟨⟨by omega, by omega⟩, h2⟩, h3⟩, by simp only [mE1]; omega, ?_⟩
      · cases o <;> rfl
      · rw [hr']; simp only [fE1, hj2]; rfl
    · rw [W_id (n := m + 1) (by omega) (by omega), decide_eq_false hm]
      rw [show ((B.length : Int) - 1 - m).toNat = 0 by omega] at hr'
      exact .inl (by rw [hr']; rfl)
  · cases hp
noncomputable def Y3 : EnvK := Y2.addW 4 18 [1, 5, 6, 7, 8, 9, 10, 11, 12, 13, 14] [] shE1 pE1 fE1
theorem okY3 : EnvOK Tryz.prog Y3.env :=
  okY2.addW (n := 60) Tryz.func4 (show Tryz.f4.body = some (bod Tryz.f4) by kernel_rfl) (show (loops (bod Tryz.f4)).filter (fun b => rid b == 18) = [lpb Tryz.f4 18] by kernel_rfl) [1, 5, 6, 7, 8, 9, 10, 11, 12, 13, 14] [1, 5, 6, 7, 8, 9, 10, 11, 12, 13] [] shE1 mE1 sE1
/-! The points of a line. -/
def shE2 : Hx.S1 := ⟨141, [(1, U8), (5, .bool), (6, .lst 44), (7, I64), (8, I64), (9, .ptr 0 1 0 0), (10, .ptr 1 1 0 0), (11, I64)], [.onef 44 8 wayX, .onef 44 8 wayX]⟩
abbrev lE2 (t : Int) (u f : Bool) (ws : List PV) (i k n : Int) (a1 : Int) (a2 : Bool) (A : List PV) (a3 : Int) (a4 a5 : ByteArray) (a6 : Bool) (a7 a8 : Int) (b1 : Int) (b2 : Bool) (B : List PV) (b3 : Int) (b4 b5 : ByteArray) (b6 : Bool) (b7 b8 : Int) : LS := ([.i t, .b u, .l f ws, .i i, .i k, .i n], [.i a1, .l a2 A, .i a3, .s a4, .s a5, .b a6, .i a7, .i a8, .i b1, .l b2 B, .i b3, .s b4, .s b5, .b b6, .i b7, .i b8])
/-- On the line, and where. -/
def onL (A B : List PV) (n : Int) : Bool := foldOn B (Hg.qX A n) (Hg.qY A n) 0 ((B.length : Int) - 1 - 0).toNat false
def eqN (A B : List PV) (n z : Int) : Bool := (Hg.qX A n == Hg.qX B z) && ((Hg.qY A n == Hg.qY B z) && true)
def tlN (A B : List PV) (n : Int) {α : Type} (ret nx : Option α) : Option α :=
  bif decide (0 < (B.length : Int)) then bif !eqN A B n 0 then bif inr B (W ((B.length : Int) - 1)) then bif !eqN A B n (W ((B.length : Int) - 1)) then ret else nx else none else nx else none
theorem qE2 (t : Int) (u f : Bool) (ws : List PV) (i k n : Int) (a1 : Int) (a2 : Bool) (A : List PV) (a3 : Int) (a4 a5 : ByteArray) (a6 : Bool) (a7 a8 : Int) (b1 : Int) (b2 : Bool) (B : List PV) (b3 : Int) (b4 b5 : ByteArray) (b6 : Bool) (b7 b8 : Int) :
  runB Tryz.prog Y3 60 4 (lpb Tryz.f4 13) [1, 5, 6, 7, 8, 9, 10, 11] [1, 5, 6, 7, 8] (shE2.put (lE2 t u f ws i k n a1 a2 A a3 a4 a5 a6 a7 a8 b1 b2 B b3 b4 b5 b6 b7 b8)).1 (shE2.put (lE2 t u f ws i k n a1 a2 A a3 a4 a5 a6 a7 a8 b1 b2 B b3 b4 b5 b6 b7 b8)).2 =
  bif decide (n < (A.length : Int)) then bif a3 == b3 then bif inr A n then bif pE1 (lE1 t u f ws i k n false 0 a1 a2 A a3 a4 a5 a6 a7 a8 b1 b2 B b3 b4 b5 b6 b7 b8 (Hg.qX A n) (Hg.qY A n)) then bif onL A B n then
      bif decide (n > 0) then bif decide (W (n + 1) < (A.length : Int)) then some (.ret, tm 141 [(1, tu t), (5, bv u), (6, .lst f 44 ws), (7, iv i), (8, iv k)], (shE2.put (lE2 t u f ws i k 0 a1 a2 A a3 a4 a5 a6 a7 a8 b1 b2 B b3 b4 b5 b6 b7 b8)).2) else tlN A B n (some (.ret, tm 141 [(1, tu t), (5, bv u), (6, .lst f 44 ws), (7, iv i), (8, iv k)], (shE2.put (lE2 t u f ws i k 0 a1 a2 A a3 a4 a5 a6 a7 a8 b1 b2 B b3 b4 b5 b6 b7 b8)).2)) (some (.normal, shE2.put (lE2 t u f ws i k (W (n + 1)) a1 a2 A a3 a4 a5 a6 a7 a8 b1 b2 B b3 b4 b5 b6 b7 b8)))
      else tlN A B n (some (.ret, tm 141 [(1, tu t), (5, bv u), (6, .lst f 44 ws), (7, iv i), (8, iv k)], (shE2.put (lE2 t u f ws i k 0 a1 a2 A a3 a4 a5 a6 a7 a8 b1 b2 B b3 b4 b5 b6 b7 b8)).2)) (some (.normal, shE2.put (lE2 t u f ws i k (W (n + 1)) a1 a2 A a3 a4 a5 a6 a7 a8 b1 b2 B b3 b4 b5 b6 b7 b8)))
    else some (.normal, shE2.put (lE2 t u f ws i k (W (n + 1)) a1 a2 A a3 a4 a5 a6 a7 a8 b1 b2 B b3 b4 b5 b6 b7 b8)) else none else none else some (.exit 4, tm 141 [(1, tu t), (5, bv u), (6, .lst f 44 ws), (7, iv i), (8, iv k)], (shE2.put (lE2 t u f ws i k 0 a1 a2 A a3 a4 a5 a6 a7 a8 b1 b2 B b3 b4 b5 b6 b7 b8)).2) else some (.exit 4, tm 141 [(1, tu t), (5, bv u), (6, .lst f 44 ws), (7, iv i), (8, iv k)], (shE2.put (lE2 t u f ws i k 0 a1 a2 A a3 a4 a5 a6 a7 a8 b1 b2 B b3 b4 b5 b6 b7 b8)).2) := by kernel_rfl
end Go.Hn
/- Network: NetworkFine's loops as contracts (printed by genxh.py). -/
namespace Go.Hn
open Go.Hx Go.Hg Go.Proofs
/-- A point that must not be there. -/
def badN (A B : List PV) (n : Int) : Bool := onL A B n && ((decide (n > 0) && decide (n + 1 < (A.length : Int))) || (!eqN A B n 0 && !eqN A B n ((B.length : Int) - 1)))
def allN (A B : List PV) : Int → Nat → Bool
  | _, 0 => true
  | n, m + 1 => !badN A B n && allN A B (n + 1) m
def okAB (a3 b3 : Int) (A B : List PV) (n : Int) : Bool := bif a3 == b3 then allN A B n ((A.length : Int) - n).toNat else true
def pE2 : LS → Bool
  | ([.i _, .b _, .l _ _, .i _, .i _, .i n], [.i _, .l _ A, .i _, .s _, .s _, .b _, .i _, .i _, .i _, .l _ B, .i _, .s _, .s _, .b _, .i _, .i _]) => decide (0 ≤ n) && decide (n ≤ (A.length : Int)) && decide (0 < (B.length : Int)) && big B && big A
  | _ => false
noncomputable def fE2 : LS → DT (PX × List PV × List Row)
  | ([.i t, .b u, .l f ws, .i i, .i k, .i n], [.i a1, .l a2 A, .i a3, .s a4, .s a5, .b a6, .i a7, .i a8, .i b1, .l b2 B, .i b3, .s b4, .s b5, .b b6, .i b7, .i b8]) => .br (okAB a3 b3 A B n) (.leaf (.exit 4, tm 141 [(1, tu t), (5, bv u), (6, .lst f 44 ws), (7, iv i), (8, iv k)], (shE2.put (lE2 t u f ws i k 0 a1 a2 A a3 a4 a5 a6 a7 a8 b1 b2 B b3 b4 b5 b6 b7 b8)).2)) .no
  | _ => .no
def mE2 : LS → Nat
  | ([.i _, .b _, .l _ _, .i _, .i _, .i n], [.i _, .l _ A, .i _, .s _, .s _, .b _, .i _, .i _, .i _, .l _ B, .i _, .s _, .s _, .b _, .i _, .i _]) => ((A.length : Int) - n).toNat + 0 * B.length
  | _ => 0
theorem tlN_of {A B : List PV} {n : Int} (h : 0 < (B.length : Int)) (h2 : B.length ≤ 1000000) {α : Type} (ret nx : Option α) : tlN A B n ret nx = bif !eqN A B n 0 && !eqN A B n ((B.length : Int) - 1) then ret else nx := by
  unfold tlN
  rw [decide_eq_true h, W_id (n := (B.length : Int) - 1) (by omega) (by omega), inr_of (by omega) (by omega)]
  cases eqN A B n 0 <;> cases eqN A B n ((B.length : Int) - 1) <;> rfl
theorem sE2 : ∀ s r, pE2 s = true → (fE2 s).run = some r → r.1 ≠ .normal ∧ (runB Tryz.prog Y3 60 4 (lpb Tryz.f4 13) [1, 5, 6, 7, 8, 9, 10, 11] [1, 5, 6, 7, 8] (shE2.put s).1 (shE2.put s).2 = some r ∨
      ∃ s', runB Tryz.prog Y3 60 4 (lpb Tryz.f4 13) [1, 5, 6, 7, 8, 9, 10, 11] [1, 5, 6, 7, 8] (shE2.put s).1 (shE2.put s).2 = some (.normal, shE2.put s') ∧ pE2 s' = true ∧ mE2 s' < mE2 s ∧ (fE2 s').run = some r) := by
  intro t r hp hr
  unfold pE2 at hp; split at hp
  · rename_i t u f ws i k n a1 a2 A a3 a4 a5 a6 a7 a8 b1 b2 B b3 b4 b5 b6 b7 b8
    simp only [Bool.and_eq_true, decide_eq_true_eq] at hp
    obtain ⟨⟨⟨⟨h1, h0⟩, h4⟩, h2⟩, h3⟩ := hp
    obtain ⟨ha, hr'⟩ := run_br hr
    replace hr' := hr'.symm
    refine ⟨by rw [hr']; simp, ?_⟩
    rw [show shE2.put ([.i t, .b u, .l f ws, .i i, .i k, .i n], [.i a1, .l a2 A, .i a3, .s a4, .s a5, .b a6, .i a7, .i a8, .i b1, .l b2 B, .i b3, .s b4, .s b5, .b b6, .i b7, .i b8]) = shE2.put (lE2 t u f ws i k n a1 a2 A a3 a4 a5 a6 a7 a8 b1 b2 B b3 b4 b5 b6 b7 b8) from rfl, qE2]
    by_cases hn : n < (A.length : Int)
    · rw [decide_eq_true hn, cond_true]
      cases hl : a3 == b3 with
      | false => exact .inl (by rw [hr']; rfl)
      | true =>
        unfold okAB at ha
        rw [hl, cond_true] at ha
        obtain ⟨j, hj⟩ : ∃ j, ((A.length : Int) - n).toNat = j + 1 := ⟨((A.length : Int) - n).toNat - 1, by omega⟩
        have hj2 : ((A.length : Int) - (n + 1)).toNat = j := by omega
        rw [hj] at ha
        unfold allN badN at ha
        simp only [Bool.and_eq_true, Bool.not_eq_true'] at ha
        obtain ⟨a1', a2'⟩ := ha
        rw [cond_true, inr_of h1 hn, W_id (n := n + 1) (by omega) (by omega), tlN_of h4 h2, show pE1 (lE1 t u f ws i k n false 0 a1 a2 A a3 a4 a5 a6 a7 a8 b1 b2 B b3 b4 b5 b6 b7 b8 (Hg.qX A n) (Hg.qY A n)) = true by simp only [pE1, Bool.and_eq_true, decide_eq_true_eq]; exact ⟨⟨⟨Int.le_refl _, by omega⟩, h2⟩, h3⟩]
        refine .inr ⟨lE2 t u f ws i k (n + 1) a1 a2 A a3 a4 a5 a6 a7 a8 b1 b2 B b3 b4 b5 b6 b7 b8, ?_, by simp only [pE2, Bool.and_eq_true, decide_eq_true_eq]; exact ⟨⟨⟨⟨by omega, by omega⟩, h4⟩, h2⟩, h3⟩, by simp only [mE2]; omega, ?_⟩
        · cases ho : onL A B n with
          | false => rfl
          | true =>
            rw [ho, Bool.true_and, Bool.or_eq_false_iff] at a1'
            obtain ⟨c1, c2⟩ := a1'
            rw [c2]
            cases hn0 : decide (n > 0) with
            | false => rfl
            | true =>
              rw [hn0, Bool.true_and] at c1
              rw [c1]; rfl
        · rw [hr']
          simp only [fE2, okAB, hl, hj2, a2', cond_true]; rfl
    · rw [decide_eq_false hn]
      exact .inl (by rw [hr']; rfl)
  · cases hp
noncomputable def Y4 : EnvK := Y3.addW 4 13 [1, 5, 6, 7, 8, 9, 10, 11] [] shE2 pE2 fE2
theorem okY4 : EnvOK Tryz.prog Y4.env :=
  okY3.addW (n := 60) Tryz.func4 (show Tryz.f4.body = some (bod Tryz.f4) by kernel_rfl) (show (loops (bod Tryz.f4)).filter (fun b => rid b == 13) = [lpb Tryz.f4 13] by kernel_rfl) [1, 5, 6, 7, 8, 9, 10, 11] [1, 5, 6, 7, 8] [] shE2 mE2 sE2
/-! Two ways. -/
def shE3 : Hx.S1 := ⟨141, [(1, U8), (5, .bool), (6, .lst 44), (7, I64), (8, I64)], []⟩
abbrev lE3 (t : Int) (u f : Bool) (ws : List PV) (i k : Int) : LS := ([.i t, .b u, .l f ws, .i i, .i k], [])
theorem qE3 (t : Int) (u f : Bool) (ws : List PV) (i k : Int) : runB Tryz.prog Y4 60 4 (lpb Tryz.f4 9) [1, 5, 6, 7, 8] [1, 5, 6, 7] (shE3.put (lE3 t u f ws i k)).1 (shE3.put (lE3 t u f ws i k)).2 =
  bif decide (k < i) then bif inr ws i then bif inr ws k then bif pE2 (lE2 t u f ws i k 0 (wI (ws.getD i.toNat .any)) false (wL (ws.getD i.toNat .any)) (wLv (ws.getD i.toNat .any)) (((ws.getD i.toNat .any).cellAt 3).getS) (((ws.getD i.toNat .any).cellAt 4).getS) (((ws.getD i.toNat .any).cellAt 5).getB) (wWt (ws.getD i.toNat .any)) (((ws.getD i.toNat .any).cellAt 7).getI) (wI (ws.getD k.toNat .any)) false (wL (ws.getD k.toNat .any)) (wLv (ws.getD k.toNat .any)) (((ws.getD k.toNat .any).cellAt 3).getS) (((ws.getD k.toNat .any).cellAt 4).getS) (((ws.getD k.toNat .any).cellAt 5).getB) (wWt (ws.getD k.toNat .any)) (((ws.getD k.toNat .any).cellAt 7).getI)) then bif okAB (wLv (ws.getD i.toNat .any)) (wLv (ws.getD k.toNat .any)) (wL (ws.getD i.toNat .any)) (wL (ws.getD k.toNat .any)) 0 then
    some (.normal, shE3.put (lE3 t u f ws i (W (k + 1)))) else none else none else none else none
  else some (.exit 2, tm 141 [(1, tu t), (5, bv u), (6, .lst f 44 ws), (7, iv i)], []) := by kernel_rfl
def prOK (ws : List PV) (i k : Int) : Bool := okAB (wLv (ws.getD i.toNat .any)) (wLv (ws.getD k.toNat .any)) (wL (ws.getD i.toNat .any)) (wL (ws.getD k.toNat .any)) 0
def allP (ws : List PV) (i : Int) : Int → Nat → Bool
  | _, 0 => true
  | k, n + 1 => prOK ws i k && allP ws i (k + 1) n
/-- All lines have points. -/
def okP (ws : List PV) : Bool := okB ws && ws.all fun e => decide (0 < (wL e).length)
theorem okP_at {ws : List PV} (h : okP ws = true) {i : Int} (h1 : 0 ≤ i) (h2 : i < (ws.length : Int)) : 0 < (wL (ws.getD i.toNat .any)).length ∧ (wL (ws.getD i.toNat .any)).length ≤ 1000000 := by
  unfold okP at h
  rw [Bool.and_eq_true] at h
  refine ⟨?_, of_decide_eq_true (okB_at h.1 h1 h2)⟩
  rw [List.getD_eq_getElem?_getD, List.getElem?_eq_getElem (by omega)]
  exact of_decide_eq_true (List.all_eq_true.1 h.2 _ (List.getElem_mem (l := ws) (n := i.toNat) (by omega)))
def pE3 : LS → Bool
  | ([.i _, .b _, .l _ ws, .i i, .i k], []) => decide (0 ≤ k) && decide (i < (ws.length : Int)) && okP ws
  | _ => false
noncomputable def fE3 : LS → DT (PX × List PV × List Row)
  | ([.i t, .b u, .l f ws, .i i, .i k], []) => .br (allP ws i k (i - k).toNat) (.leaf (.exit 2, tm 141 [(1, tu t), (5, bv u), (6, .lst f 44 ws), (7, iv i)], [])) .no
  | _ => .no
def mE3 : LS → Nat
  | ([.i _, .b _, .l _ _, .i i, .i k], []) => (i - k).toNat
  | _ => 0
theorem sE3 : ∀ s r, pE3 s = true → (fE3 s).run = some r → r.1 ≠ .normal ∧ (runB Tryz.prog Y4 60 4 (lpb Tryz.f4 9) [1, 5, 6, 7, 8] [1, 5, 6, 7] (shE3.put s).1 (shE3.put s).2 = some r ∨
      ∃ s', runB Tryz.prog Y4 60 4 (lpb Tryz.f4 9) [1, 5, 6, 7, 8] [1, 5, 6, 7] (shE3.put s).1 (shE3.put s).2 = some (.normal, shE3.put s') ∧ pE3 s' = true ∧ mE3 s' < mE3 s ∧ (fE3 s').run = some r) := by
  intro t r hp hr
  unfold pE3 at hp; split at hp
  · rename_i t u f ws i k
    simp only [Bool.and_eq_true, decide_eq_true_eq] at hp
    obtain ⟨⟨h1, h2⟩, h3⟩ := hp
    obtain ⟨ha, hr'⟩ := run_br hr
    replace hr' := hr'.symm
    refine ⟨by rw [hr']; simp, ?_⟩
    have hb : ws.length ≤ 1000000 := by unfold okP at h3; rw [Bool.and_eq_true] at h3; exact okB_len h3.1
    rw [show shE3.put ([.i t, .b u, .l f ws, .i i, .i k], []) = shE3.put (lE3 t u f ws i k) from rfl, qE3]
    by_cases hk : k < i
    · obtain ⟨j, hj⟩ : ∃ j, (i - k).toNat = j + 1 := ⟨(i - k).toNat - 1, by omega⟩
      have hj2 : (i - (k + 1)).toNat = j := by omega
      rw [hj] at ha
      unfold allP prOK at ha
      rw [Bool.and_eq_true] at ha
      obtain ⟨p1, p2⟩ := okP_at h3 (show 0 ≤ i by omega) h2
      obtain ⟨p3, p4⟩ := okP_at h3 h1 (show k < (ws.length : Int) by omega)
      rw [decide_eq_true hk, cond_true, inr_of (by omega) h2, inr_of h1 (by omega), W_id (n := k + 1) (by omega) (by omega), ha.1,
        show pE2 (lE2 t u f ws i k 0 (wI (ws.getD i.toNat .any)) false (wL (ws.getD i.toNat .any)) (wLv (ws.getD i.toNat .any)) (((ws.getD i.toNat .any).cellAt 3).getS) (((ws.getD i.toNat .any).cellAt 4).getS) (((ws.getD i.toNat .any).cellAt 5).getB) (wWt (ws.getD i.toNat .any)) (((ws.getD i.toNat .any).cellAt 7).getI) (wI (ws.getD k.toNat .any)) false (wL (ws.getD k.toNat .any)) (wLv (ws.getD k.toNat .any)) (((ws.getD k.toNat .any).cellAt 3).getS) (((ws.getD k.toNat .any).cellAt 4).getS) (((ws.getD k.toNat .any).cellAt 5).getB) (wWt (ws.getD k.toNat .any)) (((ws.getD k.toNat .any).cellAt 7).getI)) = true by simp only [pE2, Bool.and_eq_true, decide_eq_true_eq]; exact ⟨⟨⟨⟨Int.le_refl _, by omega⟩, by omega⟩, p4⟩, p2⟩]
      refine .inr ⟨lE3 t u f ws i (k + 1), rfl, by simp only [pE3, Bool.and_eq_true, decide_eq_true_eq]; exact ⟨⟨by omega, h2⟩, h3⟩, by simp only [mE3]; omega, ?_⟩
      rw [hr']; simp only [fE3, hj2, ha.2]; rfl
    · rw [decide_eq_false hk]
      exact .inl (by rw [hr']; rfl)
  · cases hp
noncomputable def Y5 : EnvK := Y4.addW 4 9 [1, 5, 6, 7, 8] [] shE3 pE3 fE3
theorem okY5 : EnvOK Tryz.prog Y5.env :=
  okY4.addW (n := 60) Tryz.func4 (show Tryz.f4.body = some (bod Tryz.f4) by kernel_rfl) (show (loops (bod Tryz.f4)).filter (fun b => rid b == 9) = [lpb Tryz.f4 9] by kernel_rfl) [1, 5, 6, 7, 8] [1, 5, 6, 7] [] shE3 mE3 sE3
/-! All ways. -/
def shE4 : Hx.S1 := ⟨141, [(1, U8), (5, .bool), (6, .lst 44), (7, I64)], []⟩
abbrev lE4 (t : Int) (u f : Bool) (ws : List PV) (i : Int) : LS := ([.i t, .b u, .l f ws, .i i], [])
theorem qE4 (t : Int) (u f : Bool) (ws : List PV) (i : Int) : runB Tryz.prog Y5 60 4 (lpb Tryz.f4 6) [1, 5, 6, 7] [1, 5, 6] (shE4.put (lE4 t u f ws i)).1 (shE4.put (lE4 t u f ws i)).2 =
  bif decide (i < (ws.length : Int)) then bif pE3 (lE3 t u f ws i 0) then bif allP ws i 0 (i - 0).toNat then some (.normal, shE4.put (lE4 t u f ws (W (i + 1)))) else none else none
  else some (.exit 0, tm 141 [(1, tu t), (5, bv u), (6, .lst f 44 ws)], []) := by kernel_rfl
def allQ (ws : List PV) : Int → Nat → Bool
  | _, 0 => true
  | i, n + 1 => allP ws i 0 i.toNat && allQ ws (i + 1) n
def pE4 : LS → Bool
  | ([.i _, .b _, .l _ ws, .i i], []) => decide (0 ≤ i) && okP ws
  | _ => false
noncomputable def fE4 : LS → DT (PX × List PV × List Row)
  | ([.i t, .b u, .l f ws, .i i], []) => .br (allQ ws i ((ws.length : Int) - i).toNat) (.leaf (.exit 0, tm 141 [(1, tu t), (5, bv u), (6, .lst f 44 ws)], [])) .no
  | _ => .no
def mE4 : LS → Nat
  | ([.i _, .b _, .l _ ws, .i i], []) => ((ws.length : Int) - i).toNat
  | _ => 0
theorem sE4 : ∀ s r, pE4 s = true → (fE4 s).run = some r → r.1 ≠ .normal ∧ (runB Tryz.prog Y5 60 4 (lpb Tryz.f4 6) [1, 5, 6, 7] [1, 5, 6] (shE4.put s).1 (shE4.put s).2 = some r ∨
      ∃ s', runB Tryz.prog Y5 60 4 (lpb Tryz.f4 6) [1, 5, 6, 7] [1, 5, 6] (shE4.put s).1 (shE4.put s).2 = some (.normal, shE4.put s') ∧ pE4 s' = true ∧ mE4 s' < mE4 s ∧ (fE4 s').run = some r) := by
  intro t r hp hr
  unfold pE4 at hp; split at hp
  · rename_i t u f ws i
    simp only [Bool.and_eq_true, decide_eq_true_eq] at hp
    obtain ⟨h1, h3⟩ := hp
    obtain ⟨ha, hr'⟩ := run_br hr
    replace hr' := hr'.symm
    refine ⟨by rw [hr']; simp, ?_⟩
    have hb : ws.length ≤ 1000000 := by unfold okP at h3; rw [Bool.and_eq_true] at h3; exact okB_len h3.1
    rw [show shE4.put ([.i t, .b u, .l f ws, .i i], []) = shE4.put (lE4 t u f ws i) from rfl, qE4]
    by_cases hi : i < (ws.length : Int)
    · obtain ⟨j, hj⟩ : ∃ j, ((ws.length : Int) - i).toNat = j + 1 := ⟨((ws.length : Int) - i).toNat - 1, by omega⟩
      have hj2 : ((ws.length : Int) - (i + 1)).toNat = j := by omega
      rw [hj] at ha
      unfold allQ at ha
      rw [Bool.and_eq_true] at ha
      rw [decide_eq_true hi, cond_true, W_id (n := i + 1) (by omega) (by omega), show (i - 0).toNat = i.toNat by omega, ha.1, show pE3 (lE3 t u f ws i 0) = true by simp only [pE3, Bool.and_eq_true, decide_eq_true_eq]; exact ⟨⟨Int.le_refl _, hi⟩, h3⟩]
      refine .inr ⟨lE4 t u f ws (i + 1), rfl, by simp only [pE4, Bool.and_eq_true, decide_eq_true_eq]; exact ⟨by omega, h3⟩, by simp only [mE4]; omega, ?_⟩
      rw [hr']; simp only [fE4, hj2, ha.2]; rfl
    · rw [decide_eq_false hi]
      exact .inl (by rw [hr']; rfl)
  · cases hp
noncomputable def Y6 : EnvK := Y5.addW 4 6 [1, 5, 6, 7] [] shE4 pE4 fE4
theorem okY6 : EnvOK Tryz.prog Y6.env :=
  okY5.addW (n := 60) Tryz.func4 (show Tryz.f4.body = some (bod Tryz.f4) by kernel_rfl) (show (loops (bod Tryz.f4)).filter (fun b => rid b == 6) = [lpb Tryz.f4 6] by kernel_rfl) [1, 5, 6, 7] [1, 5, 6] [] shE4 mE4 sE4
end Go.Hn
/- Network: SameGroups of equal lists, as a contract. -/
namespace Go.Hn
open Go.Hx Go.Hg Go.Proofs
def shS1 : Hx.S1 := ⟨53, [(0, .lst 22), (1, .lst 22), (5, I64), (6, I64)], []⟩
abbrev lS1 (g : Bool) (G : List PV) (h : Bool) (F : List PV) (i k : Int) : LS := ([.l g G, .l h F, .i i, .i k], [])
abbrev tS1 (g : Bool) (G : List PV) (h : Bool) (F : List PV) (i : Int) : List PV := tm 53 [(0, .lst g 22 G), (1, .lst h 22 F), (5, iv i)]
theorem qS1 (g : Bool) (G : List PV) (h : Bool) (F : List PV) (i k : Int) : runB Tryz.prog Y2 60 15 (lpb Tryz.f15 9) [0, 1, 5, 6] [0, 1, 5] (shS1.put (lS1 g G h F i k)).1 (shS1.put (lS1 g G h F i k)).2 =
  bif inr G i then bif decide (k < ((gA G i).length : Int)) then bif inr G i then bif inr (gA G i) k then bif inr F i then bif inr (gA F i) k then
    bif nI (gA G i) k != nI (gA F i) k then some (.ret, tS1 g G h F i, []) else some (.normal, shS1.put (lS1 g G h F i (W (k + 1)))) else none else none else none else none
  else some (.exit 2, tS1 g G h F i, []) else none := by kernel_rfl
noncomputable def pS1 : LS → Bool
  | ([.l _ G, .l _ F, .i i, .i k], []) => decide (0 ≤ i) && decide (i < (G.length : Int)) && decide (i < (F.length : Int)) && decide (0 ≤ k) && okG G && same (gA G i) (gA F i)
  | _ => false
def fS1 : LS → DT (PX × List PV × List Row)
  | ([.l g G, .l h F, .i i, .i _], []) => .leaf (.exit 2, tS1 g G h F i, [])
  | _ => .no
def mS1 : LS → Nat
  | ([.l _ G, .l _ _, .i i, .i k], []) => (((gA G i).length : Int) - k).toNat
  | _ => 0
theorem sS1 : ∀ s r, pS1 s = true → (fS1 s).run = some r → r.1 ≠ .normal ∧ (runB Tryz.prog Y2 60 15 (lpb Tryz.f15 9) [0, 1, 5, 6] [0, 1, 5] (shS1.put s).1 (shS1.put s).2 = some r ∨
      ∃ s', runB Tryz.prog Y2 60 15 (lpb Tryz.f15 9) [0, 1, 5, 6] [0, 1, 5] (shS1.put s).1 (shS1.put s).2 = some (.normal, shS1.put s') ∧ pS1 s' = true ∧ mS1 s' < mS1 s ∧ (fS1 s').run = some r) := by
  intro t r hp hr
  unfold pS1 at hp; split at hp
  · rename_i g G h F i k
    simp only [Bool.and_eq_true, decide_eq_true_eq, same_iff] at hp
    obtain ⟨⟨⟨⟨⟨h1, h2⟩, h3⟩, h4⟩, h5⟩, h6⟩ := hp
    have hr' := (Option.some.inj hr).symm
    refine ⟨by rw [hr']; simp, ?_⟩
    rw [show shS1.put ([.l g G, .l h F, .i i, .i k], []) = shS1.put (lS1 g G h F i k) from rfl, qS1, ← h6, inr_of h1 h2, inr_of h1 h3]
    have hG : bigN G = true := by unfold okG at h5; rw [Bool.and_eq_true] at h5; exact h5.2
    have hb := bigN_gA hG h1 h2
    by_cases hk : k < ((gA G i).length : Int)
    · rw [decide_eq_true hk, inr_of h4 hk, bne_self_eq_false, W_id (n := k + 1) (by omega) (by omega)]
      refine .inr ⟨lS1 g G h F i (k + 1), rfl, by simp only [pS1, Bool.and_eq_true, decide_eq_true_eq, same_iff]; exact ⟨⟨⟨⟨⟨h1, h2⟩, h3⟩, by omega⟩, h5⟩, h6⟩, by simp only [mS1]; omega, ?_⟩
      rw [hr']; rfl
    · rw [decide_eq_false hk]
      exact .inl (by rw [hr']; rfl)
  · cases hp
noncomputable def Y7 : EnvK := Y2.addW 15 9 [0, 1, 5, 6] [] shS1 pS1 fS1
theorem okY7 : EnvOK Tryz.prog Y7.env :=
  okY2.addW (n := 60) Tryz.func15 (show Tryz.f15.body = some (bod Tryz.f15) by kernel_rfl) (show (loops (bod Tryz.f15)).filter (fun b => rid b == 9) = [lpb Tryz.f15 9] by kernel_rfl) [0, 1, 5, 6] [0, 1, 5] [] shS1 mS1 sS1
def shS2 : Hx.S1 := ⟨53, [(0, .lst 22), (1, .lst 22), (5, I64)], []⟩
abbrev lS2 (g : Bool) (G : List PV) (h : Bool) (F : List PV) (i : Int) : LS := ([.l g G, .l h F, .i i], [])
theorem qS2 (g : Bool) (G : List PV) (h : Bool) (F : List PV) (i : Int) : runB Tryz.prog Y7 60 15 (lpb Tryz.f15 4) [0, 1, 5] [] (shS2.put (lS2 g G h F i)).1 (shS2.put (lS2 g G h F i)).2 =
  bif decide (i < (G.length : Int)) then bif inr G i then bif inr F i then bif ((gA G i).length : Int) != ((gA F i).length : Int) then some (.ret, tm 53 [], []) else
    bif pS1 (lS1 g G h F i 0) then some (.normal, shS2.put (lS2 g G h F (W (i + 1)))) else none else none else none
  else some (.exit 0, tm 53 [], []) := by kernel_rfl
/-- Equal lists of lists. -/
noncomputable def sameG (G F : List PV) : Bool := decide (G.length = F.length) && same (G.map eL) (F.map eL)
noncomputable def pS2 : LS → Bool
  | ([.l _ G, .l _ F, .i i], []) => decide (0 ≤ i) && okG G && sameG G F
  | _ => false
def fS2 : LS → DT (PX × List PV × List Row)
  | ([.l _ _, .l _ _, .i _], []) => .leaf (.exit 0, tm 53 [], [])
  | _ => .no
def mS2 : LS → Nat
  | ([.l _ G, .l _ _, .i i], []) => ((G.length : Int) - i).toNat
  | _ => 0
theorem sameG_at {G F : List PV} (h : sameG G F = true) {i : Int} (h1 : 0 ≤ i) (h2 : i < (G.length : Int)) : i < (F.length : Int) ∧ gA G i = gA F i := by
  unfold sameG at h
  rw [Bool.and_eq_true, decide_eq_true_eq, same_iff] at h
  obtain ⟨hl, hm⟩ := h
  refine ⟨by omega, ?_⟩
  have : (G.map eL)[i.toNat]? = (F.map eL)[i.toNat]? := by rw [hm]
  rw [List.getElem?_map, List.getElem?_map, List.getElem?_eq_getElem (by omega), List.getElem?_eq_getElem (by omega)] at this
  unfold gA
  rw [List.getD_eq_getElem?_getD, List.getD_eq_getElem?_getD, List.getElem?_eq_getElem (by omega), List.getElem?_eq_getElem (by omega)]
  exact Option.some.inj this
theorem sS2 : ∀ s r, pS2 s = true → (fS2 s).run = some r → r.1 ≠ .normal ∧ (runB Tryz.prog Y7 60 15 (lpb Tryz.f15 4) [0, 1, 5] [] (shS2.put s).1 (shS2.put s).2 = some r ∨
      ∃ s', runB Tryz.prog Y7 60 15 (lpb Tryz.f15 4) [0, 1, 5] [] (shS2.put s).1 (shS2.put s).2 = some (.normal, shS2.put s') ∧ pS2 s' = true ∧ mS2 s' < mS2 s ∧ (fS2 s').run = some r) := by
  intro t r hp hr
  unfold pS2 at hp; split at hp
  · rename_i g G h F i
    simp only [Bool.and_eq_true, decide_eq_true_eq] at hp
    obtain ⟨⟨h1, h5⟩, h6⟩ := hp
    have hr' := (Option.some.inj hr).symm
    refine ⟨by rw [hr']; simp, ?_⟩
    rw [show shS2.put ([.l g G, .l h F, .i i], []) = shS2.put (lS2 g G h F i) from rfl, qS2]
    have hG : G.length ≤ 1000000 := by unfold okG at h5; rw [Bool.and_eq_true, decide_eq_true_eq] at h5; exact h5.1
    by_cases hi : i < (G.length : Int)
    · obtain ⟨h2, h3⟩ := sameG_at h6 h1 hi
      rw [decide_eq_true hi, inr_of h1 hi, inr_of h1 h2, ← h3, bne_self_eq_false, W_id (n := i + 1) (by omega) (by omega),
        show pS1 (lS1 g G h F i 0) = true by simp only [pS1, Bool.and_eq_true, decide_eq_true_eq, same_iff]; exact ⟨⟨⟨⟨⟨h1, hi⟩, h2⟩, Int.le_refl _⟩, h5⟩, h3⟩]
      refine .inr ⟨lS2 g G h F (i + 1), rfl, by simp only [pS2, Bool.and_eq_true, decide_eq_true_eq]; exact ⟨⟨by omega, h5⟩, h6⟩, by simp only [mS2]; omega, ?_⟩
      rw [hr']; rfl
    · rw [decide_eq_false hi]
      exact .inl (by rw [hr']; rfl)
  · cases hp
noncomputable def Y8 : EnvK := Y7.addW 15 4 [0, 1, 5] [] shS2 pS2 fS2
theorem okY8 : EnvOK Tryz.prog Y8.env :=
  okY7.addW (n := 60) Tryz.func15 (show Tryz.f15.body = some (bod Tryz.f15) by kernel_rfl) (show (loops (bod Tryz.f15)).filter (fun b => rid b == 4) = [lpb Tryz.f15 4] by kernel_rfl) [0, 1, 5] [] [] shS2 mS2 sS2
theorem qSame (g : Bool) (G : List PV) (h : Bool) (F : List PV) : runP Tryz.prog Y8 60 15 [.lst g 22 G, .lst h 22 F] =
  bif (G.length : Int) != (F.length : Int) then some (bv false) else bif pS2 (lS2 g G h F 0) then some (bv true) else none := by kernel_rfl
theorem qSame' (g : Bool) {G : List PV} (h : Bool) {F : List PV} (h1 : (okG G && sameG G F) = true) : runP Tryz.prog Y8 60 15 [.lst g 22 G, .lst h 22 F] = some (bv true) := by
  rw [Bool.and_eq_true] at h1
  have hl : G.length = F.length := by have := h1.2; unfold sameG at this; rw [Bool.and_eq_true, decide_eq_true_eq] at this; exact this.1
  rw [qSame, hl, bne_self_eq_false, show pS2 (lS2 g G h F 0) = true by simp only [pS2, Bool.and_eq_true, decide_eq_true_eq]; exact ⟨⟨Int.le_refl _, h1.1⟩, h1.2⟩]
  rfl
noncomputable def cSame : List PV → Option (DT PV)
  | [.lst _ 22 G, .lst _ 22 F] => some (.br (okG G && sameG G F) (.leaf (bv true)) .no)
  | _ => none
theorem eSame : Hx.Enters Tryz.prog 15 := (runP_sound okY8 (n := 60) (qSame' true (G := []) true (F := []) (by unfold sameG; rw [same_self]; rfl))).1
theorem oSame (args : List PV) (d : DT PV) (r : PV) (h : cSame args = some d) (hr : d.run = some r) : PCall Tryz.prog 15 args r := by
  unfold cSame at h; split at h
  · cases h
    obtain ⟨h1, rfl⟩ := run_br hr
    exact (runP_sound okY8 (n := 60) (qSame' _ _ h1)).2
  · cases h
end Go.Hn
/- Network: NetworkFine as a plain function. -/
namespace Go.Hn
open Go.Hx Go.Hg Go.Proofs
noncomputable def Y9 : EnvK := (Y6.addF 15 cSame).addFin2 Tryz.prog 16 0 cGrp
theorem okY9 : EnvOK Tryz.prog Y9.env := (okY6.addF eSame oSame).addFin2 eGrp oGrp
/-- Where the list is turned. -/
def tnI (ws : List PV) (t : Int) : Int := Int.tmod (W t) (W ((ws.length : Int) + 1))
def tD1 (ws : List PV) (t : Int) : List PV := (ws.take (ws.length : Int).toNat).drop (tnI ws t).toNat
def tD2 (ws : List PV) (t : Int) : List PV := (ws.take (tnI ws t).toNat).drop (0 : Int).toNat
def tNl (ws : List PV) (t : Int) : Nat := 0 + (tD1 ws t).length + (tD2 ws t).length
def tRs (ws : List PV) (t : Int) : List PV := (([] ++ tD1 ws t) ++ tD2 ws t)
def tL (ws : List PV) (t : Int) : List PV := ((tRs ws t).drop 0).take (tNl ws t)
theorem qNF (f : Bool) (L : List PV) (t : Int) : runP Tryz.prog Y9 100 4 [.lst f 3 L, tu t] =
  bif okB (fineW L) then bif chkF (fineW L) != 0 then some (bv false) else bif pE4 (lE4 t true false (fineW L) 0) then bif allQ (fineW L) 0 (((fineW L).length : Int) - 0).toNat then
    bif !decide (W (((fineW L).length : Int) + 1) = 0) then bif decide (0 ≤ tnI (fineW L) t) && decide (tnI (fineW L) t ≤ ((fineW L).length : Int)) && decide (((fineW L).length : Int) ≤ ((fineW L).length : Int)) then
    bif decide ((0 + (tD1 (fineW L) t).length) * 96 ≤ 140737488355328) then bif decide ((0 : Int) ≤ 0) && decide (0 ≤ tnI (fineW L) t) && decide (tnI (fineW L) t ≤ ((fineW L).length : Int)) then
    bif decide ((tD1 (fineW L) t).length = 0 + (tD1 (fineW L) t).length) && decide (0 + (tD1 (fineW L) t).length = 0 + (tD1 (fineW L) t).length) && decide (tNl (fineW L) t * 96 ≤ 140737488355328) then
    bif okW (fineW L) then bif (tRs (fineW L) t).length == tNl (fineW L) t then bif ((tRs (fineW L) t).length == tNl (fineW L) t) && true then bif okW (tL (fineW L) t) then
      bif okG (grpL (fineW L)) && sameG (grpL (fineW L)) (grpL (tL (fineW L) t)) then some (bv true) else none else none else none else none else none
    else none else none else none else none else none else none else none else none := by kernel_rfl
end Go.Hn
/- Network: plain law: the same connections make the same groups. -/
namespace Go.Hn
open Go.Hx Go.Hg Go.Proofs
theorem gls_nodup2 {R : S3 → S3} {A : List S3} {ws : List PV} (hI : (ws.map wI).Nodup) (hA : A.Nodup) (hm : ∀ a, a ∈ A ↔ ∃ e ∈ ws, R (stA3 e) = a) : (gls R A ws).Nodup := by
  have h := (List.pairwise_flatten.1 (gls_nodup (R := R) hI hA)).2
  refine (List.Pairwise.and_mem.1 h).imp fun {l r} ⟨hl, _, hlr⟩ => ?_
  rintro rfl
  obtain ⟨a, ha, rfl⟩ := gls_mem.1 hl
  obtain ⟨e, he, h1⟩ := (hm a).1 ha
  have hx : wI e ∈ srtN (idsL R ws a) := srt_mem.2 ⟨e, he, h1, rfl⟩
  exact hlr _ hx _ hx rfl
/-- Two lists of ways with the same numbers, and the same connections among these. -/
structure SameC (R R' : S3 → S3) (ws ws' : List PV) : Prop where
  to : ∀ e ∈ ws, ∃ e' ∈ ws', wI e' = wI e
  back : ∀ e' ∈ ws', ∃ e ∈ ws, wI e = wI e'
  conn : ∀ e ∈ ws, ∀ d ∈ ws, ∀ e' ∈ ws', ∀ d' ∈ ws', wI e = wI e' → wI d = wI d' → (R (stA3 e) = R (stA3 d) ↔ R' (stA3 e') = R' (stA3 d'))
theorem SameC.symm {R R' : S3 → S3} {ws ws' : List PV} (h : SameC R R' ws ws') : SameC R' R ws' ws :=
  ⟨h.back, h.to, fun e he d hd e' he' d' hd' h1 h2 => (h.conn e' he' d' hd' e he d hd h1.symm h2.symm).symm⟩
theorem gls_sub {R R' : S3 → S3} {A A' : List S3} {ws ws' : List PV} (hI : (ws.map wI).Nodup) (hI' : (ws'.map wI).Nodup) (hm : ∀ a, a ∈ A ↔ ∃ e ∈ ws, R (stA3 e) = a) (hm' : ∀ a, a ∈ A' ↔ ∃ e ∈ ws', R' (stA3 e) = a) (h : SameC R R' ws ws') {l : List Int} (hl : l ∈ gls R A ws) : l ∈ gls R' A' ws' := by
  obtain ⟨a, ha, rfl⟩ := gls_mem.1 hl
  obtain ⟨e, he, rfl⟩ := (hm a).1 ha
  obtain ⟨e', he', hw⟩ := h.to e he
  refine gls_mem.2 ⟨R' (stA3 e'), (hm' _).2 ⟨e', he', rfl⟩, srtN_uniq ?_⟩
  refine (List.perm_ext_iff_of_nodup (List.Nodup.sublist (List.filter_sublist.map wI) hI) (List.Nodup.sublist (List.filter_sublist.map wI) hI')).2 fun x => ?_
  show x ∈ idsL R ws (R (stA3 e)) ↔ x ∈ idsL R' ws' (R' (stA3 e'))
  rw [mem_ids, mem_ids]
  constructor
  · rintro ⟨d, hd, h1, rfl⟩
    obtain ⟨d', hd', hwd⟩ := h.to d hd
    exact ⟨d', hd', (h.conn d hd e he d' hd' e' he' hwd.symm hw.symm).1 h1, hwd⟩
  · rintro ⟨d', hd', h1, rfl⟩
    obtain ⟨d, hd, hwd⟩ := h.back d' hd'
    exact ⟨d, hd, (h.conn d hd e he d' hd' e' he' hwd hw.symm).2 h1, hwd⟩
theorem same_groups {ws ws' : List PV} (h : okW ws = true) (h' : okW ws' = true) (hI : (ws.map wI).Nodup) (hI' : (ws'.map wI).Nodup) (hc : ∀ R R', Top ws R → Top ws' R' → SameC R R' ws ws') : sameG (grpL ws) (grpL ws') = true := by
  obtain ⟨R, A, t, hA, hm, _, _, _, _, hg⟩ := grp_facts h
  obtain ⟨R', A', t', hA', hm', _, _, _, _, hg'⟩ := grp_facts h'
  have c := hc R R' t t'
  have hp : (gls R A ws).Perm (gls R' A' ws') := (List.perm_ext_iff_of_nodup (gls_nodup2 hI hA hm) (gls_nodup2 hI' hA' hm')).2 fun l => ⟨gls_sub hI hI' hm hm' c, gls_sub hI' hI hm' hm c.symm⟩
  have e : (grpL ws).map eL = (grpL ws').map eL := by
    show List.map eL (grpL ws) = List.map eL (grpL ws')
    rw [hg, hg', srtG_uniq hp]
  unfold sameG
  rw [Bool.and_eq_true, decide_eq_true_eq, same_iff]
  refine ⟨?_, e⟩
  have := congrArg List.length e
  simpa using this
/-- The order of ways plays no part. -/
theorem same_perm {ws ws' : List PV} (h : okW ws = true) (h' : okW ws' = true) (hI : (ws.map wI).Nodup) (hp : ws'.Perm ws) : sameG (grpL ws) (grpL ws') = true := by
  refine same_groups h h' hI (((hp.map wI).nodup_iff).2 hI) fun R R' t t' => ?_
  have mm : ∀ {e}, e ∈ ws' ↔ e ∈ ws := fun {e} => hp.mem_iff
  have r1 : ∀ s, R' (R s) = R' s := fun s => ((t.least (fun x => R' x = R' s) (fun e he => by rw [t'.one e (mm.2 he)]) s).2 rfl)
  have r2 : ∀ s, R (R' s) = R s := fun s => ((t'.least (fun x => R x = R s) (fun e he => by rw [t.one e (mm.1 he)]) s).2 rfl)
  refine ⟨fun e he => ⟨e, mm.2 he, rfl⟩, fun e he => ⟨e, mm.1 he, rfl⟩, fun e he d hd e' he' d' hd' h1 h2 => ?_⟩
  have e1 := ids_inj hI he (mm.1 he') h1
  have e2 := ids_inj hI hd (mm.1 hd') h2
  subst e1 e2
  exact ⟨fun x => by rw [← r1, x, r1], fun x => by rw [← r2, x, r2]⟩
end Go.Hn
/- Network: plain law: lines that do not cross have no point in common but ends. -/
namespace Go.Hn
open Go.Hx Go.Hg Go.Proofs
/-- Points near the origin. -/
def sml (e : PV) : Prop := ∃ x y : Int, e = ptv x y ∧ (-30 < x ∧ x < 30) ∧ (-30 < y ∧ y < 30)
theorem sml_at {es : List PV} (h : ∀ e ∈ es, sml e) {j : Int} (h0 : 0 ≤ j) (h1 : j < (es.length : Int)) : (-30 < Hg.qX es j ∧ Hg.qX es j < 30) ∧ (-30 < Hg.qY es j ∧ Hg.qY es j < 30) := by
  have hlt : j.toNat < es.length := by omega
  obtain ⟨x, y, he, hx, hy⟩ := h es[j.toNat] (List.getElem_mem hlt)
  have hg : es.getD j.toNat .any = ptv x y := by rw [List.getD_eq_getElem?_getD, List.getElem?_eq_getElem hlt, he]; rfl
  have e1 : Hg.qX es j = x := by unfold Hg.qX; rw [hg]; rfl
  have e2 : Hg.qY es j = y := by unfold Hg.qY; rw [hg]; rfl
  rw [e1, e2]; exact ⟨hx, hy⟩
theorem sml_bd {es : List PV} (h : ∀ e ∈ es, sml e) {j : Int} (h0 : 0 ≤ j) (h1 : j < (es.length : Int)) : bd (Hg.qX es j) (Hg.qY es j) := by
  have := sml_at h h0 h1
  omega
theorem sml_fin {es : List PV} (h : ∀ e ∈ es, sml e) : fin es = true := by
  unfold fin
  rw [Hg.allR_false]
  intro j hj
  have := sml_at h (j := 0 + (j : Int)) (by omega) (by omega)
  exact inB2_iff.2 ⟨by omega, by omega⟩
theorem spt_sml {d : Int} (h0 : 0 ≤ d) (h1 : d < 9) : sml (sptP d) := by
  have a1 : 0 ≤ Int.tmod d 3 := Int.tmod_nonneg _ h0
  have a2 : Int.tmod d 3 < 3 := Int.tmod_lt_of_pos _ (by omega)
  have b1 : 0 ≤ Int.tdiv d 3 := Int.tdiv_nonneg h0 (by omega)
  have b2 : Int.tdiv d 3 < 3 := by
    rw [Int.tdiv_eq_ediv_of_nonneg h0]; omega
  refine ⟨_, _, rfl, ?_, ?_⟩
  · rw [W_id (by omega) (by omega)]; omega
  · rw [W_id (n := Int.tdiv d 3) (by omega) (by omega), W_id (by omega) (by omega)]; omega
theorem cor_sml {g h : Int} (c1 : 0 ≤ g) (c2 : g < 2) (c3 : 0 ≤ h) (c4 : h < 2) : sml (ptv (W (5 + W (10 * g))) (W (5 + W (10 * h)))) := by
  refine ⟨_, _, rfl, ?_, ?_⟩
  · rw [W_id (n := 10 * g) (by omega) (by omega), W_id (by omega) (by omega)]; omega
  · rw [W_id (n := 10 * h) (by omega) (by omega), W_id (by omega) (by omega)]; omega
theorem mPs_sml (L : List PV) (a : Int) : ∀ e ∈ mPs L a, sml e := by
  have s1 := spt_sml (dI_ge L (a1 L a 0) (n := 9) (by omega)) (dI_lt L (a1 L a 0) (by omega))
  have s2 := spt_sml (dI_ge L (a1 L a 1) (n := 9) (by omega)) (dI_lt L (a1 L a 1) (by omega))
  have s3 := cor_sml (dI_ge L (a1 L a 5) (n := 2) (by omega)) (dI_lt L (a1 L a 5) (by omega)) (dI_ge L (a1 L a 6) (n := 2) (by omega)) (dI_lt L (a1 L a 6) (by omega))
  intro e he
  unfold mPs at he
  cases hc : cornB L a <;> rw [hc] at he
  · simp only [cond_false, List.mem_cons, List.not_mem_nil, or_false] at he
    rcases he with rfl | rfl
    · exact s1
    · exact s2
  · simp only [cond_true, List.mem_cons, List.not_mem_nil, or_false] at he
    rcases he with rfl | rfl | rfl
    · exact s1
    · exact s3
    · exact s2
theorem crK_false {es ms : List PV} {i : Int} : ∀ (n : Nat) (k : Int), crK es ms i k n = false → ∀ j, k ≤ j → j < k + n → Hg.xAt es ms i j = false
  | 0, _, _, j, h1, h2 => by omega
  | n + 1, k, h, j, h1, h2 => by
    unfold crK at h
    rw [Bool.or_eq_false_iff] at h
    by_cases e : j = k
    · rw [e]; exact h.1
    · exact crK_false n (k + 1) h.2 j (by omega) (by omega)
theorem crI_false {es ms : List PV} : ∀ (n : Nat) (i : Int), crI es ms i n = false → ∀ j, i ≤ j → j < i + n → crK es ms j 0 (ms.length - 1) = false
  | 0, _, _, j, h1, h2 => by omega
  | n + 1, i, h, j, h1, h2 => by
    unfold crI at h
    rw [Bool.or_eq_false_iff] at h
    by_cases e : j = i
    · rw [e]; exact h.1
    · exact crI_false n (i + 1) h.2 j (by omega) (by omega)
theorem foldOn_true {B : List PV} {x y : Int} : ∀ (n : Nat) (m : Int) (o : Bool), foldOn B x y m n o = true → o = true ∨ ∃ j, m ≤ j ∧ j < m + n ∧ onX (Hg.qX B j) (Hg.qY B j) (Hg.qX B (j + 1)) (Hg.qY B (j + 1)) x y = true
  | 0, m, o, h => .inl h
  | n + 1, m, o, h => by
    unfold foldOn at h
    rcases foldOn_true n (m + 1) _ h with h1 | ⟨j, h1, h2, h3⟩
    · cases o with
      | true => exact .inl rfl
      | false => exact .inr ⟨m, Int.le_refl _, by omega, h1⟩
    · exact .inr ⟨j, by omega, by omega, h3⟩
theorem allI_step {es : List PV} {la : Int} : ∀ (n : Nat) (i : Int), allI es la i n = true → ∀ j, i ≤ j → j < i + n → eqq es j (j + 1) = false
  | 0, _, _, j, h1, h2 => by omega
  | n + 1, i, h, j, h1, h2 => by
    unfold allI at h
    simp only [Bool.and_eq_true, Bool.not_eq_true'] at h
    by_cases e : j = i
    · rw [e]; exact h.1
    · exact allI_step n (i + 1) h.2.2 j (by omega) (by omega)
/-- The law of two lines of one level. -/
theorem no_bad {A B : List PV} (hA : ∀ e ∈ A, sml e) (hB : ∀ e ∈ B, sml e) (h2 : 2 ≤ A.length) (h3 : A.length ≤ 3) (hb2 : 2 ≤ B.length) (hc : crx B A = false) (hk : chk A = 0) {n : Int} (h0 : 0 ≤ n) (hn : n < (A.length : Int)) : badN A B n = false := by
  unfold crx at hc
  rw [sml_fin hA, sml_fin hB, Bool.true_and, Bool.true_and] at hc
  have hadj : ∀ j, 0 ≤ j → j + 1 < (A.length : Int) → eqq A j (j + 1) = false := fun j g1 g2 => by
    have hk' := hk
    unfold Hg.chk at hk'
    rw [decide_eq_false (show ¬ (A.length : Int) < 2 by omega), decide_eq_false (show ¬ (A.length : Int) > 40 by omega), sml_fin hA] at hk'
    simp only [Bool.or_self, cond_false, cond_true] at hk'
    cases ha : allI A ((A.length : Int) - 2) 0 (A.length - 1) with
    | false => rw [ha] at hk'; cases hk'
    | true => exact allI_step _ 0 ha j g1 (by omega)
  unfold badN
  cases ho : onL A B n with
  | false => rfl
  | true =>
    rw [Bool.true_and]
    unfold onL at ho
    rcases foldOn_true _ 0 false ho with h1 | ⟨m, m0, m1, hon⟩
    · cases h1
    · have hm1 : m + 1 < (B.length : Int) := by omega
      -- a segment of the first line that ends in the point
      obtain ⟨s, s0, s1, hs⟩ : ∃ s : Int, 0 ≤ s ∧ s + 1 < (A.length : Int) ∧ (s = n ∨ s + 1 = n) := by
        by_cases h : n + 1 < (A.length : Int)
        · exact ⟨n, h0, h, .inl rfl⟩
        · exact ⟨n - 1, by omega, by omega, .inr (by omega)⟩
      have bA1 := sml_bd hA s0 (show s < (A.length : Int) by omega)
      have bA2 := sml_bd hA (show 0 ≤ s + 1 by omega) s1
      have bB1 := sml_bd hB m0 (show m < (B.length : Int) by omega)
      have bB2 := sml_bd hB (show 0 ≤ m + 1 by omega) hm1
      have bP := sml_bd hA h0 hn
      have onA : onX (Hg.qX A s) (Hg.qY A s) (Hg.qX A (s + 1)) (Hg.qY A (s + 1)) (Hg.qX A n) (Hg.qY A n) = true := by
        rcases hs with rfl | rfl
        · exact on_self1 bA1 bA2
        · exact on_self2 bA1 bA2
      have meet := mt_meet bB1 bB2 bA1 bA2 bP hon onA
      have rng := (mt_range (Hg.qX B m) (Hg.qY B m) (Hg.qX B (m + 1)) (Hg.qY B (m + 1)) (Hg.qX A s) (Hg.qY A s) (Hg.qX A (s + 1)) (Hg.qY A (s + 1))).2
      have hx := crK_false _ 0 (crI_false _ 0 hc m m0 (by omega)) s s0 (by omega)
      unfold Hg.xAt mt4 at hx
      rw [Bool.or_eq_false_iff] at hx
      obtain ⟨x1, x2⟩ := hx
      have ne2 : mt (Hg.qX B m) (Hg.qY B m) (Hg.qX B (m + 1)) (Hg.qY B (m + 1)) (Hg.qX A s) (Hg.qY A s) (Hg.qX A (s + 1)) (Hg.qY A (s + 1)) ≠ 2 := by simpa using x1
      have e1 : mt (Hg.qX B m) (Hg.qY B m) (Hg.qX B (m + 1)) (Hg.qY B (m + 1)) (Hg.qX A s) (Hg.qY A s) (Hg.qX A (s + 1)) (Hg.qY A (s + 1)) = 1 := by omega
      rw [e1] at x2
      have hend : endB B A m s = true := by simpa using x2
      have ends : ∀ z : Int, 0 ≤ z → z < (B.length : Int) → endP B A m s z = true → (Hg.qX A n = Hg.qX B z ∧ Hg.qY A n = Hg.qY B z) ∧ (eq2 B A z 0 || eq2 B A z ((A.length : Int) - 1)) = true := fun z z0 z1 hz => by
        unfold endP on4 at hz
        simp only [Bool.and_eq_true] at hz
        obtain ⟨⟨o1, o2⟩, o3⟩ := hz
        refine ⟨Classical.byContradiction fun hne => ne2 ?_, o3⟩
        exact mt_two bB1 bB2 bA1 bA2 bP (sml_bd hB z0 z1) hon onA o1 o2 hne
      have fin' : ∀ z : Int, 0 ≤ z → z < (B.length : Int) → (z = 0 ∨ z = (B.length : Int) - 1) → endP B A m s z = true → ((decide (n > 0) && decide (n + 1 < (A.length : Int))) || (!eqN A B n 0 && !eqN A B n ((B.length : Int) - 1))) = false := fun z z0 z1 hz hp => by
        obtain ⟨⟨p1, p2⟩, p3⟩ := ends z z0 z1 hp
        rw [Bool.or_eq_false_iff]
        constructor
        · cases hc1 : (decide (n > 0) && decide (n + 1 < (A.length : Int))) with
          | false => rfl
          | true =>
            exfalso
            simp only [Bool.and_eq_true, decide_eq_true_eq] at hc1
            have hn1 : n = 1 := by omega
            have hl3 : (A.length : Int) = 3 := by omega
            have q0 := hadj 0 (by omega) (by omega)
            have q1 := hadj 1 (by omega) (by omega)
            unfold eqq at q0 q1
            unfold eq2 at p3
            simp only [Bool.or_eq_true, Bool.and_eq_true, beq_iff_eq, and_true] at p3
            rw [hn1] at p1 p2
            simp only [Bool.and_true, Bool.and_eq_false_iff, beq_eq_false_iff_ne, ne_eq] at q0 q1
            rcases p3 with ⟨p3, p4⟩ | ⟨p3, p4⟩
            · rcases q0 with q0 | q0
              · exact q0 (by rw [← p3, ← p1]; rfl)
              · exact q0 (by rw [← p4, ← p2]; rfl)
            · rw [hl3] at p3 p4
              rcases q1 with q1 | q1
              · exact q1 (by rw [p1, p3]; rfl)
              · exact q1 (by rw [p2, p4]; rfl)
        · have : eqN A B n z = true := by unfold eqN; simp [p1, p2]
          rcases hz with rfl | rfl
          · rw [this]; rfl
          · rw [this]; simp
      unfold endB at hend
      rw [Bool.or_eq_true] at hend
      rcases hend with he | he
      · exact fin' 0 (Int.le_refl _) (by omega) (.inl rfl) he
      · exact fin' _ (by omega) (by omega) (.inr rfl) he
end Go.Hn
/- Network: NetworkFine answers true. -/
namespace Go.Hn
open Go.Hx Go.Hg Go.Proofs
theorem fine_mem {L : List PV} {e : PV} (h : e ∈ fineW L) : (∀ p ∈ wL e, sml p) ∧ 2 ≤ (wL e).length ∧ (wL e).length ≤ 3 := by
  obtain ⟨k, a, _, _, rfl⟩ := made_mem ((fine_facts L).1.subset h)
  rw [wL_mW]
  exact ⟨mPs_sml L a, mPs_len L a⟩
theorem fine_okP (L : List PV) : okP (fineW L) = true := by
  unfold okP
  rw [fine_okB, Bool.true_and, List.all_eq_true]
  intro e he
  have := (fine_mem he).2.1
  exact decide_eq_true (by omega)
theorem allN_of {A B : List PV} : ∀ (m : Nat) (n : Int), (∀ j, n ≤ j → j < n + m → badN A B j = false) → allN A B n m = true
  | 0, _, _ => rfl
  | m + 1, n, h => by
    unfold allN
    rw [h n (Int.le_refl _) (by omega), allN_of m (n + 1) fun j h1 h2 => h j (by omega) (by omega)]; rfl
theorem allP_of {ws : List PV} {i : Int} : ∀ (m : Nat) (k : Int), (∀ j, k ≤ j → j < k + m → prOK ws i j = true) → allP ws i k m = true
  | 0, _, _ => rfl
  | m + 1, k, h => by
    unfold allP
    rw [h k (Int.le_refl _) (by omega), allP_of m (k + 1) fun j h1 h2 => h j (by omega) (by omega)]; rfl
theorem allQ_of {ws : List PV} : ∀ (m : Nat) (i : Int), (∀ j, i ≤ j → j < i + m → allP ws j 0 j.toNat = true) → allQ ws i m = true
  | 0, _, _ => rfl
  | m + 1, i, h => by
    unfold allQ
    rw [h i (Int.le_refl _) (by omega), allQ_of m (i + 1) fun j h1 h2 => h j (by omega) (by omega)]; rfl
theorem fine_allQ (L : List PV) : allQ (fineW L) 0 (fineW L).length = true := by
  have h6 := (okW_iff (fine_okW L)).1
  refine allQ_of _ _ fun i h1 h2 => allP_of _ _ fun k h3 h4 => ?_
  obtain ⟨a, ha, e1, e2⟩ := ws_at (ws := fineW L) h1 (by omega)
  obtain ⟨b, hb, e3, e4⟩ := ws_at (ws := fineW L) h3 (by omega)
  unfold prOK okAB
  rw [e2, e4]
  cases hlv : wLv (fineW L)[a] == wLv (fineW L)[b] with
  | false => rfl
  | true =>
    rw [cond_true]
    have hlv' : wLv (fineW L)[b] = wLv (fineW L)[a] := by simpa using (beq_iff_eq.1 hlv).symm
    obtain ⟨c1, c2⟩ := fine_crx (by omega) (fine_facts L).2 ha (show b < a by omega) hlv'
    obtain ⟨m1, m2, m3⟩ := fine_mem (List.getElem_mem ha)
    obtain ⟨n1, n2, _⟩ := fine_mem (List.getElem_mem hb)
    refine allN_of _ _ fun j j0 j1 => no_bad m1 n1 m2 m3 n2 c1 c2 j0 (by omega)
theorem tL_eq {ws : List PV} {t : Int} (_ : 0 ≤ tnI ws t) (_ : tnI ws t ≤ (ws.length : Int)) : tRs ws t = ws.drop (tnI ws t).toNat ++ ws.take (tnI ws t).toNat ∧ (tRs ws t).length = tNl ws t ∧ tL ws t = ws.drop (tnI ws t).toNat ++ ws.take (tnI ws t).toNat := by
  have e1 : tD1 ws t = ws.drop (tnI ws t).toNat := by unfold tD1; rw [List.take_of_length_le (by omega)]
  have e2 : tD2 ws t = ws.take (tnI ws t).toNat := by unfold tD2; rw [show (0 : Int).toNat = 0 from rfl, List.drop_zero]
  have e3 : tRs ws t = ws.drop (tnI ws t).toNat ++ ws.take (tnI ws t).toNat := by unfold tRs; rw [e1, e2, List.nil_append]
  have e4 : (tRs ws t).length = tNl ws t := by unfold tNl; rw [e3, e1, e2, List.length_append]; omega
  refine ⟨e3, e4, ?_⟩
  unfold tL
  rw [List.drop_zero, ← e4, List.take_length, e3]
theorem turn_perm (ws : List PV) (n : Nat) : (ws.drop n ++ ws.take n).Perm ws := List.perm_append_comm.trans (List.Perm.of_eq (List.take_append_drop n ws))
theorem okW_perm {ws ws' : List PV} (h : okW ws = true) (hp : ws'.Perm ws) : okW ws' = true := by
  obtain ⟨h1, h2⟩ := okW_iff h
  unfold okW
  simp only [Bool.and_eq_true, decide_eq_true_eq, List.all_eq_true]
  exact ⟨by rw [hp.length_eq]; exact h1, fun e he => h2 e (hp.mem_iff.1 he)⟩
theorem law4 (f : Bool) (L : List PV) {t : Int} (t0 : 0 ≤ t) (t1 : t ≤ 255) : Hx.Enters Tryz.prog 4 ∧ PCall Tryz.prog 4 [.lst f 3 L, tu t] (bv true) := by
  refine runP_sound okY9 (n := 100) ?_
  have h := fine_okW L
  have h6 := (okW_iff h).1
  have hn : tnI (fineW L) t = Int.tmod t (((fineW L).length : Int) + 1) := by
    unfold tnI
    rw [W_id (n := t) (by omega) (by omega), W_id (n := ((fineW L).length : Int) + 1) (by omega) (by omega)]
  have n0 : 0 ≤ tnI (fineW L) t := by rw [hn]; exact Int.tmod_nonneg _ t0
  have n1 : tnI (fineW L) t < ((fineW L).length : Int) + 1 := by rw [hn]; exact Int.tmod_lt_of_pos _ (by omega)
  obtain ⟨e1, e2, e3⟩ := tL_eq n0 (by omega)
  have hp : (tL (fineW L) t).Perm (fineW L) := by rw [e3]; exact turn_perm _ _
  have hl : tNl (fineW L) t ≤ 6 := by rw [← e2, e1, (turn_perm _ _).length_eq]; exact h6
  have hd1 : (tD1 (fineW L) t).length ≤ 6 := by unfold tNl at hl; omega
  rw [qNF, fine_okB, (fine_facts L).2, show pE4 (lE4 t true false (fineW L) 0) = true by simp only [pE4, Bool.and_eq_true, decide_eq_true_eq]; exact ⟨Int.le_refl _, fine_okP L⟩,
    show (((fineW L).length : Int) - 0).toNat = (fineW L).length by omega, fine_allQ, W_id (n := ((fineW L).length : Int) + 1) (by omega) (by omega), decide_eq_false (show ¬ ((fineW L).length : Int) + 1 = 0 by omega),
    decide_eq_true n0, decide_eq_true (show tnI (fineW L) t ≤ ((fineW L).length : Int) by omega), decide_eq_true (Int.le_refl ((fineW L).length : Int)),
    decide_eq_true (show (0 + (tD1 (fineW L) t).length) * 96 ≤ 140737488355328 by omega), decide_eq_true (show (tD1 (fineW L) t).length = 0 + (tD1 (fineW L) t).length by omega), decide_eq_true (show tNl (fineW L) t * 96 ≤ 140737488355328 by omega),
    h, e2, beq_self_eq_true, okW_perm h hp, okG_of h, same_perm h (okW_perm h hp) (fine_ids L) hp]
  simp
end Go.Hn
