/- Network: the reference's Check as a contract. -/
import Derived.Test.YtlobfjeipgpleaaGreatPart9
import Derived.Test.YtlobfjeipgpleaaGreatPart10
namespace Go.Hn
open Go.Hx Go.Hg Go.Proofs
noncomputable def X0 : EnvK := E73
theorem okX0 : EnvOK Tryz.prog X0.env := ok73
abbrev wayX : Hx.X1 := .agg [I64, .lst 37, I64, .str, .str, .bool, I64, I64]
/-- The way of the round, in a row of its own. -/
abbrev wr (f : Bool) (e : PV) : Row := r1 44 8 (.agg [iv (wI e), .lst f 37 (wL e), iv (wLv e), .val (.string ((e.cellAt 3).getS)), .val (.string ((e.cellAt 4).getS)), bv ((e.cellAt 5).getB), iv ((e.cellAt 6).getI), iv ((e.cellAt 7).getI)])
/-! Has one before it the same number? -/
def shA1 : Hx.S1 := ⟨84, [(0, .lst 44), (3, I64), (4, .ptr 0 1 0 0), (5, I64)], [.onef 44 8 wayX]⟩
abbrev lA1 (f : Bool) (ws : List PV) (i k : Int) (id : Int) (g : Bool) (M : List PV) (lv : Int) (c n : ByteArray) (s : Bool) (wt ds : Int) : LS := ([.l f ws, .i i, .i k], [.i id, .l g M, .i lv, .s c, .s n, .b s, .i wt, .i ds])
noncomputable abbrev hA1 (id : Int) (g : Bool) (M : List PV) (lv : Int) (c n : ByteArray) (s : Bool) (wt ds : Int) : List Row := (shA1.put (lA1 true [] 0 0 id g M lv c n s wt ds)).2
theorem qA1 (f : Bool) (ws : List PV) (i k : Int) (id : Int) (g : Bool) (M : List PV) (lv : Int) (c n : ByteArray) (s : Bool) (wt ds : Int) :
  runB Tryz.prog X0 60 14 (lpb Tryz.f14 10) [0, 3, 4, 5] [0, 2, 3, 4] (shA1.put (lA1 f ws i k id g M lv c n s wt ds)).1 (shA1.put (lA1 f ws i k id g M lv c n s wt ds)).2 =
  bif decide (k < i) then bif inr ws k then bif wN ws k == id then some (.ret, tm 84 [(0, .lst f 44 ws), (2, iv 6), (3, iv i), (4, .ptr 0 1 0 0)], hA1 id g M lv c n s wt ds)
    else some (.normal, shA1.put (lA1 f ws i (W (k + 1)) id g M lv c n s wt ds)) else none
  else some (.exit 2, tm 84 [(0, .lst f 44 ws), (3, iv i), (4, .ptr 0 1 0 0)], hA1 id g M lv c n s wt ds) := by kernel_rfl
def anyI (ws : List PV) (id : Int) : Int → Nat → Bool
  | _, 0 => false
  | k, n + 1 => (wN ws k == id) || anyI ws id (k + 1) n
def pA1 : LS → Bool
  | ([.l _ ws, .i i, .i k], [.i _, .l _ _, .i _, .s _, .s _, .b _, .i _, .i _]) => decide (0 ≤ k) && decide (i < (ws.length : Int)) && bigL ws
  | _ => false
noncomputable def fA1 : LS → DT (PX × List PV × List Row)
  | ([.l f ws, .i i, .i k], [.i id, .l g M, .i lv, .s c, .s n, .b s, .i wt, .i ds]) =>
    .br (anyI ws id k (i - k).toNat) (.leaf (.ret, tm 84 [(0, .lst f 44 ws), (2, iv 6), (3, iv i), (4, .ptr 0 1 0 0)], hA1 id g M lv c n s wt ds)) (.leaf (.exit 2, tm 84 [(0, .lst f 44 ws), (3, iv i), (4, .ptr 0 1 0 0)], hA1 id g M lv c n s wt ds))
  | _ => .no
def mA1 : LS → Nat
  | ([.l _ _, .i i, .i k], [.i _, .l _ _, .i _, .s _, .s _, .b _, .i _, .i _]) => (i - k).toNat
  | _ => 0
theorem sA1 : ∀ s r, pA1 s = true → (fA1 s).run = some r → r.1 ≠ .normal ∧ (runB Tryz.prog X0 60 14 (lpb Tryz.f14 10) [0, 3, 4, 5] [0, 2, 3, 4] (shA1.put s).1 (shA1.put s).2 = some r ∨
      ∃ s', runB Tryz.prog X0 60 14 (lpb Tryz.f14 10) [0, 3, 4, 5] [0, 2, 3, 4] (shA1.put s).1 (shA1.put s).2 = some (.normal, shA1.put s') ∧ pA1 s' = true ∧ mA1 s' < mA1 s ∧ (fA1 s').run = some r) := by
  intro t r hp hr
  unfold pA1 at hp; split at hp
  · rename_i f ws i k id g M lv c n s wt ds
    simp only [Bool.and_eq_true, decide_eq_true_eq] at hp
    obtain ⟨⟨h1, h2⟩, h3⟩ := hp
    have hr' := run_br2 hr
    refine ⟨by rw [hr']; cases anyI ws id k (i - k).toNat <;> simp, ?_⟩
    rw [show shA1.put ([.l f ws, .i i, .i k], [.i id, .l g M, .i lv, .s c, .s n, .b s, .i wt, .i ds]) = shA1.put (lA1 f ws i k id g M lv c n s wt ds) from rfl, qA1]
    by_cases hk : k < i
    · rw [decide_eq_true hk, cond_true, inr_of h1 (by omega), cond_true, W_id (n := k + 1) (by omega) (by omega)]
      obtain ⟨m, hm⟩ : ∃ m, (i - k).toNat = m + 1 := ⟨(i - k).toNat - 1, by omega⟩
      have hm2 : (i - (k + 1)).toNat = m := by omega
      rw [hm] at hr'
      simp only [anyI] at hr'
      cases he : wN ws k == id with
      | true => rw [he] at hr'; exact .inl (by rw [hr']; rfl)
      | false =>
        rw [he] at hr'
        refine .inr ⟨lA1 f ws i (k + 1) id g M lv c n s wt ds, rfl, by simp only [pA1, Bool.and_eq_true, decide_eq_true_eq]; exact ⟨⟨by omega, h2⟩, h3⟩, by simp only [mA1]; omega, ?_⟩
        rw [hr']
        simp only [fA1, hm2, Bool.false_or]
        cases anyI ws id (k + 1) m <;> rfl
    · rw [decide_eq_false hk]
      rw [show (i - k).toNat = 0 by omega] at hr'
      exact .inl (by rw [hr']; rfl)
  · cases hp
noncomputable def X1 : EnvK := X0.addW 14 10 [0, 3, 4, 5] [] shA1 pA1 fA1
theorem okX1 : EnvOK Tryz.prog X1.env :=
  okX0.addW (n := 60) Tryz.func14 (show Tryz.f14.body = some (bod Tryz.f14) by kernel_rfl) (show (loops (bod Tryz.f14)).filter (fun b => rid b == 10) = [lpb Tryz.f14 10] by kernel_rfl) [0, 3, 4, 5] [0, 2, 3, 4] [] shA1 mA1 sA1
/-! Does one before it on its level cross it? -/
def shA2 : Hx.S1 := ⟨84, [(0, .lst 44), (3, I64), (4, .ptr 0 1 0 0), (7, I64)], [.onef 44 8 wayX]⟩
theorem qA2 (f : Bool) (ws : List PV) (i k : Int) (id : Int) (g : Bool) (M : List PV) (lv : Int) (c n : ByteArray) (s : Bool) (wt ds : Int) :
  runB Tryz.prog X1 60 14 (lpb Tryz.f14 20) [0, 3, 4, 7] [0, 2, 3, 4] (shA2.put (lA1 f ws i k id g M lv c n s wt ds)).1 (shA2.put (lA1 f ws i k id g M lv c n s wt ds)).2 =
  bif decide (k < i) then bif inr ws k then bif wLv (ws.getD k.toNat .any) == lv then bif inr ws k then bif big (wL (ws.getD k.toNat .any)) && big M then bif crx (wL (ws.getD k.toNat .any)) M then
      some (.ret, tm 84 [(0, .lst f 44 ws), (2, iv 16), (3, iv i), (4, .ptr 0 1 0 0)], hA1 id g M lv c n s wt ds)
    else some (.normal, shA2.put (lA1 f ws i (W (k + 1)) id g M lv c n s wt ds)) else none else none
    else some (.normal, shA2.put (lA1 f ws i (W (k + 1)) id g M lv c n s wt ds)) else none
  else some (.exit 4, tm 84 [(0, .lst f 44 ws), (3, iv i), (4, .ptr 0 1 0 0)], hA1 id g M lv c n s wt ds) := by kernel_rfl
def anyC (ws : List PV) (lv : Int) (M : List PV) : Int → Nat → Bool
  | _, 0 => false
  | k, n + 1 => ((wLv (ws.getD k.toNat .any) == lv) && crx (wL (ws.getD k.toNat .any)) M) || anyC ws lv M (k + 1) n
def pA2 : LS → Bool
  | ([.l _ ws, .i i, .i k], [.i _, .l _ M, .i _, .s _, .s _, .b _, .i _, .i _]) => decide (0 ≤ k) && decide (i < (ws.length : Int)) && okB ws && big M
  | _ => false
noncomputable def fA2 : LS → DT (PX × List PV × List Row)
  | ([.l f ws, .i i, .i k], [.i id, .l g M, .i lv, .s c, .s n, .b s, .i wt, .i ds]) =>
    .br (anyC ws lv M k (i - k).toNat) (.leaf (.ret, tm 84 [(0, .lst f 44 ws), (2, iv 16), (3, iv i), (4, .ptr 0 1 0 0)], hA1 id g M lv c n s wt ds)) (.leaf (.exit 4, tm 84 [(0, .lst f 44 ws), (3, iv i), (4, .ptr 0 1 0 0)], hA1 id g M lv c n s wt ds))
  | _ => .no
theorem sA2 : ∀ s r, pA2 s = true → (fA2 s).run = some r → r.1 ≠ .normal ∧ (runB Tryz.prog X1 60 14 (lpb Tryz.f14 20) [0, 3, 4, 7] [0, 2, 3, 4] (shA2.put s).1 (shA2.put s).2 = some r ∨
      ∃ s', runB Tryz.prog X1 60 14 (lpb Tryz.f14 20) [0, 3, 4, 7] [0, 2, 3, 4] (shA2.put s).1 (shA2.put s).2 = some (.normal, shA2.put s') ∧ pA2 s' = true ∧ mA1 s' < mA1 s ∧ (fA2 s').run = some r) := by
  intro t r hp hr
  unfold pA2 at hp; split at hp
  · rename_i f ws i k id g M lv c n s wt ds
    simp only [Bool.and_eq_true, decide_eq_true_eq] at hp
    obtain ⟨⟨⟨h1, h2⟩, h3⟩, h4⟩ := hp
    have hr' := run_br2 hr
    have hb := okB_len h3
    refine ⟨by rw [hr']; cases anyC ws lv M k (i - k).toNat <;> simp, ?_⟩
    rw [show shA2.put ([.l f ws, .i i, .i k], [.i id, .l g M, .i lv, .s c, .s n, .b s, .i wt, .i ds]) = shA2.put (lA1 f ws i k id g M lv c n s wt ds) from rfl, qA2]
    by_cases hk : k < i
    · have hbg : (big (wL (ws.getD k.toNat .any)) && big M) = true := by
        have := okB_at h3 h1 (show k < (ws.length : Int) by omega)
        simp only [decide_eq_true_eq] at this
        rw [Bool.and_eq_true]; exact ⟨by simpa using this, by simpa using h4⟩
      rw [decide_eq_true hk, cond_true, inr_of h1 (by omega), hbg, W_id (n := k + 1) (by omega) (by omega)]
      obtain ⟨m, hm⟩ : ∃ m, (i - k).toNat = m + 1 := ⟨(i - k).toNat - 1, by omega⟩
      have hm2 : (i - (k + 1)).toNat = m := by omega
      rw [hm] at hr'
      simp only [anyC] at hr'
      have go : ((wLv (ws.getD k.toNat .any) == lv) && crx (wL (ws.getD k.toNat .any)) M) = false → r = bif anyC ws lv M (k + 1) m then (.ret, tm 84 [(0, .lst f 44 ws), (2, iv 16), (3, iv i), (4, .ptr 0 1 0 0)], hA1 id g M lv c n s wt ds) else (.exit 4, tm 84 [(0, .lst f 44 ws), (3, iv i), (4, .ptr 0 1 0 0)], hA1 id g M lv c n s wt ds) := fun h => by
        rw [h, Bool.false_or] at hr'; exact hr'
      have nxt : r = (bif anyC ws lv M (k + 1) m then (.ret, tm 84 [(0, .lst f 44 ws), (2, iv 16), (3, iv i), (4, .ptr 0 1 0 0)], hA1 id g M lv c n s wt ds) else (.exit 4, tm 84 [(0, .lst f 44 ws), (3, iv i), (4, .ptr 0 1 0 0)], hA1 id g M lv c n s wt ds)) →
          pA2 (lA1 f ws i (k + 1) id g M lv c n s wt ds) = true ∧ mA1 (lA1 f ws i (k + 1) id g M lv c n s wt ds) < mA1 (lA1 f ws i k id g M lv c n s wt ds) ∧ (fA2 (lA1 f ws i (k + 1) id g M lv c n s wt ds)).run = some r := fun h => by
        refine ⟨by simp only [pA2, Bool.and_eq_true, decide_eq_true_eq]; exact ⟨⟨⟨by omega, h2⟩, h3⟩, h4⟩, by simp only [mA1]; omega, ?_⟩
        rw [h]
        simp only [fA2, hm2]
        cases anyC ws lv M (k + 1) m <;> rfl
      cases he : wLv (ws.getD k.toNat .any) == lv with
      | false => exact .inr ⟨lA1 f ws i (k + 1) id g M lv c n s wt ds, rfl, nxt (go (by rw [he]; rfl))⟩
      | true =>
        cases hx : crx (wL (ws.getD k.toNat .any)) M with
        | false => exact .inr ⟨lA1 f ws i (k + 1) id g M lv c n s wt ds, rfl, nxt (go (by rw [he, hx]; rfl))⟩
        | true => rw [he, hx] at hr'; exact .inl (by rw [hr']; rfl)
    · rw [decide_eq_false hk]
      rw [show (i - k).toNat = 0 by omega] at hr'
      exact .inl (by rw [hr']; rfl)
  · cases hp
noncomputable def X2 : EnvK := X1.addW 14 20 [0, 3, 4, 7] [] shA2 pA2 fA2
theorem okX2 : EnvOK Tryz.prog X2.env :=
  okX1.addW (n := 60) Tryz.func14 (show Tryz.f14.body = some (bod Tryz.f14) by kernel_rfl) (show (loops (bod Tryz.f14)).filter (fun b => rid b == 20) = [lpb Tryz.f14 20] by kernel_rfl) [0, 3, 4, 7] [0, 2, 3, 4] [] shA2 mA1 sA2
end Go.Hn
/- Network: the reference's Check: what it comes to. -/
namespace Go.Hn
open Go.Hx Go.Hg Go.Proofs
def shA3 : Hx.S1 := ⟨84, [(0, .lst 44), (3, I64)], []⟩
abbrev lA3 (f : Bool) (ws : List PV) (i : Int) : LS := ([.l f ws, .i i], [])
def rt84 (c : Int) : Option (PX × List PV × List Row) := some (.ret, tm 84 [(2, iv c)], [])
abbrev wWt (e : PV) : Int := (e.cellAt 6).getI
/-- The state of the inner loops for a way. -/
abbrev lA0 (f : Bool) (ws : List PV) (i : Int) (e : PV) : LS := lA1 f ws i 0 (wI e) false (wL e) (wLv e) ((e.cellAt 3).getS) ((e.cellAt 4).getS) ((e.cellAt 5).getB) (wWt e) ((e.cellAt 7).getI)
theorem qA3 (f : Bool) (ws : List PV) (i : Int) : runB Tryz.prog X2 60 14 (lpb Tryz.f14 4) [0, 3] [2] (shA3.put (lA3 f ws i)).1 (shA3.put (lA3 f ws i)).2 =
  bif decide (i < (ws.length : Int)) then bif inr ws i then bif decide (wN ws i < 1) then rt84 1 else
    bif pA1 (lA0 f ws i (ws.getD i.toNat .any)) then bif anyI ws (wN ws i) 0 (i - 0).toNat then rt84 6 else
    bif chk (wL (ws.getD i.toNat .any)) != 0 then rt84 (chk (wL (ws.getD i.toNat .any))) else
    bif decide (wLv (ws.getD i.toNat .any) < -2) then rt84 3 else bif decide (wLv (ws.getD i.toNat .any) > 2) then rt84 3 else bif decide (wWt (ws.getD i.toNat .any) < 1) then rt84 3 else bif decide (wWt (ws.getD i.toNat .any) > 255) then rt84 3 else
    bif pA2 (lA0 f ws i (ws.getD i.toNat .any)) then bif anyC ws (wLv (ws.getD i.toNat .any)) (wL (ws.getD i.toNat .any)) 0 (i - 0).toNat then rt84 16 else some (.normal, shA3.put (lA3 f ws (W (i + 1)))) else none else none else none
  else some (.exit 0, tm 84 [], []) := by kernel_rfl
/-- Its level or its weight is wrong. -/
def rngB (e : PV) : Bool := decide (wLv e < -2) || (decide (wLv e > 2) || (decide (wWt e < 1) || decide (wWt e > 255)))
/-- What is wrong with a way, with those before it. -/
def errW (ws : List PV) (i : Int) : Int :=
  bif decide (wN ws i < 1) then 1 else bif anyI ws (wN ws i) 0 i.toNat then 6 else bif chk (wL (ws.getD i.toNat .any)) != 0 then chk (wL (ws.getD i.toNat .any)) else bif rngB (ws.getD i.toNat .any) then 3 else
  bif anyC ws (wLv (ws.getD i.toNat .any)) (wL (ws.getD i.toNat .any)) 0 i.toNat then 16 else 0
def errF (ws : List PV) : Int → Nat → Int
  | _, 0 => 0
  | i, n + 1 => bif errW ws i != 0 then errW ws i else errF ws (i + 1) n
def pA3 : LS → Bool
  | ([.l _ ws, .i i], []) => decide (0 ≤ i) && okB ws
  | _ => false
def fA3 : LS → DT (PX × List PV × List Row)
  | ([.l _ ws, .i i], []) => .br (errF ws i ((ws.length : Int) - i).toNat == 0) (.leaf (.exit 0, tm 84 [], [])) (.leaf (.ret, tm 84 [(2, iv (errF ws i ((ws.length : Int) - i).toNat))], []))
  | _ => .no
def mA3 : LS → Nat
  | ([.l _ ws, .i i], []) => ((ws.length : Int) - i).toNat
  | _ => 0
theorem rnd3 {ws : List PV} (f : Bool) {i : Int} (h1 : 0 ≤ i) (hi : i < (ws.length : Int)) (h7 : okB ws = true) {α : Type} (rt : Int → α) (nx : α) (e : PV) (he : e = ws.getD i.toNat .any) :
  (bif decide (wI e < 1) then rt 1 else
    bif pA1 (lA0 f ws i e) then bif anyI ws (wI e) 0 (i - 0).toNat then rt 6 else
    bif chk (wL e) != 0 then rt (chk (wL e)) else
    bif decide (wLv e < -2) then rt 3 else bif decide (wLv e > 2) then rt 3 else bif decide (wWt e < 1) then rt 3 else bif decide (wWt e > 255) then rt 3 else
    bif pA2 (lA0 f ws i e) then bif anyC ws (wLv e) (wL e) 0 (i - 0).toNat then rt 16 else nx else rt 77 else rt 77) = bif errW ws i != 0 then rt (errW ws i) else nx := by
  have hb := okB_len h7
  have hbg : big (wL e) = true := by
    have := okB_at h7 h1 hi
    rw [← he] at this
    exact this
  rw [show pA1 (lA0 f ws i e) = true by simp only [pA1, Bool.and_eq_true, decide_eq_true_eq]; exact ⟨⟨Int.le_refl _, hi⟩, by omega⟩,
    show pA2 (lA0 f ws i e) = true by simp only [pA2, Bool.and_eq_true, decide_eq_true_eq]; exact ⟨⟨⟨Int.le_refl _, hi⟩, h7⟩, by simpa using hbg⟩, show (i - 0).toNat = i.toNat by omega]
  unfold errW rngB wN
  rw [← he]
  cases decide (wI e < 1) <;> cases anyI ws (wI e) 0 i.toNat <;> cases hc : (chk (wL e) != 0) <;> cases decide (wLv e < -2) <;> cases decide (wLv e > 2) <;> cases decide (wWt e < 1) <;> cases decide (wWt e > 255) <;> cases anyC ws (wLv e) (wL e) 0 i.toNat <;> simp [hc]
theorem sA3 : ∀ s r, pA3 s = true → (fA3 s).run = some r → r.1 ≠ .normal ∧ (runB Tryz.prog X2 60 14 (lpb Tryz.f14 4) [0, 3] [2] (shA3.put s).1 (shA3.put s).2 = some r ∨
      ∃ s', runB Tryz.prog X2 60 14 (lpb Tryz.f14 4) [0, 3] [2] (shA3.put s).1 (shA3.put s).2 = some (.normal, shA3.put s') ∧ pA3 s' = true ∧ mA3 s' < mA3 s ∧ (fA3 s').run = some r) := by
  intro t r hp hr
  unfold pA3 at hp; split at hp
  · rename_i f ws i
    simp only [Bool.and_eq_true, decide_eq_true_eq] at hp
    obtain ⟨h1, h7⟩ := hp
    have hr' := run_br2 hr
    have hb := okB_len h7
    refine ⟨by rw [hr']; cases (errF ws i ((ws.length : Int) - i).toNat == 0) <;> simp, ?_⟩
    rw [show shA3.put ([.l f ws, .i i], []) = shA3.put (lA3 f ws i) from rfl, qA3]
    by_cases hi : i < (ws.length : Int)
    · rw [decide_eq_true hi, cond_true, inr_of h1 hi, cond_true, W_id (n := i + 1) (by omega) (by omega)]
      obtain ⟨m, hm⟩ : ∃ m, ((ws.length : Int) - i).toNat = m + 1 := ⟨((ws.length : Int) - i).toNat - 1, by omega⟩
      have hm2 : ((ws.length : Int) - (i + 1)).toNat = m := by omega
      rw [hm] at hr'
      simp only [errF] at hr'
      have key := rnd3 f h1 hi h7 rt84 (some (PX.normal, shA3.put (lA3 f ws (i + 1)))) (ws.getD i.toNat .any) rfl
      have hp1 : pA1 (lA0 f ws i (ws.getD i.toNat .any)) = true := by simp only [pA1, Bool.and_eq_true, decide_eq_true_eq]; exact ⟨⟨Int.le_refl _, hi⟩, by omega⟩
      have hp2 : pA2 (lA0 f ws i (ws.getD i.toNat .any)) = true := by
        simp only [pA2, Bool.and_eq_true, decide_eq_true_eq]
        have := okB_at h7 h1 hi
        exact ⟨⟨⟨Int.le_refl _, hi⟩, h7⟩, by simpa using this⟩
      rw [hp1, hp2] at key ⊢
      simp only [cond_true] at key ⊢
      unfold wN at *
      rw [key]
      cases hc : errW ws i != 0 with
      | true =>
        rw [hc] at hr'
        simp only [cond_true] at hr'
        rw [show (errW ws i == 0) = false by rw [bne] at hc; simpa using hc] at hr'
        exact .inl (by rw [hr']; rfl)
      | false =>
        rw [hc] at hr'
        refine .inr ⟨lA3 f ws (i + 1), rfl, by simp only [pA3, Bool.and_eq_true, decide_eq_true_eq]; exact ⟨by omega, h7⟩, by simp only [mA3]; omega, ?_⟩
        rw [hr']
        simp only [fA3, hm2, cond_false]
        cases (errF ws (i + 1) m == 0) <;> rfl
    · rw [decide_eq_false hi]
      rw [show ((ws.length : Int) - i).toNat = 0 by omega] at hr'
      exact .inl (by rw [hr']; rfl)
  · cases hp
noncomputable def X3 : EnvK := X2.addW 14 4 [0, 3] [] shA3 pA3 fA3
theorem okX3 : EnvOK Tryz.prog X3.env :=
  okX2.addW (n := 60) Tryz.func14 (show Tryz.f14.body = some (bod Tryz.f14) by kernel_rfl) (show (loops (bod Tryz.f14)).filter (fun b => rid b == 4) = [lpb Tryz.f14 4] by kernel_rfl) [0, 3] [2] [] shA3 mA3 sA3
/-- P8.1. -/
def chkF (ws : List PV) : Int := bif decide ((ws.length : Int) > 80) then 2 else errF ws 0 ws.length
theorem qRChk (f : Bool) (ws : List PV) : runP Tryz.prog X3 60 14 [.lst f 44 ws] =
  bif decide ((ws.length : Int) > 80) then some (iv 2) else bif pA3 (lA3 f ws 0) then bif errF ws 0 ((ws.length : Int) - 0).toNat == 0 then some (iv 0) else some (iv (errF ws 0 ((ws.length : Int) - 0).toNat)) else none := by kernel_rfl
theorem qRChk' (f : Bool) (ws : List PV) (h : okB ws = true) : runP Tryz.prog X3 60 14 [.lst f 44 ws] = some (iv (chkF ws)) := by
  rw [qRChk, show pA3 (lA3 f ws 0) = true by simp only [pA3, h]; rfl, show ((ws.length : Int) - 0).toNat = ws.length by omega]
  unfold chkF
  cases decide ((ws.length : Int) > 80)
  · simp only [cond_false, cond_true]
    cases hc : errF ws 0 ws.length == 0
    · rfl
    · rw [beq_iff_eq] at hc; rw [hc]; rfl
  · rfl
def cChW : List PV → Option (DT PV)
  | [.lst _ 44 ws] => some (.br (okB ws) (.leaf (iv (chkF ws))) .no)
  | _ => none
theorem eRChW : Hx.Enters Tryz.prog 14 := (runP_sound okX3 (n := 60) (qRChk' true [] rfl)).1
theorem oRChW (args : List PV) (d : DT PV) (r : PV) (h : cChW args = some d) (hr : d.run = some r) : PCall Tryz.prog 14 args r := by
  unfold cChW at h; split at h
  · cases h
    obtain ⟨h1, rfl⟩ := run_br hr
    exact (runP_sound okX3 (n := 60) (qRChk' _ _ h1)).2
  · cases h
end Go.Hn
/- Network: network.Check: it is what the reference's is. -/
namespace Go.Hn
open Go.Hx Go.Hg Go.Proofs
noncomputable abbrev hB1 (id : Int) (g : Bool) (M : List PV) (lv : Int) (c n : ByteArray) (s : Bool) (wt ds : Int) : List Row := hA1 id g M lv c n s wt ds
abbrev lB1 (f : Bool) (ws : List PV) (n k : Int) (id : Int) (g : Bool) (M : List PV) (lv : Int) (c m : ByteArray) (s : Bool) (wt ds : Int) : LS := ([.l f ws, .i n, .i k], [.i id, .l g M, .i lv, .s c, .s m, .b s, .i wt, .i ds])
def shB1 : Hx.S1 := ⟨19, [(0, .lst 44), (1, .fn 34 [] [.ptr 0 1 0 0]), (7, I64), (8, I64)], [.onef 44 8 wayX]⟩
def shB2 : Hx.S1 := ⟨19, [(0, .lst 44), (1, .fn 37 [] [.ptr 0 1 0 0]), (7, I64), (8, I64)], [.onef 44 8 wayX]⟩
theorem qB1 (f : Bool) (ws : List PV) (n k : Int) (id : Int) (g : Bool) (M : List PV) (lv : Int) (c m : ByteArray) (s : Bool) (wt ds : Int) :
  runB Tryz.prog X0 60 58 (lpb Tryz.f58 2) [0, 1, 7, 8] [4] (shB1.put (lB1 f ws n k id g M lv c m s wt ds)).1 (shB1.put (lB1 f ws n k id g M lv c m s wt ds)).2 =
  bif decide (k < n) then bif inr ws k then bif wN ws k == id then some (.ret, tm 19 [(4, iv k)], hB1 id g M lv c m s wt ds) else some (.normal, shB1.put (lB1 f ws n (W (k + 1)) id g M lv c m s wt ds)) else none
  else some (.exit 0, tm 19 [], hB1 id g M lv c m s wt ds) := by kernel_rfl
/-- The first that is such a one; -1 if none. -/
def fsI (q : Int → Bool) : Int → Nat → Int
  | _, 0 => -1
  | k, n + 1 => bif q k then k else fsI q (k + 1) n
def anQ (q : Int → Bool) : Int → Nat → Bool
  | _, 0 => false
  | k, n + 1 => q k || anQ q (k + 1) n
theorem fsI_ge {q : Int → Bool} : ∀ (n : Nat) (k : Int), 0 ≤ k → decide (fsI q k n ≥ 0) = anQ q k n
  | 0, _, _ => rfl
  | n + 1, k, h => by
    unfold fsI anQ
    cases q k with
    | true => simp only [cond_true, Bool.true_or]; exact decide_eq_true h
    | false => simp only [cond_false, Bool.false_or]; exact fsI_ge n (k + 1) (by omega)
abbrev qI (ws : List PV) (id : Int) (k : Int) : Bool := wN ws k == id
abbrev qC2 (ws : List PV) (lv : Int) (M : List PV) (k : Int) : Bool := (wLv (ws.getD k.toNat .any) == lv) && crx (wL (ws.getD k.toNat .any)) M
theorem anyI_q (ws : List PV) (id : Int) : ∀ (n : Nat) (k : Int), anQ (qI ws id) k n = anyI ws id k n
  | 0, _ => rfl
  | n + 1, k => by unfold anQ anyI; rw [anyI_q ws id n]
theorem anyC_q (ws : List PV) (lv : Int) (M : List PV) : ∀ (n : Nat) (k : Int), anQ (qC2 ws lv M) k n = anyC ws lv M k n
  | 0, _ => rfl
  | n + 1, k => by unfold anQ anyC; rw [anyC_q ws lv M n]
noncomputable def xB (q : Int → Bool) (n k : Int) (H : List Row) : DT (PX × List PV × List Row) := .br (anQ q k (n - k).toNat) (.leaf (.ret, tm 19 [(4, iv (fsI q k (n - k).toNat))], H)) (.leaf (.exit 0, tm 19 [], H))
theorem xB_run {q : Int → Bool} {n k : Int} {H : List Row} {r : PX × List PV × List Row} (h : (xB q n k H).run = some r) : r = bif anQ q k (n - k).toNat then (.ret, tm 19 [(4, iv (fsI q k (n - k).toNat))], H) else (.exit 0, tm 19 [], H) := run_br2 h
def pB1 : LS → Bool
  | ([.l _ ws, .i n, .i k], [.i _, .l _ M, .i _, .s _, .s _, .b _, .i _, .i _]) => decide (0 ≤ k) && decide (n = (ws.length : Int)) && okB ws && big M
  | _ => false
noncomputable def fB1 : LS → DT (PX × List PV × List Row)
  | ([.l _ ws, .i n, .i k], [.i id, .l g M, .i lv, .s c, .s m, .b s, .i wt, .i ds]) => xB (qI ws id) n k (hB1 id g M lv c m s wt ds)
  | _ => .no
noncomputable def fB2 : LS → DT (PX × List PV × List Row)
  | ([.l _ ws, .i n, .i k], [.i id, .l g M, .i lv, .s c, .s m, .b s, .i wt, .i ds]) => xB (qC2 ws lv M) n k (hB1 id g M lv c m s wt ds)
  | _ => .no
def mB1 : LS → Nat
  | ([.l _ _, .i n, .i k], [.i _, .l _ _, .i _, .s _, .s _, .b _, .i _, .i _]) => (n - k).toNat
  | _ => 0
theorem sB1 : ∀ s r, pB1 s = true → (fB1 s).run = some r → r.1 ≠ .normal ∧ (runB Tryz.prog X0 60 58 (lpb Tryz.f58 2) [0, 1, 7, 8] [4] (shB1.put s).1 (shB1.put s).2 = some r ∨
      ∃ s', runB Tryz.prog X0 60 58 (lpb Tryz.f58 2) [0, 1, 7, 8] [4] (shB1.put s).1 (shB1.put s).2 = some (.normal, shB1.put s') ∧ pB1 s' = true ∧ mB1 s' < mB1 s ∧ (fB1 s').run = some r) := by
  intro t r hp hr
  unfold pB1 at hp; split at hp
  · rename_i f ws n k id g M lv c m s wt ds
    simp only [Bool.and_eq_true, decide_eq_true_eq] at hp
    obtain ⟨⟨⟨h1, rfl⟩, h3⟩, h4⟩ := hp
    have hr' := xB_run hr
    have hb := okB_len h3
    refine ⟨by rw [hr']; cases anQ (qI ws id) k ((ws.length : Int) - k).toNat <;> simp, ?_⟩
    rw [show shB1.put ([.l f ws, .i (ws.length : Int), .i k], [.i id, .l g M, .i lv, .s c, .s m, .b s, .i wt, .i ds]) = shB1.put (lB1 f ws (ws.length : Int) k id g M lv c m s wt ds) from rfl, qB1]
    by_cases hk : k < (ws.length : Int)
    · rw [decide_eq_true hk, cond_true, inr_of h1 hk, cond_true, W_id (n := k + 1) (by omega) (by omega)]
      obtain ⟨j, hj⟩ : ∃ j, ((ws.length : Int) - k).toNat = j + 1 := ⟨((ws.length : Int) - k).toNat - 1, by omega⟩
      have hj2 : ((ws.length : Int) - (k + 1)).toNat = j := by omega
      rw [hj] at hr'
      simp only [anQ, fsI] at hr'
      rw [show (wN ws k == id) = qI ws id k from rfl]
      cases he : qI ws id k with
      | true => rw [he] at hr'; exact .inl (by rw [hr']; rfl)
      | false =>
        rw [he] at hr'
        refine .inr ⟨lB1 f ws (ws.length : Int) (k + 1) id g M lv c m s wt ds, rfl, by simp only [pB1, Bool.and_eq_true, decide_eq_true_eq]; exact ⟨⟨⟨by omega, trivial⟩, h3⟩, h4⟩, by simp only [mB1]; omega, ?_⟩
        rw [hr']
        simp only [fB1, xB, hj2, Bool.false_or, cond_false]
        cases anQ (qI ws id) (k + 1) j <;> rfl
    · rw [decide_eq_false hk]
      rw [show ((ws.length : Int) - k).toNat = 0 by omega] at hr'
      exact .inl (by rw [hr']; rfl)
  · cases hp
noncomputable def X4 : EnvK := X0.addW 58 2 [0, 1, 7, 8] [] shB1 pB1 fB1
theorem okX4 : EnvOK Tryz.prog X4.env :=
  okX0.addW (n := 60) Tryz.func58 (show Tryz.f58.body = some (bod Tryz.f58) by kernel_rfl) (show (loops (bod Tryz.f58)).filter (fun b => rid b == 2) = [lpb Tryz.f58 2] by kernel_rfl) [0, 1, 7, 8] [4] [] shB1 mB1 sB1
theorem qB2 (f : Bool) (ws : List PV) (n k : Int) (id : Int) (g : Bool) (M : List PV) (lv : Int) (c m : ByteArray) (s : Bool) (wt ds : Int) :
  runB Tryz.prog X4 60 58 (lpb Tryz.f58 2) [0, 1, 7, 8] [4] (shB2.put (lB1 f ws n k id g M lv c m s wt ds)).1 (shB2.put (lB1 f ws n k id g M lv c m s wt ds)).2 =
  bif decide (k < n) then bif inr ws k then bif wLv (ws.getD k.toNat .any) == lv then bif big (wL (ws.getD k.toNat .any)) && big M then bif crx (wL (ws.getD k.toNat .any)) M then
    some (.ret, tm 19 [(4, iv k)], hB1 id g M lv c m s wt ds) else some (.normal, shB2.put (lB1 f ws n (W (k + 1)) id g M lv c m s wt ds)) else none
    else some (.normal, shB2.put (lB1 f ws n (W (k + 1)) id g M lv c m s wt ds)) else none
  else some (.exit 0, tm 19 [], hB1 id g M lv c m s wt ds) := by kernel_rfl
theorem sB2 : ∀ s r, pB1 s = true → (fB2 s).run = some r → r.1 ≠ .normal ∧ (runB Tryz.prog X4 60 58 (lpb Tryz.f58 2) [0, 1, 7, 8] [4] (shB2.put s).1 (shB2.put s).2 = some r ∨
      ∃ s', runB Tryz.prog X4 60 58 (lpb Tryz.f58 2) [0, 1, 7, 8] [4] (shB2.put s).1 (shB2.put s).2 = some (.normal, shB2.put s') ∧ pB1 s' = true ∧ mB1 s' < mB1 s ∧ (fB2 s').run = some r) := by
  intro t r hp hr
  unfold pB1 at hp; split at hp
  · rename_i f ws n k id g M lv c m s wt ds
    simp only [Bool.and_eq_true, decide_eq_true_eq] at hp
    obtain ⟨⟨⟨h1, rfl⟩, h3⟩, h4⟩ := hp
    have hr' := xB_run hr
    have hb := okB_len h3
    refine ⟨by rw [hr']; cases anQ (qC2 ws lv M) k ((ws.length : Int) - k).toNat <;> simp, ?_⟩
    rw [show shB2.put ([.l f ws, .i (ws.length : Int), .i k], [.i id, .l g M, .i lv, .s c, .s m, .b s, .i wt, .i ds]) = shB2.put (lB1 f ws (ws.length : Int) k id g M lv c m s wt ds) from rfl, qB2]
    by_cases hk : k < (ws.length : Int)
    · have hbg : (big (wL (ws.getD k.toNat .any)) && big M) = true := by
        have := okB_at h3 h1 hk
        rw [Bool.and_eq_true]; exact ⟨this, by simpa using h4⟩
      rw [decide_eq_true hk, cond_true, inr_of h1 hk, hbg, W_id (n := k + 1) (by omega) (by omega)]
      obtain ⟨j, hj⟩ : ∃ j, ((ws.length : Int) - k).toNat = j + 1 := ⟨((ws.length : Int) - k).toNat - 1, by omega⟩
      have hj2 : ((ws.length : Int) - (k + 1)).toNat = j := by omega
      rw [hj] at hr'
      simp only [anQ, fsI] at hr'
      cases he : qC2 ws lv M k with
      | true =>
        rw [he] at hr'
        obtain ⟨e1, e2⟩ := Bool.and_eq_true_iff.1 he
        rw [e1, e2]
        exact .inl (by rw [hr']; rfl)
      | false =>
        rw [he] at hr'
        refine .inr ⟨lB1 f ws (ws.length : Int) (k + 1) id g M lv c m s wt ds, ?_, by simp only [pB1, Bool.and_eq_true, decide_eq_true_eq]; exact ⟨⟨⟨by omega, trivial⟩, h3⟩, h4⟩, by simp only [mB1]; omega, ?_⟩
        · have he' : ((wLv (ws.getD k.toNat .any) == lv) && crx (wL (ws.getD k.toNat .any)) M) = false := he
          cases e1 : wLv (ws.getD k.toNat .any) == lv with
          | false => rfl
          | true => rw [e1, Bool.true_and] at he'; rw [he']; rfl
        · rw [hr']
          simp only [fB2, xB, hj2, Bool.false_or, cond_false]
          cases anQ (qC2 ws lv M) (k + 1) j <;> rfl
    · rw [decide_eq_false hk]
      rw [show ((ws.length : Int) - k).toNat = 0 by omega] at hr'
      exact .inl (by rw [hr']; rfl)
  · cases hp
noncomputable def X5 : EnvK := X4.addW 58 2 [0, 1, 7, 8] [] shB2 pB1 fB2
theorem okX5 : EnvOK Tryz.prog X5.env :=
  okX4.addW (n := 60) Tryz.func58 (show Tryz.f58.body = some (bod Tryz.f58) by kernel_rfl) (show (loops (bod Tryz.f58)).filter (fun b => rid b == 2) = [lpb Tryz.f58 2] by kernel_rfl) [0, 1, 7, 8] [4] [] shB2 mB1 sB2
/-! ContainsFunc. -/
theorem qCF1 (f : Bool) (ws : List PV) (id : Int) (g : Bool) (M : List PV) (lv : Int) (c m : ByteArray) (s : Bool) (wt ds : Int) :
  runR Tryz.prog X5 60 0 33 [.lst f 44 ws, .fn (.func 34) [] [.ptr 0 1 0 0]] (hB1 id g M lv c m s wt ds) =
  bif pB1 (lB1 f ws (ws.length : Int) 0 id g M lv c m s wt ds) then bif anQ (qI ws id) 0 ((ws.length : Int) - 0).toNat then some (bv (decide (fsI (qI ws id) 0 ((ws.length : Int) - 0).toNat ≥ 0)), hB1 id g M lv c m s wt ds) else some (bv false, hB1 id g M lv c m s wt ds) else none := by kernel_rfl
theorem qCF2 (f : Bool) (ws : List PV) (id : Int) (g : Bool) (M : List PV) (lv : Int) (c m : ByteArray) (s : Bool) (wt ds : Int) :
  runR Tryz.prog X5 60 0 33 [.lst f 44 ws, .fn (.func 37) [] [.ptr 0 1 0 0]] (hB1 id g M lv c m s wt ds) =
  bif pB1 (lB1 f ws (ws.length : Int) 0 id g M lv c m s wt ds) then bif anQ (qC2 ws lv M) 0 ((ws.length : Int) - 0).toNat then some (bv (decide (fsI (qC2 ws lv M) 0 ((ws.length : Int) - 0).toNat ≥ 0)), hB1 id g M lv c m s wt ds) else some (bv false, hB1 id g M lv c m s wt ds) else none := by kernel_rfl
def okC (ws M : List PV) : Bool := okB ws && big M
theorem okC_p {ws M : List PV} (h : okC ws M = true) (f : Bool) (id : Int) (g : Bool) (lv : Int) (c m : ByteArray) (s : Bool) (wt ds : Int) : pB1 (lB1 f ws (ws.length : Int) 0 id g M lv c m s wt ds) = true := by
  unfold okC at h
  rw [Bool.and_eq_true] at h
  simp only [pB1, Bool.and_eq_true, decide_eq_true_eq]
  exact ⟨⟨⟨Int.le_refl _, trivial⟩, h.1⟩, by simpa using h.2⟩
theorem qCF1' {ws M : List PV} (h : okC ws M = true) (f : Bool) (id : Int) (g : Bool) (lv : Int) (c m : ByteArray) (s : Bool) (wt ds : Int) :
  runR Tryz.prog X5 60 0 33 [.lst f 44 ws, .fn (.func 34) [] [.ptr 0 1 0 0]] (hB1 id g M lv c m s wt ds) = some (bv (anyI ws id 0 ws.length), hB1 id g M lv c m s wt ds) := by
  rw [qCF1, okC_p h, show ((ws.length : Int) - 0).toNat = ws.length by omega, fsI_ge _ _ (Int.le_refl _), anyI_q]
  cases anyI ws id 0 ws.length <;> rfl
theorem qCF2' {ws M : List PV} (h : okC ws M = true) (f : Bool) (id : Int) (g : Bool) (lv : Int) (c m : ByteArray) (s : Bool) (wt ds : Int) :
  runR Tryz.prog X5 60 0 33 [.lst f 44 ws, .fn (.func 37) [] [.ptr 0 1 0 0]] (hB1 id g M lv c m s wt ds) = some (bv (anyC ws lv M 0 ws.length), hB1 id g M lv c m s wt ds) := by
  rw [qCF2, okC_p h, show ((ws.length : Int) - 0).toNat = ws.length by omega, fsI_ge _ _ (Int.le_refl _), anyC_q]
  cases anyC ws lv M 0 ws.length <;> rfl
noncomputable def cCF : List PV → List Row → Option (DT (PV × List Row))
  | [.lst _ 44 ws, .fn (.func 34) [] [.ptr 0 1 0 0]], [⟨[.agg [.val (.int .i64 id), .lst g 37 M, .val (.int .i64 lv), .val (.string c), .val (.string m), .val (.bool s), .val (.int .i64 wt), .val (.int .i64 ds)]], 8, 44, false, true, false, none, false⟩] =>
    some (.br (okC ws M) (.leaf (bv (anyI ws id 0 ws.length), hB1 id g M lv c m s wt ds)) .no)
  | [.lst _ 44 ws, .fn (.func 37) [] [.ptr 0 1 0 0]], [⟨[.agg [.val (.int .i64 id), .lst g 37 M, .val (.int .i64 lv), .val (.string c), .val (.string m), .val (.bool s), .val (.int .i64 wt), .val (.int .i64 ds)]], 8, 44, false, true, false, none, false⟩] =>
    some (.br (okC ws M) (.leaf (bv (anyC ws lv M 0 ws.length), hB1 id g M lv c m s wt ds)) .no)
  | _, _ => none
theorem eCF : Hx.Enters Tryz.prog 33 := (runR_sound okX5 (qCF1' (ws := []) (M := []) rfl true 0 true 0 .empty .empty false 0 0)).1
theorem oCF (args : List PV) (H : List Row) (d : DT (PV × List Row)) (p : PV) (H' : List Row) (h : cCF args H = some d) (hd : d.run = some (p, H')) : RCall Tryz.prog 0 33 args H p H' := by
  unfold cCF at h; split at h
  · cases h
    obtain ⟨hc, he⟩ := run_br hd
    cases he
    exact (runR_sound okX5 (qCF1' hc ..)).2
  · cases h
    obtain ⟨hc, he⟩ := run_br hd
    cases he
    exact (runR_sound okX5 (qCF2' hc ..)).2
  · cases h
noncomputable def X6 : EnvK := X0.addR 33 cCF
theorem okX6 : EnvOK Tryz.prog X6.env := okX0.addR eCF oCF
end Go.Hn
/- Network: network.Check as a contract: the same as the reference's. -/
namespace Go.Hn
open Go.Hx Go.Hg Go.Proofs
def shD3 : Hx.S1 := ⟨46, [(0, .lst 44), (10, .lst 44), (11, I64), (12, I64)], []⟩
abbrev lD3 (f : Bool) (ws : List PV) (g : Bool) (vs : List PV) (n i : Int) : LS := ([.l f ws, .l g vs, .i n, .i i], [])
def rt46 (c : Int) : Option (PX × List PV × List Row) := some (.ret, tm 46 [(2, iv c)], [])
theorem qD3 (f : Bool) (ws : List PV) (g : Bool) (vs : List PV) (n i : Int) : runB Tryz.prog X6 60 13 (lpb Tryz.f13 4) [0, 10, 11, 12] [2] (shD3.put (lD3 f ws g vs n i)).1 (shD3.put (lD3 f ws g vs n i)).2 =
  bif decide (i < n) then bif inr vs i then bif decide (wN vs i < 1) then rt46 1 else
    bif decide (0 ≤ i) && decide (i ≤ (ws.length : Int)) then bif okC (ws.take i.toNat) (wL (vs.getD i.toNat .any)) then bif anyI (ws.take i.toNat) (wN vs i) 0 (ws.take i.toNat).length then rt46 6 else
    bif chk (wL (vs.getD i.toNat .any)) != 0 then rt46 (chk (wL (vs.getD i.toNat .any))) else
    bif decide (-2 ≤ wLv (vs.getD i.toNat .any)) then bif !decide (wLv (vs.getD i.toNat .any) ≤ 2) then rt46 3 else bif decide (1 ≤ wWt (vs.getD i.toNat .any)) then bif !decide (wWt (vs.getD i.toNat .any) ≤ 255) then rt46 3 else
      bif okC (ws.take i.toNat) (wL (vs.getD i.toNat .any)) then bif anyC (ws.take i.toNat) (wLv (vs.getD i.toNat .any)) (wL (vs.getD i.toNat .any)) 0 (ws.take i.toNat).length then rt46 16 else some (.normal, shD3.put (lD3 f ws g vs n (W (i + 1)))) else none
    else rt46 3 else rt46 3 else none else none else none
  else some (.exit 0, tm 46 [], []) := by kernel_rfl
theorem wN_take {ws : List PV} {m : Nat} {k : Int} (h0 : 0 ≤ k) (h : k < (m : Int)) : (ws.take m).getD k.toNat .any = ws.getD k.toNat .any := by
  rw [List.getD_eq_getElem?_getD, List.getD_eq_getElem?_getD, List.getElem?_take, if_pos (by omega)]
theorem anyI_take (ws : List PV) (id : Int) (m : Nat) : ∀ (n : Nat) (k : Int), 0 ≤ k → k + n ≤ (m : Int) → anyI (ws.take m) id k n = anyI ws id k n
  | 0, _, _, _ => rfl
  | n + 1, k, h0, h => by
    unfold anyI wN
    rw [wN_take h0 (by omega), anyI_take ws id m n (k + 1) (by omega) (by omega)]
theorem anyC_take (ws : List PV) (lv : Int) (M : List PV) (m : Nat) : ∀ (n : Nat) (k : Int), 0 ≤ k → k + n ≤ (m : Int) → anyC (ws.take m) lv M k n = anyC ws lv M k n
  | 0, _, _, _ => rfl
  | n + 1, k, h0, h => by
    unfold anyC
    rw [wN_take h0 (by omega), anyC_take ws lv M m n (k + 1) (by omega) (by omega)]
theorem okB_take {ws : List PV} (h : okB ws = true) (m : Nat) : okB (ws.take m) = true := by
  unfold okB at *
  rw [Bool.and_eq_true, List.all_eq_true, decide_eq_true_eq] at *
  exact ⟨by rw [List.length_take]; omega, fun e he => h.2 e (List.mem_of_mem_take he)⟩
noncomputable def pD3 : LS → Bool
  | ([.l _ ws, .l _ vs, .i n, .i i], []) => decide (0 ≤ i) && decide (n = (ws.length : Int)) && okB ws && same ws vs
  | _ => false
def fD3 : LS → DT (PX × List PV × List Row)
  | ([.l _ ws, .l _ _, .i n, .i i], []) => .br (errF ws i (n - i).toNat == 0) (.leaf (.exit 0, tm 46 [], [])) (.leaf (.ret, tm 46 [(2, iv (errF ws i (n - i).toNat))], []))
  | _ => .no
def mD3 : LS → Nat
  | ([.l _ _, .l _ _, .i n, .i i], []) => (n - i).toNat
  | _ => 0
theorem rndD {ws : List PV} {i : Int} (h1 : 0 ≤ i) (hi : i < (ws.length : Int)) (h7 : okB ws = true) {α : Type} (rt : Int → Option α) (nx : Option α) (e : PV) (he : e = ws.getD i.toNat .any) :
  (bif decide (wI e < 1) then rt 1 else
    bif decide (0 ≤ i) && decide (i ≤ (ws.length : Int)) then bif okC (ws.take i.toNat) (wL e) then bif anyI (ws.take i.toNat) (wI e) 0 (ws.take i.toNat).length then rt 6 else
    bif chk (wL e) != 0 then rt (chk (wL e)) else
    bif decide (-2 ≤ wLv e) then bif !decide (wLv e ≤ 2) then rt 3 else bif decide (1 ≤ wWt e) then bif !decide (wWt e ≤ 255) then rt 3 else
      bif okC (ws.take i.toNat) (wL e) then bif anyC (ws.take i.toNat) (wLv e) (wL e) 0 (ws.take i.toNat).length then rt 16 else nx else none
    else rt 3 else rt 3 else none else none) = bif errW ws i != 0 then rt (errW ws i) else nx := by
  have hb := okB_len h7
  have hbg : big (wL e) = true := by
    have := okB_at h7 h1 hi
    rw [← he] at this
    exact this
  have hl : (ws.take i.toNat).length = i.toNat := by rw [List.length_take]; omega
  have hok : okC (ws.take i.toNat) (wL e) = true := by unfold okC; rw [okB_take h7, hbg]; rfl
  rw [hok, hl, anyI_take ws _ _ _ 0 (Int.le_refl _) (by omega), anyC_take ws _ _ _ _ 0 (Int.le_refl _) (by omega), decide_eq_true h1, decide_eq_true (show i ≤ (ws.length : Int) by omega)]
  unfold errW rngB wN
  rw [← he]
  have e1 : decide (-2 ≤ wLv e) = !decide (wLv e < -2) := by rw [← decide_not, decide_eq_decide]; omega
  have e2 : decide (wLv e ≤ 2) = !decide (wLv e > 2) := by rw [← decide_not, decide_eq_decide]; omega
  have e3 : decide (1 ≤ wWt e) = !decide (wWt e < 1) := by rw [← decide_not, decide_eq_decide]; omega
  have e4 : decide (wWt e ≤ 255) = !decide (wWt e > 255) := by rw [← decide_not, decide_eq_decide]; omega
  rw [e1, e2, e3, e4]
  cases decide (wI e < 1) <;> cases anyI ws (wI e) 0 i.toNat <;> cases hc : (chk (wL e) != 0) <;> cases decide (wLv e < -2) <;> cases decide (wLv e > 2) <;> cases decide (wWt e < 1) <;> cases decide (wWt e > 255) <;> cases anyC ws (wLv e) (wL e) 0 i.toNat <;> simp [hc]
theorem sD3 : ∀ s r, pD3 s = true → (fD3 s).run = some r → r.1 ≠ .normal ∧ (runB Tryz.prog X6 60 13 (lpb Tryz.f13 4) [0, 10, 11, 12] [2] (shD3.put s).1 (shD3.put s).2 = some r ∨
      ∃ s', runB Tryz.prog X6 60 13 (lpb Tryz.f13 4) [0, 10, 11, 12] [2] (shD3.put s).1 (shD3.put s).2 = some (.normal, shD3.put s') ∧ pD3 s' = true ∧ mD3 s' < mD3 s ∧ (fD3 s').run = some r) := by
  intro t r hp hr
  unfold pD3 at hp; split at hp
  · rename_i f ws g vs n i
    simp only [Bool.and_eq_true, decide_eq_true_eq, same_iff] at hp
    obtain ⟨⟨⟨h1, rfl⟩, h7⟩, rfl⟩ := hp
    have hr' := run_br2 hr
    have hb := okB_len h7
    refine ⟨by rw [hr']; cases (errF ws i ((ws.length : Int) - i).toNat == 0) <;> simp, ?_⟩
    rw [show shD3.put ([.l f ws, .l g ws, .i (ws.length : Int), .i i], []) = shD3.put (lD3 f ws g ws (ws.length : Int) i) from rfl, qD3]
    by_cases hi : i < (ws.length : Int)
    · rw [decide_eq_true hi, cond_true, inr_of h1 hi, cond_true, W_id (n := i + 1) (by omega) (by omega)]
      obtain ⟨m, hm⟩ : ∃ m, ((ws.length : Int) - i).toNat = m + 1 := ⟨((ws.length : Int) - i).toNat - 1, by omega⟩
      have hm2 : ((ws.length : Int) - (i + 1)).toNat = m := by omega
      rw [hm] at hr'
      simp only [errF] at hr'
      have key := rndD h1 hi h7 rt46 (some (PX.normal, shD3.put (lD3 f ws g ws (ws.length : Int) (i + 1)))) (ws.getD i.toNat .any) rfl
      unfold wN
      rw [key]
      cases hc : errW ws i != 0 with
      | true =>
        rw [hc] at hr'
        simp only [cond_true] at hr'
        rw [show (errW ws i == 0) = false by rw [bne] at hc; simpa using hc] at hr'
        exact .inl (by rw [hr']; rfl)
      | false =>
        rw [hc] at hr'
        refine .inr ⟨lD3 f ws g ws (ws.length : Int) (i + 1), rfl, by simp only [pD3, Bool.and_eq_true, decide_eq_true_eq, same_iff]; exact ⟨⟨⟨by omega, trivial⟩, h7⟩, trivial⟩, by simp only [mD3]; omega, ?_⟩
        rw [hr']
        simp only [fD3, hm2, cond_false]
        cases (errF ws (i + 1) m == 0) <;> rfl
    · rw [decide_eq_false hi]
      rw [show ((ws.length : Int) - i).toNat = 0 by omega] at hr'
      exact .inl (by rw [hr']; rfl)
  · cases hp
noncomputable def X7 : EnvK := X6.addW 13 4 [0, 10, 11, 12] [] shD3 pD3 fD3
theorem okX7 : EnvOK Tryz.prog X7.env :=
  okX6.addW (n := 60) Tryz.func13 (show Tryz.f13.body = some (bod Tryz.f13) by kernel_rfl) (show (loops (bod Tryz.f13)).filter (fun b => rid b == 4) = [lpb Tryz.f13 4] by kernel_rfl) [0, 10, 11, 12] [2] [] shD3 mD3 sD3
theorem qNChk (f : Bool) (ws : List PV) : runP Tryz.prog X7 60 13 [.lst f 44 ws] =
  bif decide ((ws.length : Int) > 80) then some (iv 2) else bif pD3 (lD3 f ws f ws (ws.length : Int) 0) then bif errF ws 0 ((ws.length : Int) - 0).toNat == 0 then some (iv 0) else some (iv (errF ws 0 ((ws.length : Int) - 0).toNat)) else none := by kernel_rfl
theorem qNChk' (f : Bool) (ws : List PV) (h : okB ws = true) : runP Tryz.prog X7 60 13 [.lst f 44 ws] = some (iv (chkF ws)) := by
  rw [qNChk, show pD3 (lD3 f ws f ws (ws.length : Int) 0) = true by simp [pD3, h, same_self], show ((ws.length : Int) - 0).toNat = ws.length by omega]
  unfold chkF
  cases decide ((ws.length : Int) > 80)
  · simp only [cond_false, cond_true]
    cases hc : errF ws 0 ws.length == 0
    · rfl
    · rw [beq_iff_eq] at hc; rw [hc]; rfl
  · rfl
theorem eChW : Hx.Enters Tryz.prog 13 := (runP_sound okX7 (n := 60) (qNChk' true [] rfl)).1
theorem oChW (args : List PV) (d : DT PV) (r : PV) (h : cChW args = some d) (hr : d.run = some r) : PCall Tryz.prog 13 args r := by
  unfold cChW at h; split at h
  · cases h
    obtain ⟨h1, rfl⟩ := run_br hr
    exact (runP_sound okX7 (n := 60) (qNChk' _ _ h1)).2
  · cases h
end Go.Hn
/- Network: network.Cross as a contract (printed by genya.py). -/
namespace Go.Hn
open Go.Hx Go.Hg Go.Proofs
def shC1 : Hx.S1 := ⟨52, [(2, .ptr 0 1 0 0), (3, .ptr 1 1 0 0), (5, I64), (6, I64)], [.one 44 8 wayX, .one 44 8 wayX]⟩
abbrev lC1 (i k : Int) (a1 : Int) (a2 : Bool) (A : List PV) (a3 : Int) (a4 a5 : ByteArray) (a6 : Bool) (a7 a8 : Int) (b1 : Int) (b2 : Bool) (B : List PV) (b3 : Int) (b4 b5 : ByteArray) (b6 : Bool) (b7 b8 : Int) : LS := ([.i i, .i k], [.i a1, .l a2 A, .i a3, .s a4, .s a5, .b a6, .i a7, .i a8, .i b1, .l b2 B, .i b3, .s b4, .s b5, .b b6, .i b7, .i b8])
noncomputable abbrev hC1 (a1 : Int) (a2 : Bool) (A : List PV) (a3 : Int) (a4 a5 : ByteArray) (a6 : Bool) (a7 a8 : Int) (b1 : Int) (b2 : Bool) (B : List PV) (b3 : Int) (b4 b5 : ByteArray) (b6 : Bool) (b7 b8 : Int) : List Row := (shC1.put (lC1 0 0 a1 a2 A a3 a4 a5 a6 a7 a8 b1 b2 B b3 b4 b5 b6 b7 b8)).2
theorem qC1 (i k : Int) (a1 : Int) (a2 : Bool) (A : List PV) (a3 : Int) (a4 a5 : ByteArray) (a6 : Bool) (a7 a8 : Int) (b1 : Int) (b2 : Bool) (B : List PV) (b3 : Int) (b4 b5 : ByteArray) (b6 : Bool) (b7 b8 : Int) : runB Tryz.prog X0 60 22 (lpb Tryz.f22 5) [2, 3, 5, 6] [2, 3, 4, 5] (shC1.put (lC1 i k a1 a2 A a3 a4 a5 a6 a7 a8 b1 b2 B b3 b4 b5 b6 b7 b8)).1 (shC1.put (lC1 i k a1 a2 A a3 a4 a5 a6 a7 a8 b1 b2 B b3 b4 b5 b6 b7 b8)).2 =
  bif decide (k < (B.length : Int)) then bif inr A (W (i - 1)) then bif inr A i then bif inr B (W (k - 1)) then bif inr B k then
    bif decide (mt4 A (W (i - 1)) i B (W (k - 1)) k > 0) then some (.ret, tm 52 [(2, .ptr 0 1 0 0), (3, .ptr 1 1 0 0), (4, bv true), (5, iv i)], hC1 a1 a2 A a3 a4 a5 a6 a7 a8 b1 b2 B b3 b4 b5 b6 b7 b8) else some (.normal, shC1.put (lC1 i (W (k + 1)) a1 a2 A a3 a4 a5 a6 a7 a8 b1 b2 B b3 b4 b5 b6 b7 b8)) else none else none else none else none
  else some (.exit 2, tm 52 [(2, .ptr 0 1 0 0), (3, .ptr 1 1 0 0), (5, iv i)], hC1 a1 a2 A a3 a4 a5 a6 a7 a8 b1 b2 B b3 b4 b5 b6 b7 b8) := by kernel_rfl
def mtP (A B : List PV) (i k : Int) : Bool := decide (mt4 A (i - 1) i B (k - 1) k > 0)
def anM1 (A B : List PV) (i : Int) : Int → Nat → Bool
  | _, 0 => false
  | k, n + 1 => mtP A B i k || anM1 A B i (k + 1) n
def pC1 : LS → Bool
  | ([.i i, .i k], [.i _, .l _ A, .i _, .s _, .s _, .b _, .i _, .i _, .i _, .l _ B, .i _, .s _, .s _, .b _, .i _, .i _]) => decide (1 ≤ i) && decide (i < (A.length : Int)) && decide (1 ≤ k) && big A && big B
  | _ => false
noncomputable def fC1 : LS → DT (PX × List PV × List Row)
  | ([.i i, .i k], [.i a1, .l a2 A, .i a3, .s a4, .s a5, .b a6, .i a7, .i a8, .i b1, .l b2 B, .i b3, .s b4, .s b5, .b b6, .i b7, .i b8]) => .br (anM1 A B i k ((B.length : Int) - k).toNat) (.leaf (.ret, tm 52 [(2, .ptr 0 1 0 0), (3, .ptr 1 1 0 0), (4, bv true), (5, iv i)], hC1 a1 a2 A a3 a4 a5 a6 a7 a8 b1 b2 B b3 b4 b5 b6 b7 b8)) (.leaf (.exit 2, tm 52 [(2, .ptr 0 1 0 0), (3, .ptr 1 1 0 0), (5, iv i)], hC1 a1 a2 A a3 a4 a5 a6 a7 a8 b1 b2 B b3 b4 b5 b6 b7 b8))
  | _ => .no
def mC1 : LS → Nat
  | ([.i _, .i k], [.i _, .l _ A, .i _, .s _, .s _, .b _, .i _, .i _, .i _, .l _ B, .i _, .s _, .s _, .b _, .i _, .i _]) => ((B.length : Int) - k).toNat + 0 * A.length
  | _ => 0
theorem sC1 : ∀ s r, pC1 s = true → (fC1 s).run = some r → r.1 ≠ .normal ∧ (runB Tryz.prog X0 60 22 (lpb Tryz.f22 5) [2, 3, 5, 6] [2, 3, 4, 5] (shC1.put s).1 (shC1.put s).2 = some r ∨
      ∃ s', runB Tryz.prog X0 60 22 (lpb Tryz.f22 5) [2, 3, 5, 6] [2, 3, 4, 5] (shC1.put s).1 (shC1.put s).2 = some (.normal, shC1.put s') ∧ pC1 s' = true ∧ mC1 s' < mC1 s ∧ (fC1 s').run = some r) := by
  intro t r hp hr
  unfold pC1 at hp; split at hp
  · rename_i i k a1 a2 A a3 a4 a5 a6 a7 a8 b1 b2 B b3 b4 b5 b6 b7 b8
    simp only [Bool.and_eq_true, decide_eq_true_eq] at hp
    obtain ⟨⟨⟨⟨h1, h2⟩, h3⟩, h4⟩, h5⟩ := hp
    have hr' := run_br2 hr
    refine ⟨by rw [hr']; cases anM1 A B i k ((B.length : Int) - k).toNat <;> simp, ?_⟩
    rw [show shC1.put ([.i i, .i k], [.i a1, .l a2 A, .i a3, .s a4, .s a5, .b a6, .i a7, .i a8, .i b1, .l b2 B, .i b3, .s b4, .s b5, .b b6, .i b7, .i b8]) = shC1.put (lC1 i k a1 a2 A a3 a4 a5 a6 a7 a8 b1 b2 B b3 b4 b5 b6 b7 b8) from rfl, qC1]
    by_cases hk : k < (B.length : Int)
    · rw [decide_eq_true hk, cond_true, W_id (n := i - 1) (by omega) (by omega), W_id (n := k - 1) (by omega) (by omega), W_id (n := k + 1) (by omega) (by omega), inr_of (es := A) (i := i - 1) (by omega) (by omega), inr_of (es := A) (i := i) (by omega) h2, inr_of (es := B) (i := k - 1) (by omega) (by omega), inr_of (es := B) (i := k) (by omega) hk]
      obtain ⟨m, hm⟩ : ∃ m, ((B.length : Int) - k).toNat = m + 1 := ⟨((B.length : Int) - k).toNat - 1, by omega⟩
      have hm2 : ((B.length : Int) - (k + 1)).toNat = m := by omega
      rw [hm] at hr'
      simp only [anM1] at hr'
      rw [show decide (mt4 A (i - 1) i B (k - 1) k > 0) = mtP A B i k from rfl]
      cases he : mtP A B i k with
      | true => rw [he] at hr'; exact .inl (by rw [hr']; rfl)
      | false =>
        rw [he] at hr'
        refine .inr ⟨lC1 i (k + 1) a1 a2 A a3 a4 a5 a6 a7 a8 b1 b2 B b3 b4 b5 b6 b7 b8, rfl, by simp only [pC1, Bool.and_eq_true, decide_eq_true_eq]; exact ⟨⟨⟨⟨h1, h2⟩, by omega⟩, h4⟩, h5⟩, by simp only [mC1]; omega, ?_⟩
        rw [hr']
        simp only [fC1, hm2, Bool.false_or]
        cases anM1 A B i (k + 1) m <;> rfl
    · rw [decide_eq_false hk]
      rw [show ((B.length : Int) - k).toNat = 0 by omega] at hr'
      exact .inl (by rw [hr']; rfl)
  · cases hp
noncomputable def Z1 : EnvK := X0.addW 22 5 [2, 3, 5, 6] [] shC1 pC1 fC1
theorem okZ1 : EnvOK Tryz.prog Z1.env :=
  okX0.addW (n := 60) Tryz.func22 (show Tryz.f22.body = some (bod Tryz.f22) by kernel_rfl) (show (loops (bod Tryz.f22)).filter (fun b => rid b == 5) = [lpb Tryz.f22 5] by kernel_rfl) [2, 3, 5, 6] [2, 3, 4, 5] [] shC1 mC1 sC1
def shC2 : Hx.S1 := ⟨52, [(2, .ptr 0 1 0 0), (3, .ptr 1 1 0 0), (5, I64)], [.one 44 8 wayX, .one 44 8 wayX]⟩
abbrev lC2 (i : Int) (a1 : Int) (a2 : Bool) (A : List PV) (a3 : Int) (a4 a5 : ByteArray) (a6 : Bool) (a7 a8 : Int) (b1 : Int) (b2 : Bool) (B : List PV) (b3 : Int) (b4 b5 : ByteArray) (b6 : Bool) (b7 b8 : Int) : LS := ([.i i], [.i a1, .l a2 A, .i a3, .s a4, .s a5, .b a6, .i a7, .i a8, .i b1, .l b2 B, .i b3, .s b4, .s b5, .b b6, .i b7, .i b8])
theorem qC2' (i : Int) (a1 : Int) (a2 : Bool) (A : List PV) (a3 : Int) (a4 a5 : ByteArray) (a6 : Bool) (a7 a8 : Int) (b1 : Int) (b2 : Bool) (B : List PV) (b3 : Int) (b4 b5 : ByteArray) (b6 : Bool) (b7 b8 : Int) : runB Tryz.prog Z1 60 22 (lpb Tryz.f22 2) [2, 3, 5] [4] (shC2.put (lC2 i a1 a2 A a3 a4 a5 a6 a7 a8 b1 b2 B b3 b4 b5 b6 b7 b8)).1 (shC2.put (lC2 i a1 a2 A a3 a4 a5 a6 a7 a8 b1 b2 B b3 b4 b5 b6 b7 b8)).2 =
  bif decide (i < (A.length : Int)) then bif a3 != b3 then bif pC1 (lC1 i 1 a1 a2 A a3 a4 a5 a6 a7 a8 b1 b2 B b3 b4 b5 b6 b7 b8) then bif anM1 A B i 1 ((B.length : Int) - 1).toNat then some (.ret, tm 52 [(4, bv true)], hC1 a1 a2 A a3 a4 a5 a6 a7 a8 b1 b2 B b3 b4 b5 b6 b7 b8) else some (.normal, shC2.put (lC2 (W (i + 1)) a1 a2 A a3 a4 a5 a6 a7 a8 b1 b2 B b3 b4 b5 b6 b7 b8)) else none
    else some (.exit 0, tm 52 [], hC1 a1 a2 A a3 a4 a5 a6 a7 a8 b1 b2 B b3 b4 b5 b6 b7 b8) else some (.exit 0, tm 52 [], hC1 a1 a2 A a3 a4 a5 a6 a7 a8 b1 b2 B b3 b4 b5 b6 b7 b8) := by kernel_rfl
def anM2 (A B : List PV) : Int → Nat → Bool
  | _, 0 => false
  | i, n + 1 => anM1 A B i 1 ((B.length : Int) - 1).toNat || anM2 A B (i + 1) n
def pC2 : LS → Bool
  | ([.i i], [.i _, .l _ A, .i _, .s _, .s _, .b _, .i _, .i _, .i _, .l _ B, .i _, .s _, .s _, .b _, .i _, .i _]) => decide (1 ≤ i) && big A && big B
  | _ => false
noncomputable def fC2 : LS → DT (PX × List PV × List Row)
  | ([.i i], [.i a1, .l a2 A, .i a3, .s a4, .s a5, .b a6, .i a7, .i a8, .i b1, .l b2 B, .i b3, .s b4, .s b5, .b b6, .i b7, .i b8]) => .br ((a3 != b3) && anM2 A B i ((A.length : Int) - i).toNat) (.leaf (.ret, tm 52 [(4, bv true)], hC1 a1 a2 A a3 a4 a5 a6 a7 a8 b1 b2 B b3 b4 b5 b6 b7 b8)) (.leaf (.exit 0, tm 52 [], hC1 a1 a2 A a3 a4 a5 a6 a7 a8 b1 b2 B b3 b4 b5 b6 b7 b8))
  | _ => .no
def mC2 : LS → Nat
  | ([.i i], [.i _, .l _ A, .i _, .s _, .s _, .b _, .i _, .i _, .i _, .l _ B, .i _, .s _, .s _, .b _, .i _, .i _]) => ((A.length : Int) - i).toNat + 0 * B.length
  | _ => 0
theorem sC2 : ∀ s r, pC2 s = true → (fC2 s).run = some r → r.1 ≠ .normal ∧ (runB Tryz.prog Z1 60 22 (lpb Tryz.f22 2) [2, 3, 5] [4] (shC2.put s).1 (shC2.put s).2 = some r ∨
      ∃ s', runB Tryz.prog Z1 60 22 (lpb Tryz.f22 2) [2, 3, 5] [4] (shC2.put s).1 (shC2.put s).2 = some (.normal, shC2.put s') ∧ pC2 s' = true ∧ mC2 s' < mC2 s ∧ (fC2 s').run = some r) := by
  intro t r hp hr
  unfold pC2 at hp; split at hp
  · rename_i i a1 a2 A a3 a4 a5 a6 a7 a8 b1 b2 B b3 b4 b5 b6 b7 b8
    simp only [Bool.and_eq_true, decide_eq_true_eq] at hp
    obtain ⟨⟨h1, h4⟩, h5⟩ := hp
    have hr' := run_br2 hr
    refine ⟨by rw [hr']; cases ((a3 != b3) && anM2 A B i ((A.length : Int) - i).toNat) <;> simp, ?_⟩
    rw [show shC2.put ([.i i], [.i a1, .l a2 A, .i a3, .s a4, .s a5, .b a6, .i a7, .i a8, .i b1, .l b2 B, .i b3, .s b4, .s b5, .b b6, .i b7, .i b8]) = shC2.put (lC2 i a1 a2 A a3 a4 a5 a6 a7 a8 b1 b2 B b3 b4 b5 b6 b7 b8) from rfl, qC2']
    by_cases hi : i < (A.length : Int)
    · rw [decide_eq_true hi, cond_true]
      cases hl : a3 != b3 with
      | false => rw [hl] at hr'; exact .inl (by rw [hr']; rfl)
      | true =>
        rw [hl] at hr'
        rw [cond_true, W_id (n := i + 1) (by omega) (by omega), show pC1 (lC1 i 1 a1 a2 A a3 a4 a5 a6 a7 a8 b1 b2 B b3 b4 b5 b6 b7 b8) = true by simp only [pC1, Bool.and_eq_true, decide_eq_true_eq]; exact ⟨⟨⟨⟨h1, hi⟩, Int.le_refl _⟩, h4⟩, h5⟩]
        obtain ⟨m, hm⟩ : ∃ m, ((A.length : Int) - i).toNat = m + 1 := ⟨((A.length : Int) - i).toNat - 1, by omega⟩
        have hm2 : ((A.length : Int) - (i + 1)).toNat = m := by omega
        rw [hm] at hr'
        simp only [anM2, Bool.true_and] at hr'
        cases he : anM1 A B i 1 ((B.length : Int) - 1).toNat with
        | true => rw [he] at hr'; exact .inl (by rw [hr']; rfl)
        | false =>
          rw [he] at hr'
          refine .inr ⟨lC2 (i + 1) a1 a2 A a3 a4 a5 a6 a7 a8 b1 b2 B b3 b4 b5 b6 b7 b8, rfl, by simp only [pC2, Bool.and_eq_true, decide_eq_true_eq]; exact ⟨⟨by omega, h4⟩, h5⟩, by simp only [mC2]; omega, ?_⟩
          rw [hr']
          simp only [fC2, hm2, hl, Bool.false_or, Bool.true_and]
          cases anM2 A B (i + 1) m <;> rfl
    · rw [decide_eq_false hi]
      rw [show ((A.length : Int) - i).toNat = 0 by omega] at hr'
      simp only [anM2, Bool.and_false] at hr'
      exact .inl (by rw [hr']; rfl)
  · cases hp
noncomputable def Z2 : EnvK := Z1.addW 22 2 [2, 3, 5] [] shC2 pC2 fC2
theorem okZ2 : EnvOK Tryz.prog Z2.env :=
  okZ1.addW (n := 60) Tryz.func22 (show Tryz.f22.body = some (bod Tryz.f22) by kernel_rfl) (show (loops (bod Tryz.f22)).filter (fun b => rid b == 2) = [lpb Tryz.f22 2] by kernel_rfl) [2, 3, 5] [4] [] shC2 mC2 sC2
/-- P8.4. -/
def cxB (A : List PV) (a3 : Int) (B : List PV) (b3 : Int) : Bool := (a3 != b3) && anM2 A B 1 ((A.length : Int) - 1).toNat
theorem qCxN (a1 : Int) (a2 : Bool) (A : List PV) (a3 : Int) (a4 a5 : ByteArray) (a6 : Bool) (a7 a8 : Int) (b1 : Int) (b2 : Bool) (B : List PV) (b3 : Int) (b4 b5 : ByteArray) (b6 : Bool) (b7 b8 : Int) : runP Tryz.prog Z2 60 22 [wayv a1 a2 A a3 a4 a5 a6 a7 a8, wayv b1 b2 B b3 b4 b5 b6 b7 b8] =
  bif pC2 (lC2 1 a1 a2 A a3 a4 a5 a6 a7 a8 b1 b2 B b3 b4 b5 b6 b7 b8) then bif (a3 != b3) && anM2 A B 1 ((A.length : Int) - 1).toNat then some (bv true) else some (bv false) else none := by kernel_rfl
theorem qCxN' (a1 : Int) (a2 : Bool) (A : List PV) (a3 : Int) (a4 a5 : ByteArray) (a6 : Bool) (a7 a8 : Int) (b1 : Int) (b2 : Bool) (B : List PV) (b3 : Int) (b4 b5 : ByteArray) (b6 : Bool) (b7 b8 : Int) (h : (big A && big B) = true) : runP Tryz.prog Z2 60 22 [wayv a1 a2 A a3 a4 a5 a6 a7 a8, wayv b1 b2 B b3 b4 b5 b6 b7 b8] = some (bv (cxB A a3 B b3)) := by
  rw [qCxN, show pC2 (lC2 1 a1 a2 A a3 a4 a5 a6 a7 a8 b1 b2 B b3 b4 b5 b6 b7 b8) = true by rw [Bool.and_eq_true] at h; simp only [pC2, h.1, h.2]; rfl]
  unfold cxB
  cases ((a3 != b3) && anM2 A B 1 ((A.length : Int) - 1).toNat) <;> rfl
def cCxN : List PV → Option (DT PV)
  | [.agg [.val (.int .i64 _), .lst _ 37 A, .val (.int .i64 a3), .val (.string _), .val (.string _), .val (.bool _), .val (.int .i64 _), .val (.int .i64 _)], .agg [.val (.int .i64 _), .lst _ 37 B, .val (.int .i64 b3), .val (.string _), .val (.string _), .val (.bool _), .val (.int .i64 _), .val (.int .i64 _)]] =>
    some (.br (big A && big B) (.leaf (bv (cxB A a3 B b3))) .no)
  | _ => none
theorem eCxN : Hx.Enters Tryz.prog 22 := (runP_sound okZ2 (n := 60) (qCxN' 0 true [] 0 .empty .empty false 0 0 0 true [] 0 .empty .empty false 0 0 rfl)).1
theorem oCxN (args : List PV) (d : DT PV) (r : PV) (h : cCxN args = some d) (hr : d.run = some r) : PCall Tryz.prog 22 args r := by
  unfold cCxN at h; split at h
  · cases h
    obtain ⟨h1, rfl⟩ := run_br hr
    exact (runP_sound okZ2 (n := 60) (qCxN' _ _ _ _ _ _ _ _ _ _ _ _ _ _ _ _ _ _ h1)).2
  · cases h
end Go.Hn
/- Network: NetworkTurns: the other ways: their points (printed by genyb.py). -/
namespace Go.Hn
open Go.Hx Go.Hg Go.Proofs
/-! A line, the other way round: of two or three points. -/
def ptE (p : PV) : PV := ptv ((p.cellAt 0).getI) ((p.cellAt 1).getI)
noncomputable def XK : EnvK := X0.addK 55
theorem okXK : EnvOK Tryz.prog XK.env := okX0.addK 55
theorem qRev2 (f : Bool) (a b : PV) : runP Tryz.prog XK 60 27 [.lst f 37 [a, b]] = some (.lst false 37 [ptE b, ptE a]) := by kernel_rfl
theorem qRev3 (f : Bool) (a b c : PV) : runP Tryz.prog XK 60 27 [.lst f 37 [a, b, c]] = some (.lst false 37 [ptE c, b, ptE a]) := by kernel_rfl
def rvL : List PV → List PV
  | [a, b] => [ptE b, ptE a]
  | [a, b, c] => [ptE c, b, ptE a]
  | _ => []
def cRev : List PV → Option (DT PV)
  | [.lst _ 37 es] => some (.br (decide (2 ≤ es.length) && decide (es.length ≤ 3)) (.leaf (.lst false 37 (rvL es))) .no)
  | _ => none
theorem eRev : Hx.Enters Tryz.prog 27 := (runP_sound okXK (n := 60) (qRev2 true .any .any)).1
theorem oRev (args : List PV) (d : DT PV) (r : PV) (h : cRev args = some d) (hr : d.run = some r) : PCall Tryz.prog 27 args r := by
  unfold cRev at h; split at h
  · rename_i f es
    cases h
    obtain ⟨h1, rfl⟩ := run_br hr
    simp only [Bool.and_eq_true, decide_eq_true_eq] at h1
    match es, h1 with
    | [a, b], _ => exact (runP_sound okXK (n := 60) (qRev2 f a b)).2
    | [a, b, c], _ => exact (runP_sound okXK (n := 60) (qRev3 f a b c)).2
    | [], h1 => simp at h1
    | [_], h1 => simp at h1
    | _ :: _ :: _ :: _ :: _, h1 => simp only [List.length_cons] at h1; omega
  · cases h
noncomputable def T0 : EnvK := ((((X0.addF 27 cRev).addN 7 5 [(9, 44, 8)]).addN 7 12 [(12, 37, 2)]).addDeep 7 15 3).addDrop 7 16 2
theorem okT0 : EnvOK Tryz.prog T0.env := ((((okX0.addF eRev oRev).addN 7 5 [(9, 44, 8)]).addN 7 12 [(12, 37, 2)]).addDeep 7 15 3).addDrop 7 16 2
/-! The points of a way, turned and moved. -/
def shT1 : Hx.S1 := ⟨143, [(1, .lst 4), (5, .ptr 0 1 0 0), (7, .bool), (8, .lst 44), (9, .sl 1), (10, I64), (11, .ptr 2 1 0 0), (12, .sl 3), (13, I64)],
  [.one 53 3 (.agg [I64, I64, I64]), .many 44 8, .onef 44 8 wayX, .many 37 2]⟩
abbrev lT1 (wf : Bool) (wh : List PV) (u f : Bool) (ws : List PV) (n l : Nat) (i : Int) (c d : Nat) (k : Int) (q0 q1 q2 : Int) (nl : Bool) (es : List PV) (a1 : Int) (a2 : Bool) (M : List PV) (a3 : Int) (a4 a5 : ByteArray) (a6 : Bool) (a7 a8 : Int) (z : Bool) (mv : List PV) : LS := ([.l wf wh, .b u, .l f ws, .n n, .n l, .i i, .n c, .n d, .i k], [.i q0, .i q1, .i q2, .l nl es, .i a1, .l a2 M, .i a3, .s a4, .s a5, .b a6, .i a7, .i a8, .l z mv])
def mvP (q0 q1 q2 x y : Int) : PV := ptv (W (tpx x y (Int.tmod q0 4) + Int.tmod q1 10000)) (W (tpy x y (Int.tmod q0 4) + Int.tmod q2 10000))
def roomP (es : List PV) (n l : Nat) : Bool := decide (es.length = n) && decide (n = l) && decide ((n + 1) * 16 ≤ 140737488355328)
theorem qT1 (wf : Bool) (wh : List PV) (u f : Bool) (ws : List PV) (n l : Nat) (i : Int) (c d : Nat) (k : Int) (q0 q1 q2 : Int) (nl : Bool) (es : List PV) (a1 : Int) (a2 : Bool) (M : List PV) (a3 : Int) (a4 a5 : ByteArray) (a6 : Bool) (a7 a8 : Int) (z : Bool) (mv : List PV) : runB Tryz.prog T0 60 7 (lpb Tryz.f7 12) [1, 5, 7, 8, 9, 10, 11, 12, 13] [1, 5, 7, 8, 9, 10, 11, 12] (shT1.put (lT1 wf wh u f ws n l i c d k q0 q1 q2 nl es a1 a2 M a3 a4 a5 a6 a7 a8 z mv)).1 (shT1.put (lT1 wf wh u f ws n l i c d k q0 q1 q2 nl es a1 a2 M a3 a4 a5 a6 a7 a8 z mv)).2 =
  bif decide (k < (M.length : Int)) then bif inr M k then bif roomP mv c d then some (.normal, shT1.put (lT1 wf wh u f ws n l i (c + 1) (c + 1) (W (k + 1)) q0 q1 q2 nl es a1 a2 M a3 a4 a5 a6 a7 a8 (z && false) (mv ++ [mvP q0 q1 q2 (Hg.qX M k) (Hg.qY M k)]))) else none else none
  else some (.exit 2, tm 143 [(1, .lst wf 4 wh), (5, .ptr 0 1 0 0), (7, bv u), (8, .lst f 44 ws), (9, .sl 1 n 0 l), (10, iv i), (11, .ptr 2 1 0 0), (12, .sl 3 c 0 d)], (shT1.put (lT1 wf wh u f ws n l i 0 0 0 q0 q1 q2 nl es a1 a2 M a3 a4 a5 a6 a7 a8 z mv)).2) := by kernel_rfl
end Go.Hn
/- Network: NetworkTurns: the other ways are made (printed by genyc.py). -/
namespace Go.Hn
open Go.Hx Go.Hg Go.Proofs
/-- The points of a line from one on, turned and moved. -/
def mvL (q0 q1 q2 : Int) (M : List PV) : Int → Nat → List PV
  | _, 0 => []
  | k, n + 1 => mvP q0 q1 q2 (Hg.qX M k) (Hg.qY M k) :: mvL q0 q1 q2 M (k + 1) n
theorem mvL_len (q0 q1 q2 : Int) (M : List PV) : ∀ (n : Nat) (k : Int), (mvL q0 q1 q2 M k n).length = n
  | 0, _ => rfl
  | n + 1, k => by rw [mvL, List.length_cons, mvL_len q0 q1 q2 M n]
def pT1 : LS → Bool
  | ([.l _ _, .b _, .l _ _, .n _, .n _, .i _, .n c, .n d, .i k], [.i _, .i _, .i _, .l _ _, .i _, .l _ M, .i _, .s _, .s _, .b _, .i _, .i _, .l _ mv]) => decide (0 ≤ k) && decide (c = mv.length) && decide (d = c) && decide ((c : Int) ≤ k) && big M
  | _ => false
noncomputable def fT1 : LS → DT (PX × List PV × List Row)
  | ([.l wf wh, .b u, .l f ws, .n n, .n l, .i i, .n c, .n _, .i k], [.i q0, .i q1, .i q2, .l nl es, .i a1, .l a2 M, .i a3, .s a4, .s a5, .b a6, .i a7, .i a8, .l z mv]) => .leaf (.exit 2, tm 143 [(1, .lst wf 4 wh), (5, .ptr 0 1 0 0), (7, bv u), (8, .lst f 44 ws), (9, .sl 1 n 0 l), (10, iv i), (11, .ptr 2 1 0 0), (12, .sl 3 (c + ((M.length : Int) - k).toNat) 0 (c + ((M.length : Int) - k).toNat))], (shT1.put (lT1 wf wh u f ws n l i 0 0 0 q0 q1 q2 nl es a1 a2 M a3 a4 a5 a6 a7 a8 (z && decide (((M.length : Int) - k).toNat = 0)) (mv ++ mvL q0 q1 q2 M k ((M.length : Int) - k).toNat))).2)
  | _ => .no
def mT1 : LS → Nat
  | ([.l _ _, .b _, .l _ _, .n _, .n _, .i _, .n _, .n _, .i k], [.i _, .i _, .i _, .l _ _, .i _, .l _ M, .i _, .s _, .s _, .b _, .i _, .i _, .l _ _]) => ((M.length : Int) - k).toNat
  | _ => 0
theorem sT1 : ∀ s r, pT1 s = true → (fT1 s).run = some r → r.1 ≠ .normal ∧ (runB Tryz.prog T0 60 7 (lpb Tryz.f7 12) [1, 5, 7, 8, 9, 10, 11, 12, 13] [1, 5, 7, 8, 9, 10, 11, 12] (shT1.put s).1 (shT1.put s).2 = some r ∨
      ∃ s', runB Tryz.prog T0 60 7 (lpb Tryz.f7 12) [1, 5, 7, 8, 9, 10, 11, 12, 13] [1, 5, 7, 8, 9, 10, 11, 12] (shT1.put s).1 (shT1.put s).2 = some (.normal, shT1.put s') ∧ pT1 s' = true ∧ mT1 s' < mT1 s ∧ (fT1 s').run = some r) := by
  intro s r hp hr
  unfold pT1 at hp; split at hp
  · rename_i wf wh u f ws n l i c d k q0 q1 q2 nl es a1 a2 M a3 a4 a5 a6 a7 a8 z mv
    simp only [Bool.and_eq_true, decide_eq_true_eq] at hp
    obtain ⟨⟨⟨⟨h1, rfl⟩, rfl⟩, h4⟩, h5⟩ := hp
    have hr' := (Option.some.inj hr).symm
    refine ⟨by rw [hr']; simp, ?_⟩
    rw [show shT1.put ([.l wf wh, .b u, .l f ws, .n n, .n l, .i i, .n mv.length, .n mv.length, .i k], [.i q0, .i q1, .i q2, .l nl es, .i a1, .l a2 M, .i a3, .s a4, .s a5, .b a6, .i a7, .i a8, .l z mv]) = shT1.put (lT1 wf wh u f ws n l i mv.length mv.length k q0 q1 q2 nl es a1 a2 M a3 a4 a5 a6 a7 a8 z mv) from rfl, qT1]
    by_cases hk : k < (M.length : Int)
    · have hroom : roomP mv mv.length mv.length = true := by unfold roomP; simp; omega
      obtain ⟨m, hm⟩ : ∃ m, ((M.length : Int) - k).toNat = m + 1 := ⟨((M.length : Int) - k).toNat - 1, by omega⟩
      have hm2 : ((M.length : Int) - (k + 1)).toNat = m := by omega
      rw [hm] at hr'
      simp only [mvL] at hr'
      rw [decide_eq_true hk, cond_true, inr_of h1 hk, cond_true, hroom, cond_true, W_id (n := k + 1) (by omega) (by omega), Bool.and_false]
      refine .inr ⟨lT1 wf wh u f ws n l i (mv.length + 1) (mv.length + 1) (k + 1) q0 q1 q2 nl es a1 a2 M a3 a4 a5 a6 a7 a8 false (mv ++ [mvP q0 q1 q2 (Hg.qX M k) (Hg.qY M k)]), rfl, by simp only [pT1, Bool.and_eq_true, decide_eq_true_eq, List.length_append, List.length_cons, List.length_nil]; exact ⟨⟨⟨⟨by omega, trivial⟩, trivial⟩, by omega⟩, h5⟩, by simp only [mT1]; omega, ?_⟩
      rw [hr']
      simp only [fT1, hm2, List.append_assoc, List.cons_append, List.nil_append, Bool.false_and]
      rw [show mv.length + 1 + m = mv.length + (m + 1) by omega]
      simp [DT.run]
    · rw [decide_eq_false hk]
      rw [show ((M.length : Int) - k).toNat = 0 by omega] at hr'
      exact .inl (by rw [hr']; simp [mvL])
  · cases hp
noncomputable def T1 : EnvK := T0.addW 7 12 [1, 5, 7, 8, 9, 10, 11, 12, 13] [] shT1 pT1 fT1
theorem okT1 : EnvOK Tryz.prog T1.env :=
  okT0.addW (n := 60) Tryz.func7 (show Tryz.f7.body = some (bod Tryz.f7) by kernel_rfl) (show (loops (bod Tryz.f7)).filter (fun b => rid b == 12) = [lpb Tryz.f7 12] by kernel_rfl) [1, 5, 7, 8, 9, 10, 11, 12, 13] [1, 5, 7, 8, 9, 10, 11, 12] [] shT1 mT1 sT1
/-! The ways. -/
def shT2 : Hx.S1 := ⟨143, [(1, .lst 4), (5, .ptr 0 1 0 0), (7, .bool), (8, .lst 44), (9, .sl 1), (10, I64)], [.one 53 3 (.agg [I64, I64, I64]), .many 44 8]⟩
abbrev lT2 (wf : Bool) (wh : List PV) (u f : Bool) (ws : List PV) (n l : Nat) (i : Int) (q0 q1 q2 : Int) (nl : Bool) (es : List PV) : LS := ([.l wf wh, .b u, .l f ws, .n n, .n l, .i i], [.i q0, .i q1, .i q2, .l nl es])
/-- A way with other points. -/
def otE (q0 q1 q2 : Int) (e : PV) (M : List PV) : PV := .agg [iv (wI e), .lst false 37 ((([] ++ mvL q0 q1 q2 M 0 ((M.length : Int) - 0).toNat).drop 0).take (0 + ((M.length : Int) - 0).toNat)), iv (wLv e), .val (.string ((e.cellAt 3).getS)), .val (.string ((e.cellAt 4).getS)), bv ((e.cellAt 5).getB), iv (wWt e), iv ((e.cellAt 7).getI)]
def goT (wf : Bool) (wh : List PV) (u f : Bool) (ws : List PV) (n l : Nat) (i : Int) (q0 q1 q2 : Int) (nl : Bool) (es : List PV) (e : PV) (M : List PV) : Option (PX × List PV × List Row) :=
  bif pT1 (lT1 wf wh u f ws n l i 0 0 0 q0 q1 q2 nl es (wI e) false M (wLv e) ((e.cellAt 3).getS) ((e.cellAt 4).getS) ((e.cellAt 5).getB) (wWt e) ((e.cellAt 7).getI) true []) then bif ((([] ++ mvL q0 q1 q2 M 0 ((M.length : Int) - 0).toNat).length == 0 + ((M.length : Int) - 0).toNat) && true) && true then bif roomW es n l then
    some (.normal, shT2.put (lT2 wf wh u f ws (n + 1) (n + 1) (W (i + 1)) q0 q1 q2 (nl && false) (es ++ [otE q0 q1 q2 e M]))) else none else none else none
theorem qT2 (wf : Bool) (wh : List PV) (u f : Bool) (ws : List PV) (n l : Nat) (i : Int) (q0 q1 q2 : Int) (nl : Bool) (es : List PV) : runB Tryz.prog T1 60 7 (lpb Tryz.f7 5) [1, 5, 7, 8, 9, 10] [7, 8, 9] (shT2.put (lT2 wf wh u f ws n l i q0 q1 q2 nl es)).1 (shT2.put (lT2 wf wh u f ws n l i q0 q1 q2 nl es)).2 =
  bif decide (i < (ws.length : Int)) then bif inr ws i then
    bif decide (i < (wh.length : Int)) then bif inr wh i then bif ((wh.getD i.toNat .any).cellAt 0).getB then bif decide (2 ≤ (wL (ws.getD i.toNat .any)).length) && decide ((wL (ws.getD i.toNat .any)).length ≤ 3) then goT wf wh u f ws n l i q0 q1 q2 nl es (ws.getD i.toNat .any) (rvL (wL (ws.getD i.toNat .any))) else none else goT wf wh u f ws n l i q0 q1 q2 nl es (ws.getD i.toNat .any) (wL (ws.getD i.toNat .any)) else none
    else goT wf wh u f ws n l i q0 q1 q2 nl es (ws.getD i.toNat .any) (wL (ws.getD i.toNat .any)) else none
  else some (.exit 0, tm 143 [(7, bv u), (8, .lst f 44 ws), (9, .sl 1 n 0 l)], (shT2.put (lT2 wf wh u f ws 0 0 0 q0 q1 q2 nl es)).2) := by kernel_rfl
end Go.Hn
/- Network: NetworkTurns: the other ways, as a contract of their loop (printed by genyd.py). -/
namespace Go.Hn
open Go.Hx Go.Hg Go.Proofs
/-- The line of a way, perhaps the other way round. -/
def otP (wh : List PV) (e : PV) (i : Int) : List PV := bif decide (i < (wh.length : Int)) && ((wh.getD i.toNat .any).cellAt 0).getB then rvL (wL e) else wL e
def otL (q0 q1 q2 : Int) (wh ws : List PV) : Int → Nat → List PV
  | _, 0 => []
  | i, n + 1 => otE q0 q1 q2 (ws.getD i.toNat .any) (otP wh (ws.getD i.toNat .any) i) :: otL q0 q1 q2 wh ws (i + 1) n
theorem otL_len (q0 q1 q2 : Int) (wh ws : List PV) : ∀ (n : Nat) (i : Int), (otL q0 q1 q2 wh ws i n).length = n
  | 0, _ => rfl
  | n + 1, i => by rw [otL, List.length_cons, otL_len q0 q1 q2 wh ws n]
/-- Lines of two or three points. -/
def okLn (ws : List PV) : Bool := decide (ws.length ≤ 1000) && ws.all fun e => decide (2 ≤ (wL e).length) && decide ((wL e).length ≤ 3)
theorem okLn_at {ws : List PV} (h : okLn ws = true) {i : Int} (h1 : 0 ≤ i) (h2 : i < (ws.length : Int)) : 2 ≤ (wL (ws.getD i.toNat .any)).length ∧ (wL (ws.getD i.toNat .any)).length ≤ 3 := by
  unfold okLn at h
  rw [Bool.and_eq_true] at h
  rw [List.getD_eq_getElem?_getD, List.getElem?_eq_getElem (by omega)]
  have := List.all_eq_true.1 h.2 _ (List.getElem_mem (l := ws) (n := i.toNat) (by omega))
  simpa using this
theorem rvL_len {M : List PV} (h1 : 2 ≤ M.length) (h2 : M.length ≤ 3) : (rvL M).length = M.length := by
  match M, h1, h2 with
  | [a, b], _, _ => rfl
  | [a, b, c], _, _ => rfl
  | [], h, _ => simp at h
  | [_], h, _ => simp at h
  | _ :: _ :: _ :: _ :: _, _, h => simp only [List.length_cons] at h; omega
theorem goT_of (wf : Bool) (wh : List PV) (u f : Bool) (ws : List PV) (n l : Nat) (i : Int) (q0 q1 q2 : Int) (nl : Bool) (es : List PV) (e : PV) {M : List PV} (hM : M.length ≤ 3) (h1 : n = es.length) (h2 : l = n) (h3 : n ≤ 1000) : goT wf wh u f ws n l i q0 q1 q2 nl es e M = some (.normal, shT2.put (lT2 wf wh u f ws (n + 1) (n + 1) (W (i + 1)) q0 q1 q2 (nl && false) (es ++ [otE q0 q1 q2 e M]))) := by
  unfold goT
  rw [show pT1 (lT1 wf wh u f ws n l i 0 0 0 q0 q1 q2 nl es (wI e) false M (wLv e) ((e.cellAt 3).getS) ((e.cellAt 4).getS) ((e.cellAt 5).getB) (wWt e) ((e.cellAt 7).getI) true []) = true by simp only [pT1, Bool.and_eq_true, decide_eq_true_eq]; exact ⟨⟨⟨⟨Int.le_refl _, rfl⟩, trivial⟩, by simp⟩, by omega⟩]
  have hq : ((([] : List PV) ++ mvL q0 q1 q2 M 0 ((M.length : Int) - 0).toNat).length == 0 + ((M.length : Int) - 0).toNat) = true := by rw [List.nil_append, mvL_len, Nat.zero_add, beq_self_eq_true]
  rw [hq]
  rw [show roomW es n l = true by unfold roomW; simp only [Bool.and_eq_true, decide_eq_true_eq]; omega]
  rfl
def pT2 : LS → Bool
  | ([.l _ _, .b _, .l _ ws, .n n, .n l, .i i], [.i _, .i _, .i _, .l _ es]) => decide (0 ≤ i) && decide (n = es.length) && decide (l = n) && decide ((n : Int) ≤ i) && okLn ws
  | _ => false
noncomputable def fT2 : LS → DT (PX × List PV × List Row)
  | ([.l wf wh, .b u, .l f ws, .n n, .n _, .i i], [.i q0, .i q1, .i q2, .l nl es]) => .leaf (.exit 0, tm 143 [(7, bv u), (8, .lst f 44 ws), (9, .sl 1 (n + ((ws.length : Int) - i).toNat) 0 (n + ((ws.length : Int) - i).toNat))], (shT2.put (lT2 wf wh u f ws 0 0 0 q0 q1 q2 (nl && decide (((ws.length : Int) - i).toNat = 0)) (es ++ otL q0 q1 q2 wh ws i ((ws.length : Int) - i).toNat))).2)
  | _ => .no
def mT2 : LS → Nat
  | ([.l _ _, .b _, .l _ ws, .n _, .n _, .i i], [.i _, .i _, .i _, .l _ _]) => ((ws.length : Int) - i).toNat
  | _ => 0
theorem sT2 : ∀ s r, pT2 s = true → (fT2 s).run = some r → r.1 ≠ .normal ∧ (runB Tryz.prog T1 60 7 (lpb Tryz.f7 5) [1, 5, 7, 8, 9, 10] [7, 8, 9] (shT2.put s).1 (shT2.put s).2 = some r ∨
      ∃ s', runB Tryz.prog T1 60 7 (lpb Tryz.f7 5) [1, 5, 7, 8, 9, 10] [7, 8, 9] (shT2.put s).1 (shT2.put s).2 = some (.normal, shT2.put s') ∧ pT2 s' = true ∧ mT2 s' < mT2 s ∧ (fT2 s').run = some r) := by
  intro s r hp hr
  unfold pT2 at hp; split at hp
  · rename_i wf wh u f ws n l i q0 q1 q2 nl es
    simp only [Bool.and_eq_true, decide_eq_true_eq] at hp
    obtain ⟨⟨⟨⟨h1, rfl⟩, rfl⟩, h4⟩, h5⟩ := hp
    have hr' := (Option.some.inj hr).symm
    refine ⟨by rw [hr']; simp, ?_⟩
    rw [show shT2.put ([.l wf wh, .b u, .l f ws, .n es.length, .n es.length, .i i], [.i q0, .i q1, .i q2, .l nl es]) = shT2.put (lT2 wf wh u f ws es.length es.length i q0 q1 q2 nl es) from rfl, qT2]
    have hw1000 : ws.length ≤ 1000 := by unfold okLn at h5; rw [Bool.and_eq_true, decide_eq_true_eq] at h5; exact h5.1
    by_cases hi : i < (ws.length : Int)
    · obtain ⟨m, hm⟩ : ∃ m, ((ws.length : Int) - i).toNat = m + 1 := ⟨((ws.length : Int) - i).toNat - 1, by omega⟩
      have hm2 : ((ws.length : Int) - (i + 1)).toNat = m := by omega
      rw [hm] at hr'
      simp only [otL] at hr'
      obtain ⟨b1, b2⟩ := okLn_at h5 h1 hi
      have go : ∀ {M : List PV}, M.length ≤ 3 → goT wf wh u f ws es.length es.length i q0 q1 q2 nl es (ws.getD i.toNat .any) M = some (.normal, shT2.put (lT2 wf wh u f ws (es.length + 1) (es.length + 1) (i + 1) q0 q1 q2 false (es ++ [otE q0 q1 q2 (ws.getD i.toNat .any) M]))) := fun {M} hM => by
        rw [goT_of wf wh u f ws es.length es.length i q0 q1 q2 nl es _ hM rfl rfl (by omega), W_id (n := i + 1) (by omega) (by omega), Bool.and_false]
      rw [decide_eq_true hi, cond_true, inr_of h1 hi, cond_true, go (M := wL (ws.getD i.toNat .any)) b2, go (M := rvL (wL (ws.getD i.toNat .any))) (by rw [rvL_len b1 b2]; exact b2), decide_eq_true b1, decide_eq_true b2]
      have key : (bif decide (i < (wh.length : Int)) then bif inr wh i then bif ((wh.getD i.toNat .any).cellAt 0).getB then bif true && true then some (PX.normal, shT2.put (lT2 wf wh u f ws (es.length + 1) (es.length + 1) (i + 1) q0 q1 q2 false (es ++ [otE q0 q1 q2 (ws.getD i.toNat .any) (rvL (wL (ws.getD i.toNat .any)))]))) else none
          else some (PX.normal, shT2.put (lT2 wf wh u f ws (es.length + 1) (es.length + 1) (i + 1) q0 q1 q2 false (es ++ [otE q0 q1 q2 (ws.getD i.toNat .any) (wL (ws.getD i.toNat .any))]))) else none
          else some (PX.normal, shT2.put (lT2 wf wh u f ws (es.length + 1) (es.length + 1) (i + 1) q0 q1 q2 false (es ++ [otE q0 q1 q2 (ws.getD i.toNat .any) (wL (ws.getD i.toNat .any))])))) =
          some (PX.normal, shT2.put (lT2 wf wh u f ws (es.length + 1) (es.length + 1) (i + 1) q0 q1 q2 false (es ++ [otE q0 q1 q2 (ws.getD i.toNat .any) (otP wh (ws.getD i.toNat .any) i)]))) := by
        unfold otP
        by_cases hh : i < (wh.length : Int)
        · rw [decide_eq_true hh, inr_of h1 hh]
          cases ((wh.getD i.toNat .any).cellAt 0).getB <;> rfl
        · rw [decide_eq_false hh]; rfl
      refine .inr ⟨lT2 wf wh u f ws (es.length + 1) (es.length + 1) (i + 1) q0 q1 q2 false (es ++ [otE q0 q1 q2 (ws.getD i.toNat .any) (otP wh (ws.getD i.toNat .any) i)]), key, by
        simp only [pT2, Bool.and_eq_true, decide_eq_true_eq, List.length_append, List.length_cons, List.length_nil]; exact ⟨⟨⟨⟨by omega, trivial⟩, trivial⟩, by omega⟩, h5⟩, by simp only [mT2]; omega, ?_⟩
      rw [hr']
      simp only [fT2, hm2, List.append_assoc, List.cons_append, List.nil_append, Bool.false_and]
      rw [show es.length + 1 + m = es.length + (m + 1) by omega]
      simp [DT.run]
    · rw [decide_eq_false hi]
      rw [show ((ws.length : Int) - i).toNat = 0 by omega] at hr'
      exact .inl (by rw [hr']; simp [otL])
  · cases hp
noncomputable def T2 : EnvK := T1.addW 7 5 [1, 5, 7, 8, 9, 10] [] shT2 pT2 fT2
theorem okT2 : EnvOK Tryz.prog T2.env :=
  okT1.addW (n := 60) Tryz.func7 (show Tryz.f7.body = some (bod Tryz.f7) by kernel_rfl) (show (loops (bod Tryz.f7)).filter (fun b => rid b == 5) = [lpb Tryz.f7 5] by kernel_rfl) [1, 5, 7, 8, 9, 10] [7, 8, 9] [] shT2 mT2 sT2
end Go.Hn
/- Network: plain facts: made ways' points are near the origin. -/
namespace Go.Hn
open Go.Hx Go.Hg Go.Proofs
/-- Points near the origin. -/
def sml (e : PV) : Prop := ∃ x y : Int, e = ptv x y ∧ (-30 < x ∧ x < 30) ∧ (-30 < y ∧ y < 30)
theorem sml_at {es : List PV} (h : ∀ e ∈ es, sml e) {j : Int} (h0 : 0 ≤ j) (h1 : j < (es.length : Int)) : (-30 < Hg.qX es j ∧ Hg.qX es j < 30) ∧ (-30 < Hg.qY es j ∧ Hg.qY es j < 30) := by
  have hlt : j.toNat < es.length := by omega
  obtain ⟨x, y, he, hx, hy⟩ := h es[j.toNat] (List.getElem_mem hlt)
  have hg : es.getD j.toNat .any = ptv x y := by rw [List.getD_eq_getElem?_getD, List.getElem?_eq_getElem hlt, he]; rfl
  have e1 : Hg.qX es j = x := by unfold Hg.qX; rw [hg]; rfl
  have e2 : Hg.qY es j = y := by unfold Hg.qY; rw [hg]; rfl
  rw [e1, e2]; exact ⟨hx, hy⟩
theorem sml_bd {es : List PV} (h : ∀ e ∈ es, sml e) {j : Int} (h0 : 0 ≤ j) (h1 : j < (es.length : Int)) : bd (Hg.qX es j) (Hg.qY es j) := by
  have := sml_at h h0 h1
  omega
theorem sml_fin {es : List PV} (h : ∀ e ∈ es, sml e) : fin es = true := by
  unfold fin
  rw [Hg.allR_false]
  intro j hj
  have := sml_at h (j := 0 + (j : Int)) (by omega) (by omega)
  exact inB2_iff.2 ⟨by omega, by omega⟩
theorem spt_sml {d : Int} (h0 : 0 ≤ d) (h1 : d < 9) : sml (sptP d) := by
  have a1 : 0 ≤ Int.tmod d 3 := Int.tmod_nonneg _ h0
  have a2 : Int.tmod d 3 < 3 := Int.tmod_lt_of_pos _ (by omega)
  have b1 : 0 ≤ Int.tdiv d 3 := Int.tdiv_nonneg h0 (by omega)
  have b2 : Int.tdiv d 3 < 3 := by
    rw [Int.tdiv_eq_ediv_of_nonneg h0]; omega
  refine ⟨_, _, rfl, ?_, ?_⟩
  · rw [W_id (by omega) (by omega)]; omega
  · rw [W_id (n := Int.tdiv d 3) (by omega) (by omega), W_id (by omega) (by omega)]; omega
theorem cor_sml {g h : Int} (c1 : 0 ≤ g) (c2 : g < 2) (c3 : 0 ≤ h) (c4 : h < 2) : sml (ptv (W (5 + W (10 * g))) (W (5 + W (10 * h)))) := by
  refine ⟨_, _, rfl, ?_, ?_⟩
  · rw [W_id (n := 10 * g) (by omega) (by omega), W_id (by omega) (by omega)]; omega
  · rw [W_id (n := 10 * h) (by omega) (by omega), W_id (by omega) (by omega)]; omega
theorem mPs_sml (L : List PV) (a : Int) : ∀ e ∈ mPs L a, sml e := by
  have s1 := spt_sml (dI_ge L (a1 L a 0) (n := 9) (by omega)) (dI_lt L (a1 L a 0) (by omega))
  have s2 := spt_sml (dI_ge L (a1 L a 1) (n := 9) (by omega)) (dI_lt L (a1 L a 1) (by omega))
  have s3 := cor_sml (dI_ge L (a1 L a 5) (n := 2) (by omega)) (dI_lt L (a1 L a 5) (by omega)) (dI_ge L (a1 L a 6) (n := 2) (by omega)) (dI_lt L (a1 L a 6) (by omega))
  intro e he
  unfold mPs at he
  cases hc : cornB L a <;> rw [hc] at he
  · simp only [cond_false, List.mem_cons, List.not_mem_nil, or_false] at he
    rcases he with rfl | rfl
    · exact s1
    · exact s2
  · simp only [cond_true, List.mem_cons, List.not_mem_nil, or_false] at he
    rcases he with rfl | rfl | rfl
    · exact s1
    · exact s3
    · exact s2
end Go.Hn
/- Network: plain law: lines that are turned, moved and reversed. -/
namespace Go.Hn
open Go.Hx Go.Hg Go.Proofs
theorem on_swp {a b c d x y : Int} (h1 : bd a b) (h2 : bd c d) (h3 : bd x y) : onX c d a b x y = onX a b c d x y := by
  rw [on_of h1 h2 h3, on_of h2 h1 h3]
  have e1 : crs c d a b x y = -crs a b c d x y := by unfold crs; grind
  rw [e1, sgnz_neg]
  congr 1
  rw [Bool.eq_iff_iff]
  unfold bx
  rw [Bool.and_eq_true, Bool.and_eq_true, btwn_iff, btwn_iff, btwn_iff, btwn_iff]
  omega
/-- How a line lies to another one: its points are turned and moved, and it may run the other way (v). -/
structure Rel (X Y : Int → Int → Int) (v : Bool) (A A' : List PV) : Prop where
  len : A'.length = A.length
  x : ∀ i : Int, 0 ≤ i → i < (A.length : Int) → Hg.qX A' i = X (Hg.qX A (bif v then (A.length : Int) - 1 - i else i)) (Hg.qY A (bif v then (A.length : Int) - 1 - i else i))
  y : ∀ i : Int, 0 ≤ i → i < (A.length : Int) → Hg.qY A' i = Y (Hg.qX A (bif v then (A.length : Int) - 1 - i else i)) (Hg.qY A (bif v then (A.length : Int) - 1 - i else i))
/-- Near points stay bounded. -/
structure Near (X Y : Int → Int → Int) : Prop where
  k : Keeps X Y
  b : ∀ x y : Int, (-30 < x ∧ x < 30) → (-30 < y ∧ y < 30) → (-16384 ≤ X x y ∧ X x y ≤ 16384) ∧ (-16384 ≤ Y x y ∧ Y x y ≤ 16384)
def ro (v : Bool) (A : List PV) (i : Int) : Int := bif v then (A.length : Int) - 1 - i else i
def sg (v : Bool) (A : List PV) (i : Int) : Int := bif v then (A.length : Int) - 2 - i else i
theorem ro_in {v : Bool} {A : List PV} {i : Int} (h0 : 0 ≤ i) (h1 : i < (A.length : Int)) : 0 ≤ ro v A i ∧ ro v A i < (A.length : Int) := by unfold ro; cases v <;> simp only [cond_true, cond_false] <;> omega
theorem sg_in {v : Bool} {A : List PV} {i : Int} (h0 : 0 ≤ i) (h1 : i + 1 < (A.length : Int)) : 0 ≤ sg v A i ∧ sg v A i + 1 < (A.length : Int) := by unfold sg; cases v <;> simp only [cond_true, cond_false] <;> omega
theorem sg_sg {v : Bool} {A : List PV} {i : Int} : sg v A (sg v A i) = i := by unfold sg; cases v <;> simp only [cond_true, cond_false] <;> omega
section
variable {X Y : Int → Int → Int} (hN : Near X Y) {v w : Bool} {A A' B B' : List PV} (hA : ∀ e ∈ A, sml e) (hB : ∀ e ∈ B, sml e) (rA : Rel X Y v A A') (rB : Rel X Y w B B')
include hN hA rA
theorem rel_right {i : Int} (h0 : 0 ≤ i) (h1 : i < (A.length : Int)) : (-16384 ≤ Hg.qX A' i ∧ Hg.qX A' i ≤ 16384) ∧ (-16384 ≤ Hg.qY A' i ∧ Hg.qY A' i ≤ 16384) := by
  rw [rA.x i h0 h1, rA.y i h0 h1]
  have hr := ro_in (v := v) h0 h1
  have := sml_at hA hr.1 hr.2
  exact hN.b _ _ this.1 this.2
theorem rel_bd {i : Int} (h0 : 0 ≤ i) (h1 : i < (A.length : Int)) : bd (Hg.qX A' i) (Hg.qY A' i) := by
  have := rel_right hN hA rA h0 h1
  omega
theorem rel_fin : fin A' = true := by
  unfold fin
  rw [Hg.allR_false]
  intro j hj
  have := rel_right hN hA rA (i := 0 + (j : Int)) (by omega) (by have := rA.len; omega)
  exact inB2_iff.2 ⟨by omega, by omega⟩
end
section
variable {X Y : Int → Int → Int} (hN : Near X Y) {v w : Bool} {A A' B B' : List PV} (hA : ∀ e ∈ A, sml e) (hB : ∀ e ∈ B, sml e) (rA : Rel X Y v A A') (rB : Rel X Y w B B')
/-- The ends of a segment: as they are, or the other way round. -/
theorem rel_ends (r : Rel X Y v A A') {i : Int} (h0 : 0 ≤ i) (h1 : i + 1 < (A.length : Int)) :
    (Hg.qX A' i = X (Hg.qX A (sg v A i)) (Hg.qY A (sg v A i)) ∧ Hg.qY A' i = Y (Hg.qX A (sg v A i)) (Hg.qY A (sg v A i)) ∧ Hg.qX A' (i + 1) = X (Hg.qX A (sg v A i + 1)) (Hg.qY A (sg v A i + 1)) ∧ Hg.qY A' (i + 1) = Y (Hg.qX A (sg v A i + 1)) (Hg.qY A (sg v A i + 1))) ∨
    (Hg.qX A' i = X (Hg.qX A (sg v A i + 1)) (Hg.qY A (sg v A i + 1)) ∧ Hg.qY A' i = Y (Hg.qX A (sg v A i + 1)) (Hg.qY A (sg v A i + 1)) ∧ Hg.qX A' (i + 1) = X (Hg.qX A (sg v A i)) (Hg.qY A (sg v A i)) ∧ Hg.qY A' (i + 1) = Y (Hg.qX A (sg v A i)) (Hg.qY A (sg v A i))) := by
  have x0 := r.x i h0 (by omega)
  have y0 := r.y i h0 (by omega)
  have x1 := r.x (i + 1) (by omega) h1
  have y1 := r.y (i + 1) (by omega) h1
  unfold sg
  cases v with
  | false => exact .inl ⟨x0, y0, x1, y1⟩
  | true =>
    simp only [cond_true] at x0 y0 x1 y1 ⊢
    rw [show (A.length : Int) - 1 - i = (A.length : Int) - 2 - i + 1 by omega] at x0 y0
    rw [show (A.length : Int) - 1 - (i + 1) = (A.length : Int) - 2 - i by omega] at x1 y1
    exact .inr ⟨x0, y0, x1, y1⟩
include hN hA
theorem im_bd {j : Int} (h0 : 0 ≤ j) (h1 : j < (A.length : Int)) : bd (X (Hg.qX A j) (Hg.qY A j)) (Y (Hg.qX A j) (Hg.qY A j)) := by
  have := sml_at hA h0 h1
  have := hN.b _ _ this.1 this.2
  omega
include hB rA rB
theorem rel_mt {i k : Int} (h0 : 0 ≤ i) (h1 : i + 1 < (A.length : Int)) (h2 : 0 ≤ k) (h3 : k + 1 < (B.length : Int)) :
    mt4 A' i (i + 1) B' k (k + 1) = mt4 A (sg v A i) (sg v A i + 1) B (sg w B k) (sg w B k + 1) := by
  obtain ⟨s0, s1⟩ := sg_in (v := v) h0 h1
  obtain ⟨u0, u1⟩ := sg_in (v := w) h2 h3
  have a1 := sml_bd hA s0 (by omega : sg v A i < (A.length : Int))
  have a2 := sml_bd hA (by omega : 0 ≤ sg v A i + 1) s1
  have b1 := sml_bd hB u0 (by omega : sg w B k < (B.length : Int))
  have b2 := sml_bd hB (by omega : 0 ≤ sg w B k + 1) u1
  have c1 := im_bd hN hA s0 (by omega : sg v A i < (A.length : Int))
  have c2 := im_bd hN hA (by omega : 0 ≤ sg v A i + 1) s1
  have d1 := im_bd hN hB u0 (by omega : sg w B k < (B.length : Int))
  have d2 := im_bd hN hB (by omega : 0 ≤ sg w B k + 1) u1
  have key := hN.k.mt a1 a2 b1 b2 c1 c2 d1 d2
  unfold mt4
  rcases rel_ends rA h0 h1 with ⟨e1, e2, e3, e4⟩ | ⟨e1, e2, e3, e4⟩ <;> rcases rel_ends rB h2 h3 with ⟨g1, g2, g3, g4⟩ | ⟨g1, g2, g3, g4⟩ <;> rw [e1, e2, e3, e4, g1, g2, g3, g4]
  · exact key
  · rw [mt_swap2 c1 c2 d1 d2]; exact key
  · rw [mt_swap1 c1 c2 d1 d2]; exact key
  · rw [mt_swap1 c1 c2 d2 d1, mt_swap2 c1 c2 d1 d2]; exact key
omit hB rB in
theorem rel_on {C C' : List PV} {u : Bool} (hC : ∀ e ∈ C, sml e) (rC : Rel X Y u C C') {i z : Int} (h0 : 0 ≤ i) (h1 : i + 1 < (A.length : Int)) (h2 : 0 ≤ z) (h3 : z < (C.length : Int)) :
    on4 A' i (i + 1) C' z = on4 A (sg v A i) (sg v A i + 1) C (ro u C z) := by
  obtain ⟨s0, s1⟩ := sg_in (v := v) h0 h1
  obtain ⟨u0, u1⟩ := ro_in (v := u) h2 h3
  have a1 := sml_bd hA s0 (by omega : sg v A i < (A.length : Int))
  have a2 := sml_bd hA (by omega : 0 ≤ sg v A i + 1) s1
  have b1 := sml_bd hC u0 u1
  have c1 := im_bd hN hA s0 (by omega : sg v A i < (A.length : Int))
  have c2 := im_bd hN hA (by omega : 0 ≤ sg v A i + 1) s1
  have d1 := im_bd hN hC u0 u1
  have key := hN.k.on a1 a2 b1 c1 c2 d1
  have z1 := rC.x z h2 h3
  have z2 := rC.y z h2 h3
  unfold on4
  unfold ro at *
  rw [z1, z2]
  rcases rel_ends rA h0 h1 with ⟨e1, e2, e3, e4⟩ | ⟨e1, e2, e3, e4⟩ <;> rw [e1, e2, e3, e4]
  · exact key
  · rw [on_swp c1 c2 d1]; exact key
omit hA hB in
theorem rel_eq {z y : Int} (h0 : 0 ≤ z) (h1 : z < (A.length : Int)) (h2 : 0 ≤ y) (h3 : y < (B.length : Int)) : eq2 A' B' z y = eq2 A B (ro v A z) (ro w B y) := by
  unfold eq2 ro
  rw [rA.x z h0 h1, rA.y z h0 h1, rB.x y h2 h3, rB.y y h2 h3, Bool.eq_iff_iff]
  simp only [Bool.and_eq_true, beq_iff_eq, and_true]
  have := hN.k.eq (Hg.qX A (bif v then (A.length : Int) - 1 - z else z)) (Hg.qY A (bif v then (A.length : Int) - 1 - z else z)) (Hg.qX B (bif w then (B.length : Int) - 1 - y else y)) (Hg.qY B (bif w then (B.length : Int) - 1 - y else y))
  unfold eqP at this
  rw [decide_eq_decide] at this
  exact this
theorem rel_endP {i k z : Int} (h0 : 0 ≤ i) (h1 : i + 1 < (A.length : Int)) (h2 : 0 ≤ k) (h3 : k + 1 < (B.length : Int)) (h4 : 0 ≤ z) (h5 : z < (A.length : Int)) :
    endP A' B' i k z = endP A B (sg v A i) (sg w B k) (ro v A z) := by
  have hb : 0 < B.length := by omega
  have e1 := rel_on hN hA rA hA rA h0 h1 h4 h5
  have e2 := rel_on hN hB rB hA rA h2 h3 h4 h5
  have e3 := rel_eq hN rA rB h4 h5 (Int.le_refl 0) (by omega)
  have e4 := rel_eq hN rA rB h4 h5 (show 0 ≤ (B.length : Int) - 1 by omega) (show (B.length : Int) - 1 < (B.length : Int) by omega)
  unfold endP
  rw [rB.len, e1, e2, e3, e4]
  congr 1
  unfold ro
  cases w
  · rfl
  · simp only [cond_true]
    rw [show (B.length : Int) - 1 - 0 = (B.length : Int) - 1 by omega, show (B.length : Int) - 1 - ((B.length : Int) - 1) = 0 by omega, Bool.or_comm]
theorem rel_xAt {i k : Int} (h0 : 0 ≤ i) (h1 : i + 1 < (A.length : Int)) (h2 : 0 ≤ k) (h3 : k + 1 < (B.length : Int)) : Hg.xAt A' B' i k = Hg.xAt A B (sg v A i) (sg w B k) := by
  have e1 := rel_endP hN hA hB rA rB h0 h1 h2 h3 (Int.le_refl 0) (show (0 : Int) < (A.length : Int) by omega)
  have e2 := rel_endP hN hA hB rA rB h0 h1 h2 h3 (show 0 ≤ (A.length : Int) - 1 by omega) (show (A.length : Int) - 1 < (A.length : Int) by omega)
  have e3 : endB A' B' i k = endB A B (sg v A i) (sg w B k) := by
    unfold endB
    rw [rA.len, e1, e2]
    unfold ro
    cases v
    · rfl
    · simp only [cond_true]
      rw [show (A.length : Int) - 1 - 0 = (A.length : Int) - 1 by omega, show (A.length : Int) - 1 - ((A.length : Int) - 1) = 0 by omega, Bool.or_comm]
  unfold Hg.xAt
  rw [e3, rel_mt hN hA hB rA rB h0 h1 h2 h3]
end
theorem crK_iff {es ms : List PV} {i : Int} : ∀ (n : Nat) (k : Int), crK es ms i k n = true ↔ ∃ j, k ≤ j ∧ j < k + n ∧ Hg.xAt es ms i j = true
  | 0, k => by simp only [crK, Bool.false_eq_true, false_iff]; rintro ⟨j, h1, h2, _⟩; omega
  | n + 1, k => by
    unfold crK
    rw [Bool.or_eq_true, crK_iff n (k + 1)]
    constructor
    · rintro (h | ⟨j, h1, h2, h3⟩)
      · exact ⟨k, Int.le_refl _, by omega, h⟩
      · exact ⟨j, by omega, by omega, h3⟩
    · rintro ⟨j, h1, h2, h3⟩
      by_cases e : j = k
      · exact .inl (e ▸ h3)
      · exact .inr ⟨j, by omega, by omega, h3⟩
theorem crI_iff {es ms : List PV} : ∀ (n : Nat) (i : Int), crI es ms i n = true ↔ ∃ j, i ≤ j ∧ j < i + n ∧ crK es ms j 0 (ms.length - 1) = true
  | 0, k => by simp only [crI, Bool.false_eq_true, false_iff]; rintro ⟨j, h1, h2, _⟩; omega
  | n + 1, k => by
    unfold crI
    rw [Bool.or_eq_true, crI_iff n (k + 1)]
    constructor
    · rintro (h | ⟨j, h1, h2, h3⟩)
      · exact ⟨k, Int.le_refl _, by omega, h⟩
      · exact ⟨j, by omega, by omega, h3⟩
    · rintro ⟨j, h1, h2, h3⟩
      by_cases e : j = k
      · exact .inl (e ▸ h3)
      · exact .inr ⟨j, by omega, by omega, h3⟩
theorem cr_iff {es ms : List PV} (h1 : 1 ≤ es.length) (h2 : 1 ≤ ms.length) : crI es ms 0 (es.length - 1) = true ↔ ∃ i k : Int, 0 ≤ i ∧ i + 1 < (es.length : Int) ∧ 0 ≤ k ∧ k + 1 < (ms.length : Int) ∧ Hg.xAt es ms i k = true := by
  rw [crI_iff]
  constructor
  · rintro ⟨i, a1, a2, a3⟩
    obtain ⟨k, b1, b2, b3⟩ := (crK_iff _ _).1 a3
    exact ⟨i, k, a1, by omega, b1, by omega, b3⟩
  · rintro ⟨i, k, a1, a2, b1, b2, b3⟩
    exact ⟨i, a1, by omega, (crK_iff _ _).2 ⟨k, b1, by omega, b3⟩⟩
theorem rel_crx {X Y : Int → Int → Int} (hN : Near X Y) {v w : Bool} {A A' B B' : List PV} (hA : ∀ e ∈ A, sml e) (hB : ∀ e ∈ B, sml e) (rA : Rel X Y v A A') (rB : Rel X Y w B B') (h1 : 1 ≤ A.length) (h2 : 1 ≤ B.length) : crx A' B' = crx A B := by
  unfold crx
  rw [rel_fin hN hA rA, rel_fin hN hB rB, sml_fin hA, sml_fin hB, Bool.eq_iff_iff]
  simp only [Bool.true_and]
  have l1 := rA.len
  have l2 := rB.len
  rw [cr_iff (by omega) (by omega), cr_iff h1 h2, l1, l2]
  constructor
  · rintro ⟨i, k, a1, a2, b1, b2, b3⟩
    obtain ⟨s0, s1⟩ := sg_in (v := v) a1 a2
    obtain ⟨u0, u1⟩ := sg_in (v := w) b1 b2
    exact ⟨_, _, s0, s1, u0, u1, by rw [← rel_xAt hN hA hB rA rB a1 a2 b1 b2]; exact b3⟩
  · rintro ⟨i, k, a1, a2, b1, b2, b3⟩
    obtain ⟨s0, s1⟩ := sg_in (v := v) a1 a2
    obtain ⟨u0, u1⟩ := sg_in (v := w) b1 b2
    exact ⟨_, _, s0, s1, u0, u1, by rw [rel_xAt hN hA hB rA rB s0 s1 u0 u1, sg_sg, sg_sg]; exact b3⟩
theorem eqq_comm (A : List PV) (i j : Int) : eqq A i j = eqq A j i := by
  unfold eqq
  rw [Bool.eq_iff_iff]
  simp only [Bool.and_eq_true, beq_iff_eq, and_true]
  exact ⟨fun ⟨a, b⟩ => ⟨a.symm, b.symm⟩, fun ⟨a, b⟩ => ⟨a.symm, b.symm⟩⟩
theorem rel_chk {X Y : Int → Int → Int} (hN : Near X Y) {v : Bool} {A A' : List PV} (hA : ∀ e ∈ A, sml e) (rA : Rel X Y v A A') (h1 : 2 ≤ A.length) (h2 : A.length ≤ 3) : Hg.chk A' = Hg.chk A := by
  have hq : ∀ i j : Int, 0 ≤ i → i < (A.length : Int) → 0 ≤ j → j < (A.length : Int) → eqq A' i j = eqq A (ro v A i) (ro v A j) := fun i j a1 a2 a3 a4 => rel_eq hN rA rA a1 a2 a3 a4
  have hall : allI A' ((A.length : Int) - 2) 0 (A.length - 1) = allI A ((A.length : Int) - 2) 0 (A.length - 1) := ?hall
  · unfold Hg.chk
    rw [rel_fin hN hA rA, sml_fin hA, rA.len, hall]
  rcases (by omega : A.length = 2 ∨ A.length = 3) with hl | hl
  · have q0 := hq 0 1 (by omega) (by omega) (by omega) (by omega)
    rw [hl]
    simp only [allI, Hg.allP, Nat.reduceSub, Int.toNat_zero, Bool.and_true]
    show (!eqq A' 0 (0 + 1)) = !eqq A 0 (0 + 1)
    rw [show (0 : Int) + 1 = 1 from rfl, q0]
    unfold ro
    cases v
    · rfl
    · simp only [cond_true, hl]
      rw [eqq_comm]; rfl
  · have q0 := hq 0 1 (by omega) (by omega) (by omega) (by omega)
    have q1 := hq 1 2 (by omega) (by omega) (by omega) (by omega)
    have m1 : mq A' 0 1 = mq A (sg v A 0) (sg v A 1) := rel_mt hN hA hA rA rA (Int.le_refl 0) (by omega) (by omega) (by omega)
    rw [hl]
    show ((!eqq A' 0 1) && (true && ((!eqq A' 1 2) && (((mq A' 0 1 == want A' ((3 : Nat) - 2 : Int) 1 0) && true) && true)))) = ((!eqq A 0 1) && (true && ((!eqq A 1 2) && (((mq A 0 1 == want A ((3 : Nat) - 2 : Int) 1 0) && true) && true))))
    rw [q0, q1, m1, show want A' ((3 : Nat) - 2 : Int) 1 0 = 1 from rfl, show want A ((3 : Nat) - 2 : Int) 1 0 = 1 from rfl]
    unfold ro sg
    cases v
    · rfl
    · simp only [cond_true, hl]
      have b0 := sml_bd hA (j := 0) (by omega) (by omega)
      have b1 := sml_bd hA (j := 1) (by omega) (by omega)
      have b2 := sml_bd hA (j := 2) (by omega) (by omega)
      have m2 : mq A 1 0 = mq A 0 1 := mt_swap3 b0 b1 b1 b2
      show ((!eqq A 2 1) && (true && ((!eqq A 1 0) && (((mq A 1 0 == 1) && true) && true)))) = ((!eqq A 0 1) && (true && ((!eqq A 1 2) && (((mq A 0 1 == 1) && true) && true))))
      rw [m2, eqq_comm A 2 1, eqq_comm A 1 0]
      cases eqq A 1 2 <;> cases eqq A 0 1 <;> cases (mq A 0 1 == 1) <;> rfl
end Go.Hn
/- Network: SameGroups of equal lists, as a contract. -/
namespace Go.Hn
open Go.Hx Go.Hg Go.Proofs
def shS1 : Hx.S1 := ⟨53, [(0, .lst 22), (1, .lst 22), (5, I64), (6, I64)], []⟩
abbrev lS1 (g : Bool) (G : List PV) (h : Bool) (F : List PV) (i k : Int) : LS := ([.l g G, .l h F, .i i, .i k], [])
abbrev tS1 (g : Bool) (G : List PV) (h : Bool) (F : List PV) (i : Int) : List PV := tm 53 [(0, .lst g 22 G), (1, .lst h 22 F), (5, iv i)]
theorem qS1 (g : Bool) (G : List PV) (h : Bool) (F : List PV) (i k : Int) : runB Tryz.prog X0 60 15 (lpb Tryz.f15 9) [0, 1, 5, 6] [0, 1, 5] (shS1.put (lS1 g G h F i k)).1 (shS1.put (lS1 g G h F i k)).2 =
  bif inr G i then bif decide (k < ((gA G i).length : Int)) then bif inr G i then bif inr (gA G i) k then bif inr F i then bif inr (gA F i) k then
    bif nI (gA G i) k != nI (gA F i) k then some (.ret, tS1 g G h F i, []) else some (.normal, shS1.put (lS1 g G h F i (W (k + 1)))) else none else none else none else none
  else some (.exit 2, tS1 g G h F i, []) else none := by kernel_rfl
noncomputable def pS1 : LS → Bool
  | ([.l _ G, .l _ F, .i i, .i k], []) => decide (0 ≤ i) && decide (i < (G.length : Int)) && decide (i < (F.length : Int)) && decide (0 ≤ k) && okG G && same (gA G i) (gA F i)
  | _ => false
def fS1 : LS → DT (PX × List PV × List Row)
  | ([.l g G, .l h F, .i i, .i _], []) => .leaf (.exit 2, tS1 g G h F i, [])
  | _ => .no
def mS1 : LS → Nat
  | ([.l _ G, .l _ _, .i i, .i k], []) => (((gA G i).length : Int) - k).toNat
  | _ => 0
theorem sS1 : ∀ s r, pS1 s = true → (fS1 s).run = some r → r.1 ≠ .normal ∧ (runB Tryz.prog X0 60 15 (lpb Tryz.f15 9) [0, 1, 5, 6] [0, 1, 5] (shS1.put s).1 (shS1.put s).2 = some r ∨
      ∃ s', runB Tryz.prog X0 60 15 (lpb Tryz.f15 9) [0, 1, 5, 6] [0, 1, 5] (shS1.put s).1 (shS1.put s).2 = some (.normal, shS1.put s') ∧ pS1 s' = true ∧ mS1 s' < mS1 s ∧ (fS1 s').run = some r) := by
  intro t r hp hr
  unfold pS1 at hp; split at hp
  · rename_i g G h F i k
    simp only [Bool.and_eq_true, decide_eq_true_eq, same_iff] at hp
    obtain ⟨⟨⟨⟨⟨h1, h2⟩, h3⟩, h4⟩, h5⟩, h6⟩ := hp
    have hr' := (Option.some.inj hr).symm
    refine ⟨by rw [hr']; simp, ?_⟩
    rw [show shS1.put ([.l g G, .l h F, .i i, .i k], []) = shS1.put (lS1 g G h F i k) from rfl, qS1, ← h6, inr_of h1 h2, inr_of h1 h3]
    have hG : bigN G = true := by unfold okG at h5; rw [Bool.and_eq_true] at h5; exact h5.2
    have hb := bigN_gA hG h1 h2
    by_cases hk : k < ((gA G i).length : Int)
    · rw [decide_eq_true hk, inr_of h4 hk, bne_self_eq_false, W_id (n := k + 1) (by omega) (by omega)]
      refine .inr ⟨lS1 g G h F i (k + 1), rfl, by simp only [pS1, Bool.and_eq_true, decide_eq_true_eq, same_iff]; exact ⟨⟨⟨⟨⟨h1, h2⟩, h3⟩, by omega⟩, h5⟩, h6⟩, by simp only [mS1]; omega, ?_⟩
      rw [hr']; rfl
    · rw [decide_eq_false hk]
      exact .inl (by rw [hr']; rfl)
  · cases hp
noncomputable def Y7 : EnvK := X0.addW 15 9 [0, 1, 5, 6] [] shS1 pS1 fS1
theorem okY7 : EnvOK Tryz.prog Y7.env :=
  okX0.addW (n := 60) Tryz.func15 (show Tryz.f15.body = some (bod Tryz.f15) by kernel_rfl) (show (loops (bod Tryz.f15)).filter (fun b => rid b == 9) = [lpb Tryz.f15 9] by kernel_rfl) [0, 1, 5, 6] [0, 1, 5] [] shS1 mS1 sS1
def shS2 : Hx.S1 := ⟨53, [(0, .lst 22), (1, .lst 22), (5, I64)], []⟩
abbrev lS2 (g : Bool) (G : List PV) (h : Bool) (F : List PV) (i : Int) : LS := ([.l g G, .l h F, .i i], [])
theorem qS2 (g : Bool) (G : List PV) (h : Bool) (F : List PV) (i : Int) : runB Tryz.prog Y7 60 15 (lpb Tryz.f15 4) [0, 1, 5] [] (shS2.put (lS2 g G h F i)).1 (shS2.put (lS2 g G h F i)).2 =
  bif decide (i < (G.length : Int)) then bif inr G i then bif inr F i then bif ((gA G i).length : Int) != ((gA F i).length : Int) then some (.ret, tm 53 [], []) else
    bif pS1 (lS1 g G h F i 0) then some (.normal, shS2.put (lS2 g G h F (W (i + 1)))) else none else none else none
  else some (.exit 0, tm 53 [], []) := by kernel_rfl
/-- Equal lists of lists. -/
noncomputable def sameG (G F : List PV) : Bool := decide (G.length = F.length) && same (G.map eL) (F.map eL)
noncomputable def pS2 : LS → Bool
  | ([.l _ G, .l _ F, .i i], []) => decide (0 ≤ i) && okG G && sameG G F
  | _ => false
def fS2 : LS → DT (PX × List PV × List Row)
  | ([.l _ _, .l _ _, .i _], []) => .leaf (.exit 0, tm 53 [], [])
  | _ => .no
def mS2 : LS → Nat
  | ([.l _ G, .l _ _, .i i], []) => ((G.length : Int) - i).toNat
  | _ => 0
theorem sameG_at {G F : List PV} (h : sameG G F = true) {i : Int} (h1 : 0 ≤ i) (h2 : i < (G.length : Int)) : i < (F.length : Int) ∧ gA G i = gA F i := by
  unfold sameG at h
  rw [Bool.and_eq_true, decide_eq_true_eq, same_iff] at h
  obtain ⟨hl, hm⟩ := h
  refine ⟨by omega, ?_⟩
  have : (G.map eL)[i.toNat]? = (F.map eL)[i.toNat]? := by rw [hm]
  rw [List.getElem?_map, List.getElem?_map, List.getElem?_eq_getElem (by omega), List.getElem?_eq_getElem (by omega)] at this
  unfold gA
  rw [List.getD_eq_getElem?_getD, List.getD_eq_getElem?_getD, List.getElem?_eq_getElem (by omega), List.getElem?_eq_getElem (by omega)]
  exact Option.some.inj this
theorem sS2 : ∀ s r, pS2 s = true → (fS2 s).run = some r → r.1 ≠ .normal ∧ (runB Tryz.prog Y7 60 15 (lpb Tryz.f15 4) [0, 1, 5] [] (shS2.put s).1 (shS2.put s).2 = some r ∨
      ∃ s', runB Tryz.prog Y7 60 15 (lpb Tryz.f15 4) [0, 1, 5] [] (shS2.put s).1 (shS2.put s).2 = some (.normal, shS2.put s') ∧ pS2 s' = true ∧ mS2 s' < mS2 s ∧ (fS2 s').run = some r) := by
  intro t r hp hr
  unfold pS2 at hp; split at hp
  · rename_i g G h F i
    simp only [Bool.and_eq_true, decide_eq_true_eq] at hp
    obtain ⟨⟨h1, h5⟩, h6⟩ := hp
    have hr' := (Option.some.inj hr).symm
    refine ⟨by rw [hr']; simp, ?_⟩
    rw [show shS2.put ([.l g G, .l h F, .i i], []) = shS2.put (lS2 g G h F i) from rfl, qS2]
    have hG : G.length ≤ 1000000 := by unfold okG at h5; rw [Bool.and_eq_true, decide_eq_true_eq] at h5; exact h5.1
    by_cases hi : i < (G.length : Int)
    · obtain ⟨h2, h3⟩ := sameG_at h6 h1 hi
      rw [decide_eq_true hi, inr_of h1 hi, inr_of h1 h2, ← h3, bne_self_eq_false, W_id (n := i + 1) (by omega) (by omega),
        show pS1 (lS1 g G h F i 0) = true by simp only [pS1, Bool.and_eq_true, decide_eq_true_eq, same_iff]; exact ⟨⟨⟨⟨⟨h1, hi⟩, h2⟩, Int.le_refl _⟩, h5⟩, h3⟩]
      refine .inr ⟨lS2 g G h F (i + 1), rfl, by simp only [pS2, Bool.and_eq_true, decide_eq_true_eq]; exact ⟨⟨by omega, h5⟩, h6⟩, by simp only [mS2]; omega, ?_⟩
      rw [hr']; rfl
    · rw [decide_eq_false hi]
      exact .inl (by rw [hr']; rfl)
  · cases hp
noncomputable def Y8 : EnvK := Y7.addW 15 4 [0, 1, 5] [] shS2 pS2 fS2
theorem okY8 : EnvOK Tryz.prog Y8.env :=
  okY7.addW (n := 60) Tryz.func15 (show Tryz.f15.body = some (bod Tryz.f15) by kernel_rfl) (show (loops (bod Tryz.f15)).filter (fun b => rid b == 4) = [lpb Tryz.f15 4] by kernel_rfl) [0, 1, 5] [] [] shS2 mS2 sS2
theorem qSame (g : Bool) (G : List PV) (h : Bool) (F : List PV) : runP Tryz.prog Y8 60 15 [.lst g 22 G, .lst h 22 F] =
  bif (G.length : Int) != (F.length : Int) then some (bv false) else bif pS2 (lS2 g G h F 0) then some (bv true) else none := by kernel_rfl
theorem qSame' (g : Bool) {G : List PV} (h : Bool) {F : List PV} (h1 : (okG G && sameG G F) = true) : runP Tryz.prog Y8 60 15 [.lst g 22 G, .lst h 22 F] = some (bv true) := by
  rw [Bool.and_eq_true] at h1
  have hl : G.length = F.length := by have := h1.2; unfold sameG at this; rw [Bool.and_eq_true, decide_eq_true_eq] at this; exact this.1
  rw [qSame, hl, bne_self_eq_false, show pS2 (lS2 g G h F 0) = true by simp only [pS2, Bool.and_eq_true, decide_eq_true_eq]; exact ⟨⟨Int.le_refl _, h1.1⟩, h1.2⟩]
  rfl
noncomputable def cSame : List PV → Option (DT PV)
  | [.lst _ 22 G, .lst _ 22 F] => some (.br (okG G && sameG G F) (.leaf (bv true)) .no)
  | _ => none
theorem eSame : Hx.Enters Tryz.prog 15 := (runP_sound okY8 (n := 60) (qSame' true (G := []) true (F := []) (by unfold sameG; rw [same_self]; rfl))).1
theorem oSame (args : List PV) (d : DT PV) (r : PV) (h : cSame args = some d) (hr : d.run = some r) : PCall Tryz.prog 15 args r := by
  unfold cSame at h; split at h
  · cases h
    obtain ⟨h1, rfl⟩ := run_br hr
    exact (runP_sound okY8 (n := 60) (qSame' _ _ h1)).2
  · cases h
end Go.Hn
/- Network: plain law: the same connections make the same groups. -/
namespace Go.Hn
open Go.Hx Go.Hg Go.Proofs
theorem gls_nodup2 {R : S3 → S3} {A : List S3} {ws : List PV} (hI : (ws.map wI).Nodup) (hA : A.Nodup) (hm : ∀ a, a ∈ A ↔ ∃ e ∈ ws, R (stA3 e) = a) : (gls R A ws).Nodup := by
  have h := (List.pairwise_flatten.1 (gls_nodup (R := R) hI hA)).2
  refine (List.Pairwise.and_mem.1 h).imp fun {l r} ⟨hl, _, hlr⟩ => ?_
  rintro rfl
  obtain ⟨a, ha, rfl⟩ := gls_mem.1 hl
  obtain ⟨e, he, h1⟩ := (hm a).1 ha
  have hx : wI e ∈ srtN (idsL R ws a) := srt_mem.2 ⟨e, he, h1, rfl⟩
  exact hlr _ hx _ hx rfl
/-- Two lists of ways with the same numbers, and the same connections among these. -/
structure SameC (R R' : S3 → S3) (ws ws' : List PV) : Prop where
  to : ∀ e ∈ ws, ∃ e' ∈ ws', wI e' = wI e
  back : ∀ e' ∈ ws', ∃ e ∈ ws, wI e = wI e'
  conn : ∀ e ∈ ws, ∀ d ∈ ws, ∀ e' ∈ ws', ∀ d' ∈ ws', wI e = wI e' → wI d = wI d' → (R (stA3 e) = R (stA3 d) ↔ R' (stA3 e') = R' (stA3 d'))
theorem SameC.symm {R R' : S3 → S3} {ws ws' : List PV} (h : SameC R R' ws ws') : SameC R' R ws' ws :=
  ⟨h.back, h.to, fun e he d hd e' he' d' hd' h1 h2 => (h.conn e' he' d' hd' e he d hd h1.symm h2.symm).symm⟩
theorem gls_sub {R R' : S3 → S3} {A A' : List S3} {ws ws' : List PV} (hI : (ws.map wI).Nodup) (hI' : (ws'.map wI).Nodup) (hm : ∀ a, a ∈ A ↔ ∃ e ∈ ws, R (stA3 e) = a) (hm' : ∀ a, a ∈ A' ↔ ∃ e ∈ ws', R' (stA3 e) = a) (h : SameC R R' ws ws') {l : List Int} (hl : l ∈ gls R A ws) : l ∈ gls R' A' ws' := by
  obtain ⟨a, ha, rfl⟩ := gls_mem.1 hl
  obtain ⟨e, he, rfl⟩ := (hm a).1 ha
  obtain ⟨e', he', hw⟩ := h.to e he
  refine gls_mem.2 ⟨R' (stA3 e'), (hm' _).2 ⟨e', he', rfl⟩, srtN_uniq ?_⟩
  refine (List.perm_ext_iff_of_nodup (List.Nodup.sublist (List.filter_sublist.map wI) hI) (List.Nodup.sublist (List.filter_sublist.map wI) hI')).2 fun x => ?_
  show x ∈ idsL R ws (R (stA3 e)) ↔ x ∈ idsL R' ws' (R' (stA3 e'))
  rw [mem_ids, mem_ids]
  constructor
  · rintro ⟨d, hd, h1, rfl⟩
    obtain ⟨d', hd', hwd⟩ := h.to d hd
    exact ⟨d', hd', (h.conn d hd e he d' hd' e' he' hwd.symm hw.symm).1 h1, hwd⟩
  · rintro ⟨d', hd', h1, rfl⟩
    obtain ⟨d, hd, hwd⟩ := h.back d' hd'
    exact ⟨d, hd, (h.conn d hd e he d' hd' e' he' hwd hw.symm).2 h1, hwd⟩
theorem same_groups {ws ws' : List PV} (h : okW ws = true) (h' : okW ws' = true) (hI : (ws.map wI).Nodup) (hI' : (ws'.map wI).Nodup) (hc : ∀ R R', Top ws R → Top ws' R' → SameC R R' ws ws') : sameG (grpL ws) (grpL ws') = true := by
  obtain ⟨R, A, t, hA, hm, _, _, _, _, hg⟩ := grp_facts h
  obtain ⟨R', A', t', hA', hm', _, _, _, _, hg'⟩ := grp_facts h'
  have c := hc R R' t t'
  have hp : (gls R A ws).Perm (gls R' A' ws') := (List.perm_ext_iff_of_nodup (gls_nodup2 hI hA hm) (gls_nodup2 hI' hA' hm')).2 fun l => ⟨gls_sub hI hI' hm hm' c, gls_sub hI' hI hm' hm c.symm⟩
  have e : (grpL ws).map eL = (grpL ws').map eL := by
    show List.map eL (grpL ws) = List.map eL (grpL ws')
    rw [hg, hg', srtG_uniq hp]
  unfold sameG
  rw [Bool.and_eq_true, decide_eq_true_eq, same_iff]
  refine ⟨?_, e⟩
  have := congrArg List.length e
  simpa using this
/-- The order of ways plays no part. -/
theorem same_perm {ws ws' : List PV} (h : okW ws = true) (h' : okW ws' = true) (hI : (ws.map wI).Nodup) (hp : ws'.Perm ws) : sameG (grpL ws) (grpL ws') = true := by
  refine same_groups h h' hI (((hp.map wI).nodup_iff).2 hI) fun R R' t t' => ?_
  have mm : ∀ {e}, e ∈ ws' ↔ e ∈ ws := fun {e} => hp.mem_iff
  have r1 : ∀ s, R' (R s) = R' s := fun s => ((t.least (fun x => R' x = R' s) (fun e he => by rw [t'.one e (mm.2 he)]) s).2 rfl)
  have r2 : ∀ s, R (R' s) = R s := fun s => ((t'.least (fun x => R x = R s) (fun e he => by rw [t.one e (mm.1 he)]) s).2 rfl)
  refine ⟨fun e he => ⟨e, mm.2 he, rfl⟩, fun e he => ⟨e, mm.1 he, rfl⟩, fun e he d hd e' he' d' hd' h1 h2 => ?_⟩
  have e1 := ids_inj hI he (mm.1 he') h1
  have e2 := ids_inj hI hd (mm.1 hd') h2
  subst e1 e2
  exact ⟨fun x => by rw [← r1, x, r1], fun x => by rw [← r2, x, r2]⟩
end Go.Hn
/- Network: plain law of what is reached by joints. -/
namespace Go.Hn
open Go.Hx Go.Hg Go.Proofs
theorem eqS_iff (x y l u v m : Int) : eqS x y l u v m = true ↔ ((x, y, l) : S3) = (u, v, m) := by
  unfold eqS
  simp [Prod.mk.injEq, and_assoc]
theorem stB_len {L : List PV} (h : stB L = true) : ((L.length : Int) == 0) = false := by
  unfold stB at h
  simp only [Bool.and_eq_true, Bool.not_eq_true'] at h
  exact h.1
/-- A common stop. -/
def Jn (e e' : PV) : Prop := stA3 e = stA3 e' ∨ stA3 e = stZ3 e' ∨ stZ3 e = stA3 e' ∨ stZ3 e = stZ3 e'
def jnW (e e' : PV) : Bool := jn (wL e) (wLv e) (wL e') (wLv e')
theorem jn_iff {e e' : PV} (h : stB (wL e) = true) (h' : stB (wL e') = true) : jnW e e' = true ↔ Jn e e' := by
  unfold jnW jn jnB Jn
  rw [stB_len h, stB_len h']
  simp only [Bool.not_false, Bool.true_and, Bool.or_eq_true, eqS_iff]
  rfl
theorem Jn.symm {e e' : PV} (h : Jn e e') : Jn e' e := by
  rcases h with h | h | h | h
  · exact .inl h.symm
  · exact .inr (.inr (.inl h.symm))
  · exact .inr (.inl h.symm)
  · exact .inr (.inr (.inr h.symm))
theorem Top.join {ws : List PV} {R : S3 → S3} (t : Top ws R) {e e' : PV} (h : e ∈ ws) (h' : e' ∈ ws) (j : Jn e e') : R (stA3 e) = R (stA3 e') := by
  have h1 := t.one e h
  have h2 := t.one e' h'
  rcases j with j | j | j | j
  · rw [j]
  · rw [j, h2]
  · rw [h1, j]
  · rw [h1, j, h2]
/-! Sweeps. -/
abbrev nB (es : List PV) (k : Int) : Bool := ((es.getD k.toNat .any).cellAt 0).getB
def jnE (ws : List PV) (i k : Int) : Bool := jnW (ws.getD i.toNat .any) (ws.getD k.toNat .any)
def swK (ws : List PV) (i : Int) : Int → Nat → List PV → List PV
  | _, 0, es => es
  | k, n + 1, es => swK ws i (k + 1) n (es.set k.toNat (bv (nB es k || (nB es i && jnE ws i k))))
def swI (ws : List PV) : Int → Nat → List PV → List PV
  | _, 0, es => es
  | i, n + 1, es => swI ws (i + 1) n (swK ws i 0 ws.length es)
def swN (ws : List PV) : Nat → List PV → List PV
  | 0, es => es
  | n + 1, es => swN ws n (swI ws 0 ws.length es)
theorem swK_len (ws : List PV) (i : Int) : ∀ (n : Nat) (k : Int) (es : List PV), (swK ws i k n es).length = es.length
  | 0, _, _ => rfl
  | n + 1, k, es => by rw [swK, swK_len ws i n, List.length_set]
theorem swI_len (ws : List PV) : ∀ (n : Nat) (i : Int) (es : List PV), (swI ws i n es).length = es.length
  | 0, _, _ => rfl
  | n + 1, i, es => by rw [swI, swI_len ws n, swK_len]
theorem swN_len (ws : List PV) : ∀ (n : Nat) (es : List PV), (swN ws n es).length = es.length
  | 0, _ => rfl
  | n + 1, es => by rw [swN, swN_len ws n, swI_len]
theorem nB_set {es : List PV} {k : Nat} (hk : k < es.length) (b : Bool) (j : Nat) : nB (es.set k (bv b)) (j : Int) = if j = k then b else nB es (j : Int) := by
  unfold nB
  rw [List.getD_eq_getElem?_getD, List.getD_eq_getElem?_getD, Int.toNat_natCast, List.getElem?_set]
  by_cases h : k = j
  · subst h; rw [if_pos rfl, if_pos hk, if_pos rfl]; rfl
  · rw [if_neg h, if_neg (fun x => h x.symm)]
/-- The one says no less than the other. -/
def leB (es fs : List PV) : Prop := ∀ j : Nat, nB es (j : Int) = true → nB fs (j : Int) = true
theorem swK_mono (ws : List PV) (i : Int) : ∀ (n k : Nat) (es : List PV), k + n ≤ es.length → leB es (swK ws i (k : Int) n es)
  | 0, _, _, _ => fun _ h => h
  | n + 1, k, es, hk => fun j hj => by
    unfold swK
    rw [Int.toNat_natCast, show ((k : Int) + 1) = ((k + 1 : Nat) : Int) by omega]
    refine swK_mono ws i n (k + 1) _ (by rw [List.length_set]; omega) j ?_
    rw [nB_set (by omega)]
    split
    · rename_i e; rw [← e, hj]; rfl
    · exact hj
theorem swK_sound (ws : List PV) {i : Nat} {N : Nat} {P : Nat → Prop} (hP : ∀ j, j < N → P i → jnE ws (i : Int) (j : Int) = true → P j) : ∀ (n k : Nat) (es : List PV), es.length = N → k + n ≤ es.length → (∀ j : Nat, nB es (j : Int) = true → P j) → ∀ j : Nat, nB (swK ws (i : Int) (k : Int) n es) (j : Int) = true → P j
  | 0, _, _, _, _, h => h
  | n + 1, k, es, hN, hk, h => by
    unfold swK
    rw [Int.toNat_natCast, show ((k : Int) + 1) = ((k + 1 : Nat) : Int) by omega]
    refine swK_sound ws hP n (k + 1) _ (by rw [List.length_set]; exact hN) (by rw [List.length_set]; omega) fun j hj => ?_
    rw [nB_set (by omega)] at hj
    split at hj
    · rename_i e
      subst e
      simp only [Bool.or_eq_true, Bool.and_eq_true] at hj
      rcases hj with hj | ⟨h1, h2⟩
      · exact h j hj
      · exact hP j (by omega) (h i h1) h2
    · exact h j hj
theorem swK_hit (ws : List PV) {i j : Nat} (hJ : jnE ws (i : Int) (j : Int) = true) : ∀ (n k : Nat) (es : List PV), k + n ≤ es.length → k ≤ j → j < k + n → nB es (i : Int) = true → nB (swK ws (i : Int) (k : Int) n es) (j : Int) = true
  | 0, _, _, _, h1, h2, _ => by omega
  | n + 1, k, es, hk, h1, h2, hi => by
    unfold swK
    rw [Int.toNat_natCast, show ((k : Int) + 1) = ((k + 1 : Nat) : Int) by omega]
    by_cases e : j = k
    · refine swK_mono ws i n (k + 1) _ (by rw [List.length_set]; omega) j ?_
      rw [nB_set (by omega), if_pos e, hi, ← e, hJ]; simp
    · refine swK_hit ws hJ n (k + 1) _ (by rw [List.length_set]; omega) (by omega) (by omega) ?_
      rw [nB_set (by omega)]
      split
      · rename_i e2; rw [← e2, hi]; rfl
      · exact hi
theorem swI_mono (ws : List PV) : ∀ (n i : Nat) (es : List PV), ws.length ≤ es.length → leB es (swI ws (i : Int) n es)
  | 0, _, _, _ => fun _ h => h
  | n + 1, i, es, hl => fun j hj => by
    unfold swI
    rw [show ((i : Int) + 1) = ((i + 1 : Nat) : Int) by omega]
    exact swI_mono ws n (i + 1) _ (by rw [swK_len]; exact hl) j (swK_mono ws i ws.length 0 es (by omega) j hj)
theorem swI_sound (ws : List PV) {P : Nat → Prop} (hP : ∀ i j, j < ws.length → P i → jnE ws (i : Int) (j : Int) = true → P j) : ∀ (n i : Nat) (es : List PV), es.length = ws.length → (∀ j : Nat, nB es (j : Int) = true → P j) → ∀ j : Nat, nB (swI ws (i : Int) n es) (j : Int) = true → P j
  | 0, _, _, _, h => h
  | n + 1, i, es, hl, h => by
    unfold swI
    rw [show ((i : Int) + 1) = ((i + 1 : Nat) : Int) by omega]
    exact swI_sound ws hP n (i + 1) _ (by rw [swK_len]; exact hl) (swK_sound ws (hP i) ws.length 0 es hl (by omega) h)
theorem swI_hit (ws : List PV) {i j : Nat} (hJ : jnE ws (i : Int) (j : Int) = true) (hj : j < ws.length) : ∀ (n k : Nat) (es : List PV), ws.length ≤ es.length → k ≤ i → i < k + n → nB es (i : Int) = true → nB (swI ws (k : Int) n es) (j : Int) = true
  | 0, _, _, _, h1, h2, _ => by omega
  | n + 1, k, es, hl, h1, h2, hi => by
    unfold swI
    rw [show ((k : Int) + 1) = ((k + 1 : Nat) : Int) by omega]
    by_cases e : i = k
    · subst e
      exact swI_mono ws n (i + 1) _ (by rw [swK_len]; exact hl) j (swK_hit ws hJ ws.length 0 es (by omega) (by omega) (by omega) hi)
    · exact swI_hit ws hJ hj n (k + 1) _ (by rw [swK_len]; exact hl) (by omega) (by omega) (swK_mono ws k ws.length 0 es (by omega) i hi)
/-- Closed under joints. -/
def Shut (ws : List PV) (es : List PV) : Prop := ∀ i j : Nat, j < ws.length → nB es (i : Int) = true → jnE ws (i : Int) (j : Int) = true → nB es (j : Int) = true
def cnt (es : List PV) : Nat := (List.range es.length).countP fun j : Nat => nB es (j : Int)
theorem nB_out {es : List PV} {j : Nat} (h : nB es (j : Int) = true) : j < es.length := by
  rcases Nat.lt_or_ge j es.length with h1 | h1
  · exact h1
  · exfalso
    unfold nB at h
    rw [List.getD_eq_getElem?_getD, Int.toNat_natCast, List.getElem?_eq_none h1] at h
    cases h
theorem countP_lt {p q : Nat → Bool} : ∀ (l : List Nat), (∀ j ∈ l, p j = true → q j = true) → ((∃ j ∈ l, p j = false ∧ q j = true) → l.countP p < l.countP q) ∧ l.countP p ≤ l.countP q
  | [], _ => ⟨fun ⟨_, h, _⟩ => (by cases h), Nat.le_refl _⟩
  | a :: l, h => by
    obtain ⟨h1, h2⟩ := countP_lt l fun j hj => h j (.tail _ hj)
    have ha := h a (.head _)
    rw [List.countP_cons, List.countP_cons]
    refine ⟨fun ⟨j, hj, h3, h4⟩ => ?_, ?_⟩
    · rcases List.mem_cons.1 hj with rfl | hj
      · rw [h3, h4]; simp; omega
      · have := h1 ⟨j, hj, h3, h4⟩
        cases hp : p a
        · simp; split <;> omega
        · rw [ha hp]; simp; omega
    · cases hp : p a
      · simp; split <;> omega
      · rw [ha hp]; simp; omega
theorem sweep (ws : List PV) {es : List PV} (hl : es.length = ws.length) : Shut ws es ∨ cnt es < cnt (swI ws 0 ws.length es) := by
  by_cases hs : Shut ws es
  · exact .inl hs
  · right
    unfold Shut at hs
    simp only [Classical.not_forall] at hs
    obtain ⟨i, j, hj, hi, hJ, hn⟩ := hs
    have hi2 := nB_out hi
    have hit := swI_hit ws hJ hj ws.length 0 es (by omega) (by omega) (by omega) hi
    unfold cnt
    rw [swI_len]
    refine (countP_lt _ fun k _ hk => swI_mono ws ws.length 0 es (by omega) k hk).1 ⟨j, List.mem_range.2 (by omega), by simpa using hn, hit⟩
theorem swI_shut {ws es : List PV} (hl : es.length = ws.length) (h : Shut ws es) (j : Nat) : nB (swI ws 0 ws.length es) (j : Int) = nB es (j : Int) := by
  rw [Bool.eq_iff_iff]
  exact ⟨swI_sound ws (P := fun j => nB es (j : Int) = true) (fun i j hj hP hJ => h i j hj hP hJ) ws.length 0 es hl (fun j hj => hj) j, swI_mono ws ws.length 0 es (by omega) j⟩
theorem swN_shut (ws : List PV) : ∀ (n : Nat) {es : List PV}, es.length = ws.length → Shut ws es → ∀ j : Nat, nB (swN ws n es) (j : Int) = nB es (j : Int)
  | 0, _, _, _, _ => rfl
  | n + 1, es, hl, h, j => by
    have h1 := swI_shut hl h
    have h2 : Shut ws (swI ws 0 ws.length es) := fun i j hj hi hJ => by rw [h1] at hi ⊢; exact h i j hj hi hJ
    unfold swN
    rw [swN_shut ws n (by rw [swI_len]; exact hl) h2, h1]
theorem shut_of {ws es fs : List PV} (h : ∀ j : Nat, nB fs (j : Int) = nB es (j : Int)) (hs : Shut ws es) : Shut ws fs := fun i j hj hi hJ => by rw [h] at hi ⊢; exact hs i j hj hi hJ
theorem swN_grow (ws : List PV) : ∀ (n : Nat) {es : List PV}, es.length = ws.length → Shut ws (swN ws n es) ∨ cnt es + n ≤ cnt (swN ws n es)
  | 0, _, _ => .inr (Nat.le_refl _)
  | n + 1, es, hl => by
    have hl2 : (swI ws 0 ws.length es).length = ws.length := by rw [swI_len]; exact hl
    rcases sweep ws hl with h | h
    · left
      exact shut_of (swN_shut ws (n + 1) hl h) h
    · rcases swN_grow ws n hl2 with h2 | h2
      · exact .inl h2
      · right
        unfold swN
        omega
theorem cnt_le (es : List PV) : cnt es ≤ es.length := by
  unfold cnt
  have := List.countP_le_length (p := fun j : Nat => nB es (j : Int)) (l := List.range es.length)
  rwa [List.length_range] at this
theorem swN_mono (ws : List PV) : ∀ (n : Nat) {es : List PV}, es.length = ws.length → leB es (swN ws n es)
  | 0, _, _ => fun _ h => h
  | n + 1, es, hl => fun j hj => by
    unfold swN
    exact swN_mono ws n (by rw [swI_len]; exact hl) j (swI_mono ws ws.length 0 es (by omega) j hj)
theorem swN_sound (ws : List PV) {P : Nat → Prop} (hP : ∀ i j, j < ws.length → P i → jnE ws (i : Int) (j : Int) = true → P j) : ∀ (n : Nat) {es : List PV}, es.length = ws.length → (∀ j : Nat, nB es (j : Int) = true → P j) → ∀ j : Nat, nB (swN ws n es) (j : Int) = true → P j
  | 0, _, _, h => h
  | n + 1, es, hl, h => by
    unfold swN
    exact swN_sound ws hP n (by rw [swI_len]; exact hl) (swI_sound ws hP ws.length 0 es hl h)
/-- What is seen first. -/
def seen0 (n first : Nat) : List PV := (List.replicate n (bv false)).set first (bv true)
theorem seen0_nB {n first : Nat} (hf : first < n) (j : Nat) : nB (seen0 n first) (j : Int) = decide (j = first) := by
  unfold seen0
  rw [nB_set (by rw [List.length_replicate]; exact hf)]
  by_cases e : j = first
  · rw [if_pos e, decide_eq_true e]
  · rw [if_neg e, decide_eq_false e]
    unfold nB
    rw [Int.toNat_natCast, List.getD_eq_getElem?_getD, List.getElem?_replicate]
    split <;> rfl
/-- What is reached from a way: those of its connection. -/
theorem reach_iff {ws : List PV} (hB : ∀ e ∈ ws, stB (wL e) = true) {R : S3 → S3} (t : Top ws R) {first : Nat} (hf : first < ws.length) {k : Nat} (hk : k < ws.length) :
    nB (swN ws ws.length (seen0 ws.length first)) (k : Int) = true ↔ R (stA3 ws[k]) = R (stA3 ws[first]) := by
  have hl : (seen0 ws.length first).length = ws.length := by unfold seen0; rw [List.length_set, List.length_replicate]
  have hs := swN_grow ws ws.length hl
  have h1 : 1 ≤ cnt (seen0 ws.length first) := by
    unfold cnt
    rw [hl]
    exact List.countP_pos_iff.2 ⟨first, List.mem_range.2 hf, by rw [seen0_nB hf, decide_eq_true rfl]⟩
  have hshut : Shut ws (swN ws ws.length (seen0 ws.length first)) := by
    rcases hs with hs | hs
    · exact hs
    · have := cnt_le (swN ws ws.length (seen0 ws.length first))
      rw [swN_len, hl] at this
      omega
  have at1 : ∀ {j : Nat} (hj : j < ws.length), ws.getD (j : Int).toNat .any = ws[j] := fun {j} hj => by rw [Int.toNat_natCast, List.getD_eq_getElem?_getD, List.getElem?_eq_getElem hj]; rfl
  have hJ : ∀ {i j : Nat} (hi : i < ws.length) (hj : j < ws.length), jnE ws (i : Int) (j : Int) = true ↔ Jn ws[i] ws[j] := fun {i j} hi hj => by
    unfold jnE
    rw [at1 hi, at1 hj]
    exact jn_iff (hB _ (List.getElem_mem hi)) (hB _ (List.getElem_mem hj))
  constructor
  · intro h
    have := swN_sound ws (P := fun j => ∃ hj : j < ws.length, R (stA3 ws[j]) = R (stA3 ws[first])) (fun i j hj ⟨hi, hR⟩ hJ' => ⟨hj, by rw [← hR]; exact (t.join (List.getElem_mem hi) (List.getElem_mem hj) ((hJ hi hj).1 hJ')).symm⟩) ws.length hl
      (fun j hj => by
        rw [seen0_nB hf] at hj
        have e := of_decide_eq_true hj
        subst e
        exact ⟨hf, rfl⟩) k h
    exact this.2
  · intro h
    have hi := t.least (fun s => ∃ (j : Nat) (hj : j < ws.length), nB (swN ws ws.length (seen0 ws.length first)) (j : Int) = true ∧ (s = stA3 ws[j] ∨ s = stZ3 ws[j])) (fun e he => by
      obtain ⟨m, hm, rfl⟩ := List.mem_iff_getElem.1 he
      constructor
      · rintro ⟨j, hj, h1, h2⟩
        have : Jn ws[j] ws[m] := by
          rcases h2 with h2 | h2
          · exact .inl h2.symm
          · exact .inr (.inr (.inl h2.symm))
        exact ⟨m, hm, hshut j m hm h1 ((hJ hj hm).2 this), .inr rfl⟩
      · rintro ⟨j, hj, h1, h2⟩
        have : Jn ws[j] ws[m] := by
          rcases h2 with h2 | h2
          · exact .inr (.inl h2.symm)
          · exact .inr (.inr (.inr h2.symm))
        exact ⟨m, hm, hshut j m hm h1 ((hJ hj hm).2 this), .inl rfl⟩)
    have hfirst := (hi (stA3 ws[first])).2 ⟨first, hf, swN_mono ws ws.length hl first (by rw [seen0_nB hf, decide_eq_true rfl]), .inl rfl⟩
    rw [← h] at hfirst
    obtain ⟨j, hj, h1, h2⟩ := (hi (stA3 ws[k])).1 hfirst
    refine hshut j k hk h1 ((hJ hj hk).2 ?_)
    rcases h2 with h2 | h2
    · exact .inl h2.symm
    · exact .inr (.inr (.inl h2.symm))
end Go.Hn
/- Network: plain law: ways that are turned, moved and reversed: stops, joints, connections, checks. -/
namespace Go.Hn
open Go.Hx Go.Hg Go.Proofs
structure RelW (X Y : Int → Int → Int) (e e' : PV) : Prop where
  id : wI e' = wI e
  lv : wLv e' = wLv e
  wt : wWt e' = wWt e
  line : ∃ v, Rel X Y v (wL e) (wL e')
  lo : 2 ≤ (wL e).length
  hi : (wL e).length ≤ 3
  pts : ∀ p ∈ wL e, sml p
/-- A stop, turned and moved. -/
def gS3 (X Y : Int → Int → Int) (s : S3) : S3 := (X s.1 s.2.1, Y s.1 s.2.1, s.2.2)
theorem gS3_inj {X Y : Int → Int → Int} (hN : Near X Y) {s t : S3} (h : gS3 X Y s = gS3 X Y t) : s = t := by
  obtain ⟨a, b, c⟩ := s
  obtain ⟨d, e, f⟩ := t
  unfold gS3 at h
  simp only [Prod.mk.injEq] at h ⊢
  obtain ⟨h1, h2, h3⟩ := h
  have := hN.k.eq a b d e
  unfold eqP at this
  rw [decide_eq_decide] at this
  have h4 := this.1 ⟨h1, h2⟩
  exact ⟨h4.1, h4.2, h3⟩
theorem stA3_q (e : PV) : stA3 e = (Hg.qX (wL e) 0, Hg.qY (wL e) 0, wLv e) := rfl
theorem stZ3_q {e : PV} (h : 1 ≤ (wL e).length) (h2 : (wL e).length ≤ 1000) : stZ3 e = (Hg.qX (wL e) (((wL e).length : Int) - 1), Hg.qY (wL e) (((wL e).length : Int) - 1), wLv e) := by
  have : lastI (wL e) = ((wL e).length : Int) - 1 := by unfold lastI; exact W_id (by omega) (by omega)
  show (ptX (wL e) (lastI (wL e)).toNat, ptY (wL e) (lastI (wL e)).toNat, wLv e) = _
  rw [this]; rfl
theorem rel_stops {X Y : Int → Int → Int} {e e' : PV} (r : RelW X Y e e') : (stA3 e' = gS3 X Y (stA3 e) ∧ stZ3 e' = gS3 X Y (stZ3 e)) ∨ (stA3 e' = gS3 X Y (stZ3 e) ∧ stZ3 e' = gS3 X Y (stA3 e)) := by
  obtain ⟨v, rl⟩ := r.line
  have lo := r.lo
  have hi := r.hi
  have hl := rl.len
  have x0 := rl.x 0 (Int.le_refl 0) (by omega)
  have y0 := rl.y 0 (Int.le_refl 0) (by omega)
  have x1 := rl.x (((wL e).length : Int) - 1) (by omega) (by omega)
  have y1 := rl.y (((wL e).length : Int) - 1) (by omega) (by omega)
  rw [stA3_q, stA3_q, stZ3_q (by omega) (by omega), stZ3_q (by omega) (by omega), hl, r.lv]
  unfold gS3
  cases v with
  | false => exact .inl ⟨by rw [x0, y0]; rfl, by rw [x1, y1]; rfl⟩
  | true =>
    simp only [cond_true] at x0 y0 x1 y1
    rw [show ((wL e).length : Int) - 1 - 0 = ((wL e).length : Int) - 1 by omega] at x0 y0
    rw [show ((wL e).length : Int) - 1 - (((wL e).length : Int) - 1) = 0 by omega] at x1 y1
    exact .inr ⟨by rw [x0, y0], by rw [x1, y1]⟩
theorem rel_Jn {X Y : Int → Int → Int} (hN : Near X Y) {e e' d d' : PV} (r : RelW X Y e e') (q : RelW X Y d d') : Jn e' d' ↔ Jn e d := by
  have i : ∀ {s t : S3}, gS3 X Y s = gS3 X Y t ↔ s = t := ⟨gS3_inj hN, fun h => by rw [h]⟩
  unfold Jn
  rcases rel_stops r with ⟨a, b⟩ | ⟨a, b⟩ <;> rcases rel_stops q with ⟨c, d⟩ | ⟨c, d⟩ <;> rw [a, b, c, d] <;> simp only [i] <;> constructor <;> rintro (h | h | h | h) <;> simp [h]
/-- The other list of ways. -/
structure RelL (X Y : Int → Int → Int) (ws ws' : List PV) : Prop where
  len : ws'.length = ws.length
  at_ : ∀ (i : Nat) (h : i < ws.length) (h' : i < ws'.length), RelW X Y ws[i] ws'[i]
theorem RelL.mem {X Y : Int → Int → Int} {ws ws' : List PV} (r : RelL X Y ws ws') {e' : PV} (h : e' ∈ ws') : ∃ e ∈ ws, RelW X Y e e' := by
  obtain ⟨i, hi, rfl⟩ := List.mem_iff_getElem.1 h
  exact ⟨ws[i]'(by have := r.len; omega), List.getElem_mem _, r.at_ i _ hi⟩
theorem RelL.mem2 {X Y : Int → Int → Int} {ws ws' : List PV} (r : RelL X Y ws ws') {e : PV} (h : e ∈ ws) : ∃ e' ∈ ws', RelW X Y e e' := by
  obtain ⟨i, hi, rfl⟩ := List.mem_iff_getElem.1 h
  exact ⟨ws'[i]'(by have := r.len; omega), List.getElem_mem _, r.at_ i hi _⟩
theorem RelL.ids {X Y : Int → Int → Int} {ws ws' : List PV} (r : RelL X Y ws ws') : ws'.map wI = ws.map wI := by
  apply List.ext_getElem
  · simp [r.len]
  · intro i h1 h2
    rw [List.getElem_map, List.getElem_map]
    exact (r.at_ i (by simpa using h2) (by simpa using h1)).id
theorem rel_same {X Y : Int → Int → Int} (hN : Near X Y) {ws ws' : List PV} (r : RelL X Y ws ws') (hI : (ws.map wI).Nodup) {R R' : S3 → S3} (t : Top ws R) (t' : Top ws' R') : SameC R R' ws ws' := by
  have hI' : (ws'.map wI).Nodup := by rw [r.ids]; exact hI
  have g1 : ∀ e ∈ ws, R' (gS3 X Y (stA3 e)) = R' (gS3 X Y (stZ3 e)) := fun e he => by
    obtain ⟨e', he', q⟩ := r.mem2 he
    have := t'.one e' he'
    rcases rel_stops q with ⟨a, b⟩ | ⟨a, b⟩ <;> rw [a, b] at this
    · exact this
    · exact this.symm
  have fwd : ∀ s, R' (gS3 X Y (R s)) = R' (gS3 X Y s) := fun s => (t.least (fun x => R' (gS3 X Y x) = R' (gS3 X Y s)) (fun e he => by rw [g1 e he]) s).2 rfl
  have bwd : ∀ s, ∃ u, gS3 X Y u = R' (gS3 X Y s) ∧ R u = R s := fun s => by
    have := t'.least (fun x => ∃ u, gS3 X Y u = x ∧ R u = R s) (fun e' he' => by
      obtain ⟨e, he, q⟩ := r.mem he'
      have ho := t.one e he
      rcases rel_stops q with ⟨a, b⟩ | ⟨a, b⟩ <;> rw [a, b]
      · constructor
        · rintro ⟨u, h1, h2⟩; have := gS3_inj hN h1; subst this; exact ⟨_, rfl, by rw [← ho]; exact h2⟩
        · rintro ⟨u, h1, h2⟩; have := gS3_inj hN h1; subst this; exact ⟨_, rfl, by rw [ho]; exact h2⟩
      · constructor
        · rintro ⟨u, h1, h2⟩; have := gS3_inj hN h1; subst this; exact ⟨_, rfl, by rw [ho]; exact h2⟩
        · rintro ⟨u, h1, h2⟩; have := gS3_inj hN h1; subst this; exact ⟨_, rfl, by rw [← ho]; exact h2⟩) (gS3 X Y s)
    exact this.2 ⟨s, rfl, rfl⟩
  have key : ∀ s u, R s = R u ↔ R' (gS3 X Y s) = R' (gS3 X Y u) := fun s u => by
    constructor
    · intro h; rw [← fwd s, h, fwd u]
    · intro h
      obtain ⟨a, a1, a2⟩ := bwd s
      obtain ⟨b, b1, b2⟩ := bwd u
      have : a = b := gS3_inj hN (by rw [a1, b1, h])
      rw [← a2, this, b2]
  have top : ∀ {e e' : PV}, e ∈ ws → e' ∈ ws' → RelW X Y e e' → R' (stA3 e') = R' (gS3 X Y (stA3 e)) := fun {e e'} he he' q => by
    rcases rel_stops q with ⟨a, b⟩ | ⟨a, b⟩
    · rw [a]
    · rw [a, g1 e he]
  have pair : ∀ {e e' : PV}, e ∈ ws → e' ∈ ws' → wI e = wI e' → RelW X Y e e' := fun {e e'} he he' h => by
    obtain ⟨d, hd, q⟩ := r.mem he'
    have := ids_inj hI he hd (h.trans q.id)
    subst this; exact q
  refine ⟨fun e he => ?_, fun e' he' => ?_, fun e he d hd e' he' d' hd' h1 h2 => ?_⟩
  · obtain ⟨e', he', q⟩ := r.mem2 he; exact ⟨e', he', q.id⟩
  · obtain ⟨e, he, q⟩ := r.mem he'; exact ⟨e, he, q.id.symm⟩
  · rw [top he he' (pair he he' h1), top hd hd' (pair hd hd' h2)]
    exact key _ _
/-! P8.1. -/
theorem rel_chkF {X Y : Int → Int → Int} (hN : Near X Y) {ws ws' : List PV} (r : RelL X Y ws ws') : chkF ws' = chkF ws := by
  have g : ∀ {i : Nat} (h : i < ws.length), RelW X Y (ws.getD i .any) (ws'.getD i .any) := fun {i} h => by
    have h' : i < ws'.length := by have := r.len; omega
    rw [List.getD_eq_getElem?_getD, List.getD_eq_getElem?_getD, List.getElem?_eq_getElem h, List.getElem?_eq_getElem h']
    exact r.at_ i h h'
  have gI : ∀ {k : Int}, 0 ≤ k → k < (ws.length : Int) → RelW X Y (ws.getD k.toNat .any) (ws'.getD k.toNat .any) := fun {k} h0 h1 => g (by omega)
  have anI : ∀ (id : Int) (n : Nat) (k : Int), 0 ≤ k → k + n ≤ (ws.length : Int) → anyI ws' id k n = anyI ws id k n := by
    intro id n
    induction n with
    | zero => intro k _ _; rfl
    | succ n ih =>
      intro k h0 h1
      unfold anyI wN
      rw [(gI h0 (by omega)).id, ih (k + 1) (by omega) (by omega)]
  have anC : ∀ (lv : Int) (e e' : PV), RelW X Y e e' → ∀ (n : Nat) (k : Int), 0 ≤ k → k + n ≤ (ws.length : Int) → anyC ws' lv (wL e') k n = anyC ws lv (wL e) k n := by
    intro lv e e' q n
    induction n with
    | zero => intro k _ _; rfl
    | succ n ih =>
      intro k h0 h1
      unfold anyC
      have p := gI h0 (show k < (ws.length : Int) by omega)
      obtain ⟨v, rv⟩ := p.line
      obtain ⟨w, rw_⟩ := q.line
      rw [p.lv, rel_crx hN p.pts q.pts rv rw_ (by have := p.lo; omega) (by have := q.lo; omega), ih (k + 1) (by omega) (by omega)]
  have er : ∀ i : Nat, i < ws.length → errW ws' (i : Int) = errW ws (i : Int) := fun i hi => by
    have p := g hi
    obtain ⟨v, rv⟩ := p.line
    have e0 : ∀ vs : List PV, errW vs (i : Int) = bif decide (wI (vs.getD i .any) < 1) then 1 else bif anyI vs (wI (vs.getD i .any)) 0 i then 6 else bif Hg.chk (wL (vs.getD i .any)) != 0 then Hg.chk (wL (vs.getD i .any)) else
        bif (decide (wLv (vs.getD i .any) < -2) || (decide (wLv (vs.getD i .any) > 2) || (decide (wWt (vs.getD i .any) < 1) || decide (wWt (vs.getD i .any) > 255)))) then 3 else
        bif anyC vs (wLv (vs.getD i .any)) (wL (vs.getD i .any)) 0 i then 16 else 0 := fun vs => rfl
    rw [e0 ws', e0 ws]
    rw [p.id, p.lv, p.wt, anI _ _ _ (Int.le_refl 0) (by omega), rel_chk hN p.pts rv p.lo p.hi, anC _ _ _ p _ _ (Int.le_refl 0) (by omega)]
  have ef : ∀ (n i : Nat), i + n ≤ ws.length → errF ws' (i : Int) n = errF ws (i : Int) n := by
    intro n
    induction n with
    | zero => intro i _; rfl
    | succ n ih =>
      intro i h
      unfold errF
      rw [er i (by omega), show (i : Int) + 1 = ((i + 1 : Nat) : Int) by omega, ih (i + 1) (by omega)]
  unfold chkF
  rw [r.len]
  have := ef ws.length 0 (by omega)
  rw [show ((0 : Nat) : Int) = 0 from rfl] at this
  rw [this]
end Go.Hn
/- Network: NetworkTurns: pairs of ways. -/
namespace Go.Hn
open Go.Hx Go.Hg Go.Proofs
noncomputable def T3 : EnvK := ((((((((T2.addO 8 cSan8).addF 20 cJnd).addO 9 cMade).addF 16 cGrp).addF 13 cChW).addF 22 cCxN).addF 15 cSame)).addDeep 7 17 0
theorem okT3 : EnvOK Tryz.prog T3.env := ((((((((okT2.addO oSan8).addF eJnd oJnd).addO oMade).addF eGrp oGrp).addF eChW oChW).addF eCxN oCxN).addF eSame oSame)).addDeep 7 17 0
/-- Two rows that were let go. -/
abbrev dd : List Row := [deadRow0, deadRow0]
def shU1 : Hx.S1 := ⟨143, [(7, .bool), (8, .lst 44), (9, .lst 44), (14, I64), (15, I64)], [.dead, .dead]⟩
abbrev lU1 (u f : Bool) (ws : List PV) (g : Bool) (os : List PV) (i k : Int) : LS := ([.b u, .l f ws, .l g os, .i i, .i k], [])
abbrev tU1 (u f : Bool) (ws : List PV) (g : Bool) (os : List PV) (i : Int) : List PV := tm 143 [(7, bv u), (8, .lst f 44 ws), (9, .lst g 44 os), (14, iv i)]
def jnC' (ws : List PV) (i k : Int) {α : Type} (x : Option α) : Option α := bif inr ws i then bif inr ws k then bif bigL (wL (ws.getD i.toNat .any)) && bigL (wL (ws.getD k.toNat .any)) then x else none else none else none
def cxW (ws : List PV) (i k : Int) : Bool := cxB (wL (ws.getD i.toNat .any)) (wLv (ws.getD i.toNat .any)) (wL (ws.getD k.toNat .any)) (wLv (ws.getD k.toNat .any))
theorem qU1 (u f : Bool) (ws : List PV) (g : Bool) (os : List PV) (i k : Int) : runB Tryz.prog T3 60 7 (lpb Tryz.f7 21) [7, 8, 9, 14, 15] [7, 8, 9, 14] (shU1.put (lU1 u f ws g os i k)).1 (shU1.put (lU1 u f ws g os i k)).2 =
  bif decide (k < (ws.length : Int)) then jnC' ws i k (jnC' os i k (bif jnE ws i k != jnE os i k then some (.ret, tU1 u f ws g os i, dd) else
    jnC' ws i k (jnC' os k i (bif cxW ws i k != cxW os k i then some (.ret, tU1 u f ws g os i, dd) else some (.normal, shU1.put (lU1 u f ws g os i (W (k + 1))))))))
  else some (.exit 6, tU1 u f ws g os i, dd) := by kernel_rfl
def oneU (ws os : List PV) (i k : Int) : Bool := (jnE ws i k == jnE os i k) && (cxW ws i k == cxW os k i)
def allU1 (ws os : List PV) (i : Int) : Int → Nat → Bool
  | _, 0 => true
  | k, n + 1 => oneU ws os i k && allU1 ws os i (k + 1) n
theorem jnC'_of {ws : List PV} (h : okB ws = true) {i k : Int} (h1 : 0 ≤ i) (h2 : i < (ws.length : Int)) (h3 : 0 ≤ k) (h4 : k < (ws.length : Int)) {α : Type} (x : Option α) : jnC' ws i k x = x := by
  unfold jnC'
  rw [inr_of h1 h2, inr_of h3 h4, okB_at h h1 h2, okB_at h h3 h4]; rfl
def pU1 : LS → Bool
  | ([.b _, .l _ ws, .l _ os, .i i, .i k], []) => decide (0 ≤ k) && decide (0 ≤ i) && decide (i < (ws.length : Int)) && decide (os.length = ws.length) && okB ws && okB os
  | _ => false
def fU1 : LS → DT (PX × List PV × List Row)
  | ([.b u, .l f ws, .l g os, .i i, .i k], []) => .br (allU1 ws os i k ((ws.length : Int) - k).toNat) (.leaf (.exit 6, tU1 u f ws g os i, dd)) .no
  | _ => .no
def mU1 : LS → Nat
  | ([.b _, .l _ ws, .l _ _, .i _, .i k], []) => ((ws.length : Int) - k).toNat
  | _ => 0
theorem sU1 : ∀ s r, pU1 s = true → (fU1 s).run = some r → r.1 ≠ .normal ∧ (runB Tryz.prog T3 60 7 (lpb Tryz.f7 21) [7, 8, 9, 14, 15] [7, 8, 9, 14] (shU1.put s).1 (shU1.put s).2 = some r ∨
      ∃ s', runB Tryz.prog T3 60 7 (lpb Tryz.f7 21) [7, 8, 9, 14, 15] [7, 8, 9, 14] (shU1.put s).1 (shU1.put s).2 = some (.normal, shU1.put s') ∧ pU1 s' = true ∧ mU1 s' < mU1 s ∧ (fU1 s').run = some r) := by
  intro t r hp hr
  unfold pU1 at hp; split at hp
  · rename_i u f ws g os i k
    simp only [Bool.and_eq_true, decide_eq_true_eq] at hp
    obtain ⟨⟨⟨⟨⟨h4, h5⟩, h6⟩, hl⟩, h7⟩, h8⟩ := hp
    obtain ⟨ha, hr'⟩ := run_br hr
    replace hr' := hr'.symm
    refine ⟨by rw [hr']; simp, ?_⟩
    rw [show shU1.put ([.b u, .l f ws, .l g os, .i i, .i k], []) = shU1.put (lU1 u f ws g os i k) from rfl, qU1]
    have hb := okB_len h7
    by_cases hk : k < (ws.length : Int)
    · rw [decide_eq_true hk, cond_true, W_id (n := k + 1) (by omega) (by omega), jnC'_of h7 h5 h6 h4 hk, jnC'_of h8 h5 (by omega) h4 (by omega), jnC'_of h7 h5 h6 h4 hk, jnC'_of h8 h4 (by omega) h5 (by omega)]
      obtain ⟨m, hm⟩ : ∃ m, ((ws.length : Int) - k).toNat = m + 1 := ⟨((ws.length : Int) - k).toNat - 1, by omega⟩
      have hm2 : ((ws.length : Int) - (k + 1)).toNat = m := by omega
      rw [hm] at ha
      unfold allU1 oneU at ha
      simp only [Bool.and_eq_true, beq_iff_eq] at ha
      obtain ⟨⟨a1, a2⟩, a3⟩ := ha
      rw [a1, a2, bne_self_eq_false, bne_self_eq_false]
      refine .inr ⟨lU1 u f ws g os i (k + 1), rfl, by simp only [pU1, Bool.and_eq_true, decide_eq_true_eq]; exact ⟨⟨⟨⟨⟨by omega, h5⟩, h6⟩, hl⟩, h7⟩, h8⟩, by simp only [mU1]; omega, ?_⟩
      rw [hr']; simp only [fU1, hm2, a3]; rfl
    · rw [decide_eq_false hk]
      exact .inl (by rw [hr']; rfl)
  · cases hp
noncomputable def T4 : EnvK := T3.addW 7 21 [7, 8, 9, 14, 15] [] shU1 pU1 fU1
theorem okT4 : EnvOK Tryz.prog T4.env :=
  okT3.addW (n := 60) Tryz.func7 (show Tryz.f7.body = some (bod Tryz.f7) by kernel_rfl) (show (loops (bod Tryz.f7)).filter (fun b => rid b == 21) = [lpb Tryz.f7 21] by kernel_rfl) [7, 8, 9, 14, 15] [7, 8, 9, 14] [] shU1 mU1 sU1
def shU2 : Hx.S1 := ⟨143, [(7, .bool), (8, .lst 44), (9, .lst 44), (14, I64)], [.dead, .dead]⟩
abbrev lU2 (u f : Bool) (ws : List PV) (g : Bool) (os : List PV) (i : Int) : LS := ([.b u, .l f ws, .l g os, .i i], [])
abbrev tU2 (u f : Bool) (ws : List PV) (g : Bool) (os : List PV) : List PV := tm 143 [(7, bv u), (8, .lst f 44 ws), (9, .lst g 44 os)]
theorem qU2 (u f : Bool) (ws : List PV) (g : Bool) (os : List PV) (i : Int) : runB Tryz.prog T4 60 7 (lpb Tryz.f7 18) [7, 8, 9, 14] [7, 8, 9] (shU2.put (lU2 u f ws g os i)).1 (shU2.put (lU2 u f ws g os i)).2 =
  bif decide (i < (ws.length : Int)) then bif pU1 (lU1 u f ws g os i 0) then bif allU1 ws os i 0 ((ws.length : Int) - 0).toNat then some (.normal, shU2.put (lU2 u f ws g os (W (i + 1)))) else none else none
  else some (.exit 4, tU2 u f ws g os, dd) := by kernel_rfl
def allU2 (ws os : List PV) : Int → Nat → Bool
  | _, 0 => true
  | i, n + 1 => allU1 ws os i 0 ws.length && allU2 ws os (i + 1) n
def pU2 : LS → Bool
  | ([.b _, .l _ ws, .l _ os, .i i], []) => decide (0 ≤ i) && decide (os.length = ws.length) && okB ws && okB os
  | _ => false
def fU2 : LS → DT (PX × List PV × List Row)
  | ([.b u, .l f ws, .l g os, .i i], []) => .br (allU2 ws os i ((ws.length : Int) - i).toNat) (.leaf (.exit 4, tU2 u f ws g os, dd)) .no
  | _ => .no
def mU2 : LS → Nat
  | ([.b _, .l _ ws, .l _ _, .i i], []) => ((ws.length : Int) - i).toNat
  | _ => 0
theorem sU2 : ∀ s r, pU2 s = true → (fU2 s).run = some r → r.1 ≠ .normal ∧ (runB Tryz.prog T4 60 7 (lpb Tryz.f7 18) [7, 8, 9, 14] [7, 8, 9] (shU2.put s).1 (shU2.put s).2 = some r ∨
      ∃ s', runB Tryz.prog T4 60 7 (lpb Tryz.f7 18) [7, 8, 9, 14] [7, 8, 9] (shU2.put s).1 (shU2.put s).2 = some (.normal, shU2.put s') ∧ pU2 s' = true ∧ mU2 s' < mU2 s ∧ (fU2 s').run = some r) := by
  intro t r hp hr
  unfold pU2 at hp; split at hp
  · rename_i u f ws g os i
    simp only [Bool.and_eq_true, decide_eq_true_eq] at hp
    obtain ⟨⟨⟨h5, hl⟩, h7⟩, h8⟩ := hp
    obtain ⟨ha, hr'⟩ := run_br hr
    replace hr' := hr'.symm
    refine ⟨by rw [hr']; simp, ?_⟩
    rw [show shU2.put ([.b u, .l f ws, .l g os, .i i], []) = shU2.put (lU2 u f ws g os i) from rfl, qU2]
    have hb := okB_len h7
    by_cases hi : i < (ws.length : Int)
    · obtain ⟨m, hm⟩ : ∃ m, ((ws.length : Int) - i).toNat = m + 1 := ⟨((ws.length : Int) - i).toNat - 1, by omega⟩
      have hm2 : ((ws.length : Int) - (i + 1)).toNat = m := by omega
      rw [hm] at ha
      unfold allU2 at ha
      rw [Bool.and_eq_true] at ha
      rw [decide_eq_true hi, cond_true, W_id (n := i + 1) (by omega) (by omega), show ((ws.length : Int) - 0).toNat = ws.length by omega, ha.1, show pU1 (lU1 u f ws g os i 0) = true by simp only [pU1, Bool.and_eq_true, decide_eq_true_eq]; exact ⟨⟨⟨⟨⟨Int.le_refl _, h5⟩, hi⟩, hl⟩, h7⟩, h8⟩]
      refine .inr ⟨lU2 u f ws g os (i + 1), rfl, by simp only [pU2, Bool.and_eq_true, decide_eq_true_eq]; exact ⟨⟨⟨by omega, hl⟩, h7⟩, h8⟩, by simp only [mU2]; omega, ?_⟩
      rw [hr']; simp only [fU2, hm2, ha.2]; rfl
    · rw [decide_eq_false hi]
      exact .inl (by rw [hr']; rfl)
  · cases hp
noncomputable def T5 : EnvK := T4.addW 7 18 [7, 8, 9, 14] [] shU2 pU2 fU2
theorem okT5 : EnvOK Tryz.prog T5.env :=
  okT4.addW (n := 60) Tryz.func7 (show Tryz.f7.body = some (bod Tryz.f7) by kernel_rfl) (show (loops (bod Tryz.f7)).filter (fun b => rid b == 18) = [lpb Tryz.f7 18] by kernel_rfl) [7, 8, 9, 14] [7, 8, 9] [] shU2 mU2 sU2
end Go.Hn
/- Network: NetworkTurns as a plain function. -/
namespace Go.Hn
open Go.Hx Go.Hg Go.Proofs
/-- The other ways. -/
def oth (q0 q1 q2 : Int) (wh ws : List PV) : List PV := ((([] ++ otL q0 q1 q2 wh ws 0 ((ws.length : Int) - 0).toNat).drop 0).take (0 + ((ws.length : Int) - 0).toNat))
theorem qNT (f g : Bool) (L wh : List PV) (q0 q1 q2 : Int) : runP Tryz.prog T5 100 7 [.lst f 3 L, .lst g 4 wh, .agg [iv q0, iv q1, iv q2]] =
  bif pT2 (lT2 g wh true false (madeW L) 0 0 0 q0 q1 q2 true []) then bif ((([] ++ otL q0 q1 q2 wh (madeW L) 0 (((madeW L).length : Int) - 0).toNat).length == 0 + (((madeW L).length : Int) - 0).toNat) && true) && true then
    bif pU2 (lU2 true false (madeW L) false (oth q0 q1 q2 wh (madeW L)) 0) then bif allU2 (madeW L) (oth q0 q1 q2 wh (madeW L)) 0 (((madeW L).length : Int) - 0).toNat then
      bif okB (oth q0 q1 q2 wh (madeW L)) then bif okB (madeW L) then bif chkF (oth q0 q1 q2 wh (madeW L)) == chkF (madeW L) then bif okW (madeW L) then bif okW (oth q0 q1 q2 wh (madeW L)) then
        bif okG (grpL (madeW L)) && sameG (grpL (madeW L)) (grpL (oth q0 q1 q2 wh (madeW L))) then some (bv true) else none else none else none else some (bv false) else none else none else none else none else none else none := by kernel_rfl
end Go.Hn
/- Network: NetworkTurns answers true. -/
namespace Go.Hn
open Go.Hx Go.Hg Go.Proofs
/-! Crossings. -/
theorem anM1_iff {A B : List PV} {i : Int} : ∀ (n : Nat) (k : Int), anM1 A B i k n = true ↔ ∃ j, k ≤ j ∧ j < k + n ∧ mtP A B i j = true
  | 0, k => by simp only [anM1, Bool.false_eq_true, false_iff]; rintro ⟨j, h1, h2, _⟩; omega
  | n + 1, k => by
    unfold anM1
    rw [Bool.or_eq_true, anM1_iff n (k + 1)]
    constructor
    · rintro (h | ⟨j, h1, h2, h3⟩)
      · exact ⟨k, Int.le_refl _, by omega, h⟩
      · exact ⟨j, by omega, by omega, h3⟩
    · rintro ⟨j, h1, h2, h3⟩
      by_cases e : j = k
      · exact .inl (e ▸ h3)
      · exact .inr ⟨j, by omega, by omega, h3⟩
theorem anM2_iff {A B : List PV} : ∀ (n : Nat) (i : Int), anM2 A B i n = true ↔ ∃ j, i ≤ j ∧ j < i + n ∧ anM1 A B j 1 ((B.length : Int) - 1).toNat = true
  | 0, k => by simp only [anM2, Bool.false_eq_true, false_iff]; rintro ⟨j, h1, h2, _⟩; omega
  | n + 1, k => by
    unfold anM2
    rw [Bool.or_eq_true, anM2_iff n (k + 1)]
    constructor
    · rintro (h | ⟨j, h1, h2, h3⟩)
      · exact ⟨k, Int.le_refl _, by omega, h⟩
      · exact ⟨j, by omega, by omega, h3⟩
    · rintro ⟨j, h1, h2, h3⟩
      by_cases e : j = k
      · exact .inl (e ▸ h3)
      · exact .inr ⟨j, by omega, by omega, h3⟩
theorem anM_iff {A B : List PV} : anM2 A B 1 ((A.length : Int) - 1).toNat = true ↔ ∃ i k : Int, 0 ≤ i ∧ i + 1 < (A.length : Int) ∧ 0 ≤ k ∧ k + 1 < (B.length : Int) ∧ mt4 A i (i + 1) B k (k + 1) > 0 := by
  rw [anM2_iff]
  constructor
  · rintro ⟨i, a1, a2, a3⟩
    obtain ⟨k, b1, b2, b3⟩ := (anM1_iff _ _).1 a3
    refine ⟨i - 1, k - 1, by omega, by omega, by omega, by omega, ?_⟩
    unfold mtP at b3
    rw [decide_eq_true_eq] at b3
    rw [show i - 1 + 1 = i by omega, show k - 1 + 1 = k by omega]; exact b3
  · rintro ⟨i, k, a1, a2, b1, b2, b3⟩
    refine ⟨i + 1, by omega, by omega, (anM1_iff _ _).2 ⟨k + 1, by omega, by omega, ?_⟩⟩
    unfold mtP
    rw [decide_eq_true_eq, show i + 1 - 1 = i by omega, show k + 1 - 1 = k by omega]; exact b3
theorem rel_cxB {X Y : Int → Int → Int} (hN : Near X Y) {v w : Bool} {A A' B B' : List PV} (hA : ∀ e ∈ A, sml e) (hB : ∀ e ∈ B, sml e) (rA : Rel X Y v A A') (rB : Rel X Y w B B') (a b : Int) : cxB B' b A' a = cxB A a B b := by
  unfold cxB
  have l1 := rA.len
  have l2 := rB.len
  congr 1
  · rw [Bool.eq_iff_iff, bne_iff_ne, bne_iff_ne]; exact ne_comm
  · rw [Bool.eq_iff_iff, anM_iff, anM_iff, l1, l2]
    have sw : ∀ i k : Int, 0 ≤ i → i + 1 < (A.length : Int) → 0 ≤ k → k + 1 < (B.length : Int) → mt4 B k (k + 1) A i (i + 1) = mt4 A i (i + 1) B k (k + 1) := fun i k a1 a2 b1 b2 => by
      unfold mt4
      exact mt_swap3 (sml_bd hA a1 (by omega)) (sml_bd hA (by omega) a2) (sml_bd hB b1 (by omega)) (sml_bd hB (by omega) b2)
    constructor
    · rintro ⟨k, i, b1, b2, a1, a2, h⟩
      obtain ⟨s0, s1⟩ := sg_in (v := v) a1 a2
      obtain ⟨u0, u1⟩ := sg_in (v := w) b1 b2
      rw [rel_mt hN hB hA rB rA b1 b2 a1 a2, sw _ _ s0 s1 u0 u1] at h
      exact ⟨_, _, s0, s1, u0, u1, h⟩
    · rintro ⟨i, k, a1, a2, b1, b2, h⟩
      obtain ⟨s0, s1⟩ := sg_in (v := v) a1 a2
      obtain ⟨u0, u1⟩ := sg_in (v := w) b1 b2
      refine ⟨_, _, u0, u1, s0, s1, ?_⟩
      rw [rel_mt hN hB hA rB rA u0 u1 s0 s1, sg_sg, sg_sg, sw _ _ a1 a2 b1 b2]; exact h
/-! The other ways. -/
theorem turn_near (n u v : Int) (hu : -10000 < u ∧ u < 10000) (hv : -10000 < v ∧ v < 10000) : ∃ X Y : Int → Int → Int, Near X Y ∧ ∀ a b : Int, (-30 < a ∧ a < 30) → (-30 < b ∧ b < 30) → W (tpx a b n + u) = X a b ∧ W (tpy a b n + v) = Y a b := by
  have n4 : n % 4 = 0 ∨ n % 4 = 1 ∨ n % 4 = 2 ∨ n % 4 = 3 := by omega
  have w1 : ∀ x : Int, (-30 < x ∧ x < 30) → W (0 - x) = 0 - x := fun x h => W_id (by omega) (by omega)
  rcases n4 with g | g | g | g
  · refine ⟨_, _, ⟨keeps_id.comp (keeps_shift u v), fun a b h1 h2 => by first | omega | (dsimp only; omega)⟩, fun a b h1 h2 => ?_⟩
    unfold tpx tpy; rw [g]
    exact ⟨W_id (by simp; omega) (by simp; omega), W_id (by simp; omega) (by simp; omega)⟩
  · refine ⟨_, _, ⟨keeps_q1.comp (keeps_shift u v), fun a b h1 h2 => by first | omega | (dsimp only; omega)⟩, fun a b h1 h2 => ?_⟩
    unfold tpx tpy; rw [g, w1 b h2]
    exact ⟨W_id (by simp; omega) (by simp; omega), W_id (by simp; omega) (by simp; omega)⟩
  · refine ⟨_, _, ⟨keeps_q2.comp (keeps_shift u v), fun a b h1 h2 => by first | omega | (dsimp only; omega)⟩, fun a b h1 h2 => ?_⟩
    unfold tpx tpy; rw [g, w1 b h2, w1 a h1]
    exact ⟨W_id (by simp; omega) (by simp; omega), W_id (by simp; omega) (by simp; omega)⟩
  · refine ⟨_, _, ⟨keeps_q3.comp (keeps_shift u v), fun a b h1 h2 => by first | omega | (dsimp only; omega)⟩, fun a b h1 h2 => ?_⟩
    unfold tpx tpy; rw [g, w1 a h1]
    exact ⟨W_id (by simp; omega) (by simp; omega), W_id (by simp; omega) (by simp; omega)⟩
theorem mvL_at (q0 q1 q2 : Int) (M : List PV) : ∀ (n : Nat) (k : Int) (i : Nat), i < n → (mvL q0 q1 q2 M k n).getD i .any = mvP q0 q1 q2 (Hg.qX M (k + i)) (Hg.qY M (k + i))
  | 0, _, _, h => by omega
  | n + 1, k, 0, _ => by unfold mvL; simp
  | n + 1, k, i + 1, h => by
    unfold mvL
    rw [List.getD_cons_succ, mvL_at q0 q1 q2 M n (k + 1) i (by omega), show k + 1 + (i : Int) = k + ((i + 1 : Nat) : Int) by omega]
/-- The line of the other way. -/
def nwL (q0 q1 q2 : Int) (M : List PV) : List PV := mvL q0 q1 q2 M 0 M.length
theorem wL_otE (q0 q1 q2 : Int) (e : PV) (M : List PV) : wL (otE q0 q1 q2 e M) = nwL q0 q1 q2 M := by
  show (([] ++ mvL q0 q1 q2 M 0 ((M.length : Int) - 0).toNat).drop 0).take (0 + ((M.length : Int) - 0).toNat) = _
  rw [show ((M.length : Int) - 0).toNat = M.length by omega, List.nil_append, List.drop_zero, List.take_of_length_le (by rw [mvL_len]; omega)]
  rfl
theorem rvL_at {A : List PV} (h1 : 2 ≤ A.length) (h2 : A.length ≤ 3) {i : Int} (h0 : 0 ≤ i) (hi : i < (A.length : Int)) : Hg.qX (rvL A) i = Hg.qX A ((A.length : Int) - 1 - i) ∧ Hg.qY (rvL A) i = Hg.qY A ((A.length : Int) - 1 - i) := by
  match A, h1, h2, hi with
  | [a, b], _, _, hi =>
    simp only [List.length_cons, List.length_nil] at hi ⊢
    rcases (by omega : i = 0 ∨ i = 1) with rfl | rfl <;> exact ⟨rfl, rfl⟩
  | [a, b, c], _, _, hi =>
    simp only [List.length_cons, List.length_nil] at hi ⊢
    rcases (by omega : i = 0 ∨ i = 1 ∨ i = 2) with rfl | rfl | rfl <;> exact ⟨rfl, rfl⟩
  | [], h, _, _ => simp at h
  | [_], h, _, _ => simp at h
  | _ :: _ :: _ :: _ :: _, _, h, _ => simp only [List.length_cons] at h; omega
theorem otE_rel {q0 q1 q2 : Int} {X Y : Int → Int → Int} (hXY : ∀ a b : Int, (-30 < a ∧ a < 30) → (-30 < b ∧ b < 30) → W (tpx a b (Int.tmod q0 4) + Int.tmod q1 10000) = X a b ∧ W (tpy a b (Int.tmod q0 4) + Int.tmod q2 10000) = Y a b)
    {e : PV} (hp : ∀ p ∈ wL e, sml p) (lo : 2 ≤ (wL e).length) (hi : (wL e).length ≤ 3) (wh : List PV) (i : Int) : RelW X Y e (otE q0 q1 q2 e (otP wh e i)) := by
  have at_ : ∀ (M : List PV) (j : Int), 0 ≤ j → j < (M.length : Int) → (-30 < Hg.qX M j ∧ Hg.qX M j < 30) → (-30 < Hg.qY M j ∧ Hg.qY M j < 30) → Hg.qX (nwL q0 q1 q2 M) j = X (Hg.qX M j) (Hg.qY M j) ∧ Hg.qY (nwL q0 q1 q2 M) j = Y (Hg.qX M j) (Hg.qY M j) := fun M j j0 j1 b1 b2 => by
    have g : (nwL q0 q1 q2 M).getD j.toNat .any = mvP q0 q1 q2 (Hg.qX M j) (Hg.qY M j) := by
      unfold nwL
      rw [mvL_at _ _ _ _ _ _ _ (by omega), show (0 : Int) + (j.toNat : Int) = j by omega]
    obtain ⟨e1, e2⟩ := hXY _ _ b1 b2
    constructor
    · rw [← e1]
      show ((((nwL q0 q1 q2 M).getD j.toNat .any).cellAt 0).getI) = _
      rw [g]; rfl
    · rw [← e2]
      show ((((nwL q0 q1 q2 M).getD j.toNat .any).cellAt 1).getI) = _
      rw [g]; rfl
  refine ⟨rfl, rfl, rfl, ?_, lo, hi, hp⟩
  rw [wL_otE]
  unfold otP
  cases hb : decide (i < (wh.length : Int)) && ((wh.getD i.toNat .any).cellAt 0).getB with
  | false =>
    refine ⟨false, ?_, fun j j0 j1 => ?_, fun j j0 j1 => ?_⟩
    · rw [cond_false]; unfold nwL; rw [mvL_len]
    · have := sml_at hp j0 j1; exact (at_ _ j j0 j1 this.1 this.2).1
    · have := sml_at hp j0 j1; exact (at_ _ j j0 j1 this.1 this.2).2
  | true =>
    have hl := rvL_len lo hi
    refine ⟨true, ?_, fun j j0 j1 => ?_, fun j j0 j1 => ?_⟩
    · rw [cond_true]; unfold nwL; rw [mvL_len, hl]
    · obtain ⟨r1, r2⟩ := rvL_at lo hi j0 j1
      have := sml_at hp (j := ((wL e).length : Int) - 1 - j) (by omega) (by omega)
      rw [cond_true, cond_true, ← r1, ← r2]
      exact (at_ _ j j0 (by omega) (by rw [r1]; exact this.1) (by rw [r2]; exact this.2)).1
    · obtain ⟨r1, r2⟩ := rvL_at lo hi j0 j1
      have := sml_at hp (j := ((wL e).length : Int) - 1 - j) (by omega) (by omega)
      rw [cond_true, cond_true, ← r1, ← r2]
      exact (at_ _ j j0 (by omega) (by rw [r1]; exact this.1) (by rw [r2]; exact this.2)).2
theorem otL_at (q0 q1 q2 : Int) (wh ws : List PV) : ∀ (n : Nat) (k : Int) (i : Nat) (h : i < (otL q0 q1 q2 wh ws k n).length), (otL q0 q1 q2 wh ws k n)[i] = otE q0 q1 q2 (ws.getD (k + i).toNat .any) (otP wh (ws.getD (k + i).toNat .any) (k + i))
  | 0, _, _, h => by simp [otL] at h
  | n + 1, k, 0, _ => by simp [otL]
  | n + 1, k, i + 1, h => by
    simp only [otL, List.getElem_cons_succ]
    rw [otL_at q0 q1 q2 wh ws n (k + 1) i, show k + 1 + (i : Int) = k + ((i + 1 : Nat) : Int) by omega]
theorem oth_eq (q0 q1 q2 : Int) (wh ws : List PV) : oth q0 q1 q2 wh ws = otL q0 q1 q2 wh ws 0 ws.length := by
  unfold oth
  rw [show ((ws.length : Int) - 0).toNat = ws.length by omega, List.nil_append, List.drop_zero, List.take_of_length_le (by rw [otL_len]; omega)]
theorem made_pts {L : List PV} {e : PV} (h : e ∈ madeW L) : (∀ p ∈ wL e, sml p) ∧ 2 ≤ (wL e).length ∧ (wL e).length ≤ 3 := by
  obtain ⟨k, a, _, _, rfl⟩ := made_mem h
  rw [wL_mW]
  exact ⟨mPs_sml L a, mPs_len L a⟩
theorem oth_rel {L : List PV} {q0 q1 q2 : Int} {X Y : Int → Int → Int} (hXY : ∀ a b : Int, (-30 < a ∧ a < 30) → (-30 < b ∧ b < 30) → W (tpx a b (Int.tmod q0 4) + Int.tmod q1 10000) = X a b ∧ W (tpy a b (Int.tmod q0 4) + Int.tmod q2 10000) = Y a b) (wh : List PV) : RelL X Y (madeW L) (oth q0 q1 q2 wh (madeW L)) := by
  rw [oth_eq]
  refine ⟨otL_len .., fun i h h' => ?_⟩
  obtain ⟨g1, g2, g3⟩ := made_pts (List.getElem_mem h)
  rw [otL_at]
  have : (madeW L).getD ((0 : Int) + (i : Int)).toNat .any = (madeW L)[i] := by
    rw [show ((0 : Int) + (i : Int)).toNat = i by omega, List.getD_eq_getElem?_getD, List.getElem?_eq_getElem h]; rfl
  rw [this]
  exact otE_rel hXY g1 g2 g3 wh _
section
variable {X Y : Int → Int → Int} (hN : Near X Y) {ws ws' : List PV} (r : RelL X Y ws ws')
include r
theorem RelL.okB (h : Go.Hn.okB ws = true) : Go.Hn.okB ws' = true := by
  unfold Go.Hn.okB at h ⊢
  rw [Bool.and_eq_true, List.all_eq_true, decide_eq_true_eq] at h ⊢
  refine ⟨by rw [r.len]; exact h.1, fun e' he' => ?_⟩
  obtain ⟨e, he, q⟩ := r.mem he'
  obtain ⟨v, rv⟩ := q.line
  have := h.2 e he
  unfold bigL at *
  rw [rv.len]; exact this
theorem RelL.okW (h : ws.length ≤ 6) : Go.Hn.okW ws' = true := by
  unfold Go.Hn.okW
  simp only [Bool.and_eq_true, decide_eq_true_eq, List.all_eq_true]
  refine ⟨by rw [r.len]; exact h, fun e' he' => ?_⟩
  obtain ⟨e, he, q⟩ := r.mem he'
  obtain ⟨v, rv⟩ := q.line
  have lo := q.lo
  have hi := q.hi
  exact stB_small (by rw [rv.len]; omega) (by rw [rv.len]; omega)
theorem RelL.getD_ {k : Int} (h0 : 0 ≤ k) (h1 : k < (ws.length : Int)) : RelW X Y (ws.getD k.toNat .any) (ws'.getD k.toNat .any) := by
  have h : k.toNat < ws.length := by omega
  have h' : k.toNat < ws'.length := by have := r.len; omega
  rw [List.getD_eq_getElem?_getD, List.getD_eq_getElem?_getD, List.getElem?_eq_getElem h, List.getElem?_eq_getElem h']
  exact r.at_ _ h h'
include hN
theorem rel_one {i k : Int} (h0 : 0 ≤ i) (h1 : i < (ws.length : Int)) (h2 : 0 ≤ k) (h3 : k < (ws.length : Int)) : oneU ws ws' i k = true := by
  have p := r.getD_ h0 h1
  have q := r.getD_ h2 h3
  have lp := p.lo
  have hp := p.hi
  have lq := q.lo
  have hq := q.hi
  obtain ⟨v, rv⟩ := p.line
  obtain ⟨w, rw_⟩ := q.line
  unfold oneU
  rw [Bool.and_eq_true, beq_iff_eq, beq_iff_eq]
  constructor
  · unfold jnE
    rw [Bool.eq_iff_iff, jn_iff (stB_small (by omega) (by omega)) (stB_small (by omega) (by omega)), jn_iff (stB_small (by rw [rv.len]; omega) (by rw [rv.len]; omega)) (stB_small (by rw [rw_.len]; omega) (by rw [rw_.len]; omega))]
    exact (rel_Jn hN p q).symm
  · unfold cxW
    rw [p.lv, q.lv]
    exact (rel_cxB hN p.pts q.pts rv rw_ _ _).symm
theorem rel_all1 {i : Int} (h0 : 0 ≤ i) (h1 : i < (ws.length : Int)) : ∀ (n : Nat) (k : Int), 0 ≤ k → k + n ≤ (ws.length : Int) → allU1 ws ws' i k n = true
  | 0, _, _, _ => rfl
  | n + 1, k, h2, h3 => by
    unfold allU1
    rw [rel_one hN r h0 h1 h2 (by omega), rel_all1 h0 h1 n (k + 1) (by omega) (by omega)]; rfl
theorem rel_all2 : ∀ (n : Nat) (k : Int), 0 ≤ k → k + n ≤ (ws.length : Int) → allU2 ws ws' k n = true
  | 0, _, _, _ => rfl
  | n + 1, k, h2, h3 => by
    unfold allU2
    rw [rel_all1 hN r h2 (by omega) ws.length 0 (Int.le_refl 0) (by omega), rel_all2 n (k + 1) (by omega) (by omega)]; rfl
end
theorem law7 (f g : Bool) (L wh : List PV) (q0 q1 q2 : Int) : Hx.Enters Tryz.prog 7 ∧ PCall Tryz.prog 7 [.lst f 3 L, .lst g 4 wh, .agg [iv q0, iv q1, iv q2]] (bv true) := by
  refine runP_sound okT5 (n := 100) ?_
  have hu := Int.lt_tmod_of_pos q1 (show (0 : Int) < 10000 by omega)
  have hu2 := Int.tmod_lt_of_pos q1 (show (0 : Int) < 10000 by omega)
  have hv := Int.lt_tmod_of_pos q2 (show (0 : Int) < 10000 by omega)
  have hv2 := Int.tmod_lt_of_pos q2 (show (0 : Int) < 10000 by omega)
  obtain ⟨X, Y, hN, hXY⟩ := turn_near (Int.tmod q0 4) (Int.tmod q1 10000) (Int.tmod q2 10000) (by omega) (by omega)
  have r := oth_rel (L := L) hXY wh
  have h6 := madeW_len L
  have hok : okLn (madeW L) = true := by
    unfold okLn
    rw [Bool.and_eq_true, decide_eq_true_eq, List.all_eq_true]
    refine ⟨by omega, fun e he => ?_⟩
    have := made_pts he
    rw [Bool.and_eq_true, decide_eq_true_eq, decide_eq_true_eq]; exact this.2
  have hb := made_okB L
  have hb' := r.okB hb
  have hw := made_okW L
  have hw' := r.okW h6
  have hsame : sameG (grpL (madeW L)) (grpL (oth q0 q1 q2 wh (madeW L))) = true :=
    same_groups hw hw' (made_ids L) (by rw [r.ids]; exact made_ids L) fun R R' t t' => rel_same hN r (made_ids L) t t'
  rw [qNT, show pT2 (lT2 g wh true false (madeW L) 0 0 0 q0 q1 q2 true []) = true by simp only [pT2, Bool.and_eq_true, decide_eq_true_eq]; exact ⟨⟨⟨⟨Int.le_refl _, rfl⟩, trivial⟩, Int.le_refl _⟩, hok⟩,
    show (((madeW L).length : Int) - 0).toNat = (madeW L).length by omega, List.nil_append, otL_len, Nat.zero_add, beq_self_eq_true,
    show pU2 (lU2 true false (madeW L) false (oth q0 q1 q2 wh (madeW L)) 0) = true by simp only [pU2, Bool.and_eq_true, decide_eq_true_eq]; exact ⟨⟨⟨Int.le_refl _, r.len⟩, hb⟩, hb'⟩,
    rel_all2 hN r _ 0 (Int.le_refl 0) (by omega), hb, hb', rel_chkF hN r, beq_self_eq_true, hw, hw', okG_of hw, hsame]
  rfl
end Go.Hn
