/- Geometry: Within, both. -/
import Derived.Test.YtneklpbkfmljfaaPart5
import Derived.Test.YtneklpbkfmljfaaRows
import Derived.Test.YtneklpbkfmljfaaPart4
namespace Go.Hg
open Go.Hx Go.Proofs
def dt (a b c d : Int) : Int := W (W (a * c) + W (b * d))
def crW4 (a b c d : Int) : Int := W (W (a * d) - W (b * c))
def nearT {α : Type} (a b c d x y n : Int) (k : Bool → α) : α :=
  bif decide (dt (W (x - a)) (W (y - b)) (W (c - a)) (W (d - b)) ≤ 0) then k (decide (W (4 * dt (W (x - a)) (W (y - b)) (W (x - a)) (W (y - b))) ≤ n))
  else bif decide (dt (W (x - a)) (W (y - b)) (W (c - a)) (W (d - b)) ≥ dt (W (c - a)) (W (d - b)) (W (c - a)) (W (d - b))) then k (decide (W (4 * dt (W (x - c)) (W (y - d)) (W (x - c)) (W (y - d))) ≤ n))
  else k (decide (sg2 (W (4 * crW4 (W (c - a)) (W (d - b)) (W (x - a)) (W (y - b)))) (crW4 (W (c - a)) (W (d - b)) (W (x - a)) (W (y - b))) n (dt (W (c - a)) (W (d - b)) (W (c - a)) (W (d - b))) ≤ 0))
def nearB (a b c d x y n : Int) : Bool := nearT a b c d x y n id
theorem nearT_eq {α : Type} (a b c d x y n : Int) (k : Bool → α) : nearT a b c d x y n k = k (nearB a b c d x y n) := by
  unfold nearB nearT
  cases decide (dt (W (x - a)) (W (y - b)) (W (c - a)) (W (d - b)) ≤ 0) <;> cases decide (dt (W (x - a)) (W (y - b)) (W (c - a)) (W (d - b)) ≥ dt (W (c - a)) (W (d - b)) (W (c - a)) (W (d - b))) <;> rfl
theorem qNear (a b c d x y n : Int) : runP Try.prog E39 60 121 [ptv a b, ptv c d, ptv x y, iv n] = nearT a b c d x y n (fun v => some (bv v)) := by kernel_rfl
def cNear : List PV → Option PV
  | [.agg [.val (.int .i64 a), .val (.int .i64 b)], .agg [.val (.int .i64 c), .val (.int .i64 d)], .agg [.val (.int .i64 x), .val (.int .i64 y)], .val (.int .i64 n)] => some (bv (nearB a b c d x y n))
  | _ => none
theorem oNear (args : List PV) (r : PV) (h : cNear args = some r) : Enters Try.prog 121 ∧ PCall Try.prog 121 args r := by
  unfold cNear at h; split at h
  · rename_i a b c d x y n; cases h; exact runP_sound ok39 ((qNear a b c d x y n).trans (nearT_eq a b c d x y n _))
  · cases h
noncomputable def E40 : EnvK := (E39.addO 121 cNear).addV 71 4 [4, 5, 6, 25]
theorem ok40 : EnvOK Try.prog E40.env := (ok39.addO oNear).addV 71 4 [4, 5, 6, 25]
def nrq (es : List PV) (i x y n : Int) : Bool := nearB (qX es i) (qY es i) (qX es (i + 1)) (qY es (i + 1)) x y n
/-- Some segment from i on is near. -/
def nrA (es : List PV) (x y n i : Int) : Nat → Bool
  | 0 => false
  | m + 1 => nrq es i x y n || nrA es x y n (i + 1) m
noncomputable def lrT (st : LSt) : Row := lrow 71 Try.f71 4 (tm 78 [(4, .ptr 0 1 0 0), (5, .ptr 1 1 0 0), (6, .ptr 2 1 0 0), (25, sgf 4)]) st
def shT : S1 := ⟨25, [(0, .yld 5), (1, .ptr 4 1 0 0), (3, I64)], [.one 23 2 (.agg [I64, I64]), .one 3 1 I64, .one 4 1 .bool, .many 23 2, .one 53 1 (.lst 23), .raw]⟩
abbrev lT (i x y n : Int) (res : Bool) (nl : Bool) (es3 : List PV) (f : Bool) (es : List PV) (r : Row) : LS := ([.i i], [.i x, .i y, .i n, .b res, .l nl es3, .l f es, .r r])
noncomputable abbrev hT (x y n : Int) (res : Bool) (nl : Bool) (es3 : List PV) (f : Bool) (es : List PV) (r : Row) : List Row := (shT.put (lT 0 x y n res nl es3 f es r)).2
theorem qT (i x y n : Int) (res : Bool) (nl : Bool) (es3 : List PV) (f : Bool) (es : List PV) : runB Try.prog E40 60 152 (lpb Try.f152 1) [0, 1, 3] [] (shT.put (lT i x y n res nl es3 f es (lrT .ready))).1 (shT.put (lT i x y n res nl es3 f es (lrT .ready))).2 =
  bif decide (W (i + 1) < (es.length : Int)) then bif inr es i then bif inr es (W (i + 1)) then
    nearT (qX es i) (qY es i) (qX es (W (i + 1))) (qY es (W (i + 1))) x y n (fun v => bif v then some (.ret, tm 25 [], hT x y n true nl es3 f es (lrT (.done .ret))) else some (.normal, shT.put (lT (W (i + 1)) x y n res nl es3 f es (lrT .ready))))
  else none else none else some (.exit 0, tm 25 [], hT x y n res nl es3 f es (lrT .ready)) := by kernel_rfl
def shU : S1 := ⟨37, [(0, .lst 23), (2, I64), (4, .ptr 0 1 0 0), (8, I64)], [.one 23 2 (.agg [I64, I64])]⟩
theorem qU (f : Bool) (es : List PV) (n i x y : Int) : runB Try.prog E40 60 72 (lpb Try.f72 5) [0, 2, 4, 8] [6] (shU.put ([.l f es, .i n, .i i], [.i x, .i y])).1 (shU.put ([.l f es, .i n, .i i], [.i x, .i y])).2 =
  bif decide (W (i + 1) < (es.length : Int)) then bif inr es i then bif inr es (W (i + 1)) then
    bif nearB (qX es i) (qY es i) (qX es (W (i + 1))) (qY es (W (i + 1))) x y n then some (.ret, tm 37 [(6, bv true)], (shU.put ([.l f es, .i n, .i i], [.i x, .i y])).2) else some (.normal, shU.put ([.l f es, .i n, .i (W (i + 1))], [.i x, .i y]))
  else none else none else some (.exit 0, tm 37 [], (shU.put ([.l f es, .i n, .i i], [.i x, .i y])).2) := by kernel_rfl
end Go.Hg
/- Geometry: contracts: Within, both. -/
namespace Go.Hg
open Go.Hx Go.Proofs
noncomputable def pT : LS → Bool
  | ([.i i], [.i x, .i y, .i n, .b res, .l nl es3, .l f es, .r r]) => decide (0 ≤ i) && decide (i ≤ (es.length : Int)) && big es && same r (lrT .ready)
  | _ => false
noncomputable def fT : LS → DT (PX × List PV × List Row)
  | ([.i i], [.i x, .i y, .i n, .b res, .l nl es3, .l f es, .r r]) => .br (nrA es x y n i ((es.length : Int) - (i + 1)).toNat) (.leaf (.ret, tm 25 [], hT x y n true nl es3 f es (lrT (.done .ret)))) (.leaf (.exit 0, tm 25 [], hT x y n res nl es3 f es r))
  | _ => .no
def mT : LS → Nat
  | ([.i i], [.i x, .i y, .i n, .b res, .l nl es3, .l f es, .r r]) => ((es.length : Int) - (i + 1)).toNat
  | _ => 0
theorem sT : ∀ s r, pT s = true → (fT s).run = some r → r.1 ≠ .normal ∧ (runB Try.prog E40 60 152 (lpb Try.f152 1) [0, 1, 3] [] (shT.put s).1 (shT.put s).2 = some r ∨
      ∃ s', runB Try.prog E40 60 152 (lpb Try.f152 1) [0, 1, 3] [] (shT.put s).1 (shT.put s).2 = some (.normal, shT.put s') ∧ pT s' = true ∧ mT s' < mT s ∧ (fT s').run = some r) := by
  intro s r hp hr
  unfold pT at hp; split at hp
  · rename_i i x y n res nl es3 f es r0
    simp only [Bool.and_eq_true, decide_eq_true_eq, same_iff] at hp
    obtain ⟨⟨⟨h1, h2⟩, h3⟩, rfl⟩ := hp
    have hr' := run_br2 hr
    refine ⟨by rw [hr']; cases nrA es x y n i ((es.length : Int) - (i + 1)).toNat <;> simp, ?_⟩
    rw [qT]
    have hw := W_id (n := i + 1) (by omega) (by omega)
    rw [hw]
    by_cases hi : i + 1 < (es.length : Int)
    · rw [decide_eq_true hi, cond_true, inr_of h1 (by omega), inr_of (by omega) hi]
      simp only [cond_true, nearT_eq]
      obtain ⟨m, hm⟩ : ∃ m, ((es.length : Int) - (i + 1)).toNat = m + 1 := ⟨((es.length : Int) - (i + 1)).toNat - 1, by omega⟩
      rw [hm] at hr'
      simp only [nrA, nrq] at hr'
      cases hE : nearB (qX es i) (qY es i) (qX es (i + 1)) (qY es (i + 1)) x y n with
      | true =>
        rw [hE] at hr'
        exact .inl (by rw [hr']; rfl)
      | false =>
        rw [hE] at hr'
        refine .inr ⟨lT (i + 1) x y n res nl es3 f es (lrT .ready), rfl, by simp [pT, same_self]; omega, by simp only [mT]; omega, ?_⟩
        rw [hr']
        simp only [fT]
        rw [show ((es.length : Int) - (i + 1 + 1)).toNat = m by omega]
        simp only [Bool.false_or]
        cases nrA es x y n (i + 1) m <;> rfl
    · rw [decide_eq_false hi]
      rw [show ((es.length : Int) - (i + 1)).toNat = 0 by omega] at hr'
      exact .inl (by rw [hr']; rfl)
  · cases hp
noncomputable def E40a : EnvK := E40.addW 152 1 [0, 1, 3] [] shT pT fT
theorem ok40a : EnvOK Try.prog E40a.env :=
  ok40.addW (n := 60) Try.func152 (show Try.f152.body = some (bod Try.f152) by kernel_rfl) (show (loops (bod Try.f152)).filter (fun b => rid b == 1) = [lpb Try.f152 1] by kernel_rfl) [0, 1, 3] [] [] shT mT sT
noncomputable def pU : LS → Bool
  | ([.l f es, .i n, .i i], [.i x, .i y]) => decide (0 ≤ i) && decide (i ≤ (es.length : Int)) && big es
  | _ => false
noncomputable def fU : LS → DT (PX × List PV × List Row)
  | ([.l f es, .i n, .i i], [.i x, .i y]) => .br (nrA es x y n i ((es.length : Int) - (i + 1)).toNat) (.leaf (.ret, tm 37 [(6, bv true)], (shU.put ([.l f es, .i n, .i i], [.i x, .i y])).2)) (.leaf (.exit 0, tm 37 [], (shU.put ([.l f es, .i n, .i i], [.i x, .i y])).2))
  | _ => .no
def mU : LS → Nat
  | ([.l f es, .i n, .i i], [.i x, .i y]) => ((es.length : Int) - (i + 1)).toNat
  | _ => 0
theorem sU : ∀ s r, pU s = true → (fU s).run = some r → r.1 ≠ .normal ∧ (runB Try.prog E40 60 72 (lpb Try.f72 5) [0, 2, 4, 8] [6] (shU.put s).1 (shU.put s).2 = some r ∨
      ∃ s', runB Try.prog E40 60 72 (lpb Try.f72 5) [0, 2, 4, 8] [6] (shU.put s).1 (shU.put s).2 = some (.normal, shU.put s') ∧ pU s' = true ∧ mU s' < mU s ∧ (fU s').run = some r) := by
  intro s r hp hr
  unfold pU at hp; split at hp
  · rename_i f es n i x y
    simp only [Bool.and_eq_true, decide_eq_true_eq, same_iff] at hp
    obtain ⟨⟨h1, h2⟩, h3⟩ := hp
    have hr' := run_br2 hr
    refine ⟨by rw [hr']; cases nrA es x y n i ((es.length : Int) - (i + 1)).toNat <;> simp, ?_⟩
    rw [qU]
    have hw := W_id (n := i + 1) (by omega) (by omega)
    rw [hw]
    by_cases hi : i + 1 < (es.length : Int)
    · rw [decide_eq_true hi, cond_true, inr_of h1 (by omega), inr_of (by omega) hi]
      simp only [cond_true]
      obtain ⟨m, hm⟩ : ∃ m, ((es.length : Int) - (i + 1)).toNat = m + 1 := ⟨((es.length : Int) - (i + 1)).toNat - 1, by omega⟩
      rw [hm] at hr'
      simp only [nrA, nrq] at hr'
      cases hE : nearB (qX es i) (qY es i) (qX es (i + 1)) (qY es (i + 1)) x y n with
      | true =>
        rw [hE] at hr'
        exact .inl (by rw [hr']; rfl)
      | false =>
        rw [hE] at hr'
        refine .inr ⟨([.l f es, .i n, .i (i + 1)], [.i x, .i y]), rfl, by simp [pU, same_self]; omega, by simp only [mU]; omega, ?_⟩
        rw [hr']
        simp only [fU]
        rw [show ((es.length : Int) - (i + 1 + 1)).toNat = m by omega]
        simp only [Bool.false_or]
        cases nrA es x y n (i + 1) m <;> rfl
    · rw [decide_eq_false hi]
      rw [show ((es.length : Int) - (i + 1)).toNat = 0 by omega] at hr'
      exact .inl (by rw [hr']; rfl)
  · cases hp
noncomputable def E40b : EnvK := E40.addW 72 5 [0, 2, 4, 8] [] shU pU fU
theorem ok40b : EnvOK Try.prog E40b.env :=
  ok40.addW (n := 60) Try.func72 (show Try.f72.body = some (bod Try.f72) by kernel_rfl) (show (loops (bod Try.f72)).filter (fun b => rid b == 5) = [lpb Try.f72 5] by kernel_rfl) [0, 2, 4, 8] [6] [] shU mU sU
/-- P5.3. -/
def wit (es : List PV) (x y n : Int) : Bool := fin es && right x y && nrA es x y n 0 (es.length - 1)
noncomputable def witT (f : Bool) (es : List PV) (x y n : Int) : Option PV := bif pT (lT 0 x y n false false [ptv x y] f es (lrT .ready)) then bif nrA es x y n 0 ((es.length : Int) - (0 + 1)).toNat then some (bv true) else some (bv false) else none
theorem fin_one (x y : Int) : fin [ptv x y] = right x y := by
  show (right x y && true) = right x y; simp
theorem qWit (f : Bool) (es : List PV) (x y n : Int) : runP Try.prog E40a 60 71 [.lst f 23 es, ptv x y, iv n] =
  bif big es then bif !fin es then some (bv false) else bif !fin [ptv x y] then some (bv false) else witT f es x y n else none := by kernel_rfl
theorem qRWit (f : Bool) (es : List PV) (x y n : Int) : runP Try.prog E40b 60 72 [.lst f 23 es, ptv x y, iv n] =
  bif !right x y then some (bv false) else bif big es then bif !fin es then some (bv false) else bif pU ([.l f es, .i n, .i 0], [.i x, .i y]) then bif nrA es x y n 0 ((es.length : Int) - (0 + 1)).toNat then some (bv true) else some (bv false) else none else none := by kernel_rfl
theorem qWit' (f : Bool) (es : List PV) (x y n : Int) (h : big es = true) : runP Try.prog E40a 60 71 [.lst f 23 es, ptv x y, iv n] = some (bv (wit es x y n)) := by
  have h' : es.length ≤ 1000000 := by simpa using h
  rw [qWit, h, fin_one]; unfold witT wit
  rw [show pT (lT 0 x y n false false [ptv x y] f es (lrT .ready)) = true by simp [pT, same_self]; omega, show ((es.length : Int) - (0 + 1)).toNat = es.length - 1 by omega]
  cases fin es <;> cases right x y <;> cases nrA es x y n 0 (es.length - 1) <;> rfl
theorem qRWit' (f : Bool) (es : List PV) (x y n : Int) (h : big es = true) : runP Try.prog E40b 60 72 [.lst f 23 es, ptv x y, iv n] = some (bv (wit es x y n)) := by
  have h' : es.length ≤ 1000000 := by simpa using h
  rw [qRWit, h]; unfold wit
  rw [show pU ([.l f es, .i n, .i 0], [.i x, .i y]) = true by simp [pU]; omega, show ((es.length : Int) - (0 + 1)).toNat = es.length - 1 by omega]
  cases fin es <;> cases right x y <;> cases nrA es x y n 0 (es.length - 1) <;> rfl
def cWit : List PV → Option (DT PV) | [.lst _ 23 es, .agg [.val (.int .i64 x), .val (.int .i64 y)], .val (.int .i64 n)] => some (.br (big es) (.leaf (bv (wit es x y n))) .no) | _ => none
theorem eWit : Enters Try.prog 71 := (runP_sound ok40a (qWit' true [] 0 0 0 rfl)).1
theorem eRWit : Enters Try.prog 72 := (runP_sound ok40b (qRWit' true [] 0 0 0 rfl)).1
theorem oWit (args : List PV) (d : DT PV) (r : PV) (h : cWit args = some d) (hr : d.run = some r) : PCall Try.prog 71 args r := by
  unfold cWit at h; split at h
  · rename_i f es x y n; cases h; obtain ⟨h1, rfl⟩ := run_br hr; exact (runP_sound ok40a (qWit' f es x y n h1)).2
  · cases h
theorem oRWit (args : List PV) (d : DT PV) (r : PV) (h : cWit args = some d) (hr : d.run = some r) : PCall Try.prog 72 args r := by
  unfold cWit at h; split at h
  · rename_i f es x y n; cases h; obtain ⟨h1, rfl⟩ := run_br hr; exact (runP_sound ok40b (qRWit' f es x y n h1)).2
  · cases h
noncomputable def E41 : EnvK := (E39.addF 71 cWit).addF 72 cWit
theorem ok41 : EnvOK Try.prog E41.env := (ok39.addF eWit oWit).addF eRWit oRWit
end Go.Hg
/- Geometry: made lists of points. -/
namespace Go.Hg
open Go.Hx Go.Proofs
/-- The number at a place, the place being any number. -/
def dI (es : List PV) (a n : Int) : Int := if (es.length : Int) ≤ a then 0 else dv es a.toNat % n
def aI (es : List PV) (a : Int) : Int := if (es.length : Int) ≤ a then a else a + 1
abbrev drI (f : Bool) (es : List PV) (a : Int) : Row := r1 117 2 (.agg [.lst f 3 es, iv a])
def okA (a n : Int) : Bool := decide (0 ≤ a) && decide (a < 4611686018427387904) && decide (0 < n) && decide (n ≤ 4611686018427387904)
def cNxI : List PV → List Row → Option (DT (PV × List Row))
  | [.ptr 0 1 0 0, .val (.int .i64 n)], [⟨[.agg [.lst f 3 es, .val (.int .i64 a)]], 2, 117, true, true, false, none⟩] =>
    some (.br (okA a n) (.leaf (iv (dI es a n), [drI f es (aI es a)])) .no)
  | _, _ => none
theorem qNxI (es : List PV) (a : Int) (f : Bool) (n : Int) : runR Try.prog E38 60 0 101 [.ptr 0 1 0 0, iv n] [drI f es a] =
  bif decide (a ≥ ((es.length : Nat) : Int)) then some (iv 0, [drI f es a])
  else bif decide (0 ≤ W (W (a + 1) - 1)) && decide (W (W (a + 1) - 1) < ((es.length : Nat) : Int)) then
    bif decide (0 < n) && decide (n ≤ 4611686018427387904) then some (iv (dv es (W (W (a + 1) - 1)).toNat % n), [drI f es (W (a + 1))]) else none
  else none := by kernel_rfl
theorem oNxI (args : List PV) (H : List Row) (d : DT (PV × List Row)) (p : PV) (H' : List Row) (h : cNxI args H = some d) (hd : d.run = some (p, H')) : RCall Try.prog 0 101 args H p H' := by
  unfold cNxI at h; split at h
  · rename_i n f es a
    cases h
    obtain ⟨hc, he⟩ := run_br hd
    cases he
    unfold okA at hc
    simp only [Bool.and_eq_true, decide_eq_true_eq] at hc
    obtain ⟨⟨⟨h0, h3⟩, h1⟩, h2⟩ := hc
    refine (runR_sound ok38 (n := 60) ?_).2
    rw [qNxI]
    have hw1 : W (a + 1) = a + 1 := W_id (by omega) (by omega)
    have hw : W (W (a + 1) - 1) = a := by rw [hw1, W_id (by omega) (by omega)]; omega
    unfold dI aI
    by_cases hk : (es.length : Int) ≤ a
    · have g1 : decide (a ≥ ((es.length : Nat) : Int)) = true := by simp; omega
      rw [g1, if_pos hk, if_pos hk]; rfl
    · have g1 : decide (a ≥ ((es.length : Nat) : Int)) = false := by simp; omega
      have g2 : (decide (0 ≤ a) && decide (a < ((es.length : Nat) : Int))) = true := by simp; omega
      rw [g1, hw, g2, hw1, if_neg (by omega), if_neg (by omega)]
      simp only [h1, h2, decide_true, Bool.and_true, cond_true, cond_false]
  · cases h
noncomputable def E42 : EnvK := (E41.addR 101 cNxI).addN 69 6 [(5, 23, 2)]
theorem ok42 : EnvOK Try.prog E42.env := (ok41.addR eNxt oNxI).addN 69 6 [(5, 23, 2)]
def shG : S1 := ⟨64, [(3, .ptr 0 1 0 0), (4, I64), (5, .sl 2), (6, .ptr 1 1 0 0), (7, I64)], [.one 117 2 (.agg [.lst 3, I64]), .one 23 2 (.agg [I64, I64]), .many 23 2]⟩
abbrev lG (many : Int) (n l : Nat) (k : Int) (f : Bool) (L : List PV) (a x y : Int) (nl : Bool) (es : List PV) : LS := ([.i many, .n n, .n l, .i k], [.l f L, .i a, .i x, .i y, .l nl es])
noncomputable abbrev hG (f : Bool) (L : List PV) (a x y : Int) (nl : Bool) (es : List PV) : List Row := (shG.put (lG 0 0 0 0 f L a x y nl es)).2
def room (es : List PV) (n l : Nat) : Bool := decide (es.length = n) && decide (n = l) && decide ((n + 1) * 16 ≤ 140737488355328)
theorem qG (many : Int) (n l : Nat) (k : Int) (f : Bool) (L : List PV) (a x y : Int) (nl : Bool) (es : List PV) : runB Try.prog E42 60 69 (lpb Try.f69 6) [3, 4, 5, 6, 7] [3, 4, 5] (shG.put (lG many n l k f L a x y nl es)).1 (shG.put (lG many n l k f L a x y nl es)).2 =
  bif decide (k < many) then bif room es n l then bif okA a 2 then bif dI L a 2 == 0 then
    bif okA (aI L a) 12 then some (.normal, shG.put (lG many (n + 1) (n + 1) (W (k + 1)) f L (aI L (aI L a)) (Int.tmod (W (W (x + 1) + dI L (aI L a) 12)) 13) y (nl && false) (es ++ [ptv x y]))) else none
  else bif okA (aI L a) 13 then bif okA (aI L (aI L a)) 12 then some (.normal, shG.put (lG many (n + 1) (n + 1) (W (k + 1)) f L (aI L (aI L (aI L a))) (dI L (aI L a) 13) (Int.tmod (W (W (y + 1) + dI L (aI L (aI L a)) 12)) 13) (nl && false) (es ++ [ptv x y]))) else none else none
  else none else none else some (.exit 0, tm 64 [(3, .ptr 0 1 0 0), (4, iv many), (5, .sl 2 n 0 l)], hG f L a x y nl es) := by kernel_rfl
end Go.Hg
/- Geometry: contracts: made lists of points. -/
namespace Go.Hg
open Go.Hx Go.Proofs
theorem dI_ge (es : List PV) (k : Int) {n : Int} (h : 0 < n) : 0 ≤ dI es k n := by unfold dI; split; exact Int.le_refl _; exact Int.emod_nonneg _ (by omega)
theorem dI_lt (es : List PV) (k : Int) {n : Int} (h : 0 < n) : dI es k n < n := by unfold dI; split; exact h; exact Int.emod_lt_of_pos _ h
theorem aI_le (es : List PV) (a : Int) : a ≤ aI es a ∧ aI es a ≤ a + 1 := by unfold aI; split <;> omega
abbrev T3 := Int × Int × Int
/-- One more point: where the numbers go on, and the next point. -/
def gstep (L : List PV) (s : T3) : T3 :=
  if dI L s.1 2 = 0 then (aI L (aI L s.1), Int.tmod (s.2.1 + 1 + dI L (aI L s.1) 12) 13, s.2.2)
  else (aI L (aI L (aI L s.1)), dI L (aI L s.1) 13, Int.tmod (s.2.2 + 1 + dI L (aI L (aI L s.1)) 12) 13)
def giter (L : List PV) : Nat → T3 → T3
  | 0, s => s
  | m + 1, s => giter L m (gstep L s)
def glist (L : List PV) : Nat → T3 → List PV
  | 0, _ => []
  | m + 1, s => ptv s.2.1 s.2.2 :: glist L m (gstep L s)
theorem glist_len (L : List PV) : ∀ (m : Nat) (s : T3), (glist L m s).length = m
  | 0, _ => rfl
  | m + 1, s => by simp [glist, glist_len L m]
def sp (s : T3) : Prop := (0 ≤ s.2.1 ∧ s.2.1 < 13) ∧ (0 ≤ s.2.2 ∧ s.2.2 < 13)
theorem gstep_sp {L : List PV} {s : T3} (h : sp s) : sp (gstep L s) := by
  obtain ⟨⟨h1, h2⟩, h3, h4⟩ := h
  unfold gstep
  have d1 := dI_ge L (aI L s.1) (n := 12) (by omega)
  have d2 := dI_ge L (aI L (aI L s.1)) (n := 12) (by omega)
  have d3 := dI_ge L (aI L s.1) (n := 13) (by omega)
  have d4 := dI_lt L (aI L s.1) (n := 13) (by omega)
  split
  · exact ⟨⟨Int.tmod_nonneg _ (by omega), Int.tmod_lt_of_pos _ (by omega)⟩, h3, h4⟩
  · exact ⟨⟨d3, d4⟩, Int.tmod_nonneg _ (by omega), Int.tmod_lt_of_pos _ (by omega)⟩
theorem gstep_at (L : List PV) (s : T3) : s.1 ≤ (gstep L s).1 ∧ (gstep L s).1 ≤ s.1 + 3 := by
  have h1 := aI_le L s.1
  have h2 := aI_le L (aI L s.1)
  have h3 := aI_le L (aI L (aI L s.1))
  unfold gstep
  split
  · show s.1 ≤ aI L (aI L s.1) ∧ aI L (aI L s.1) ≤ s.1 + 3; omega
  · show s.1 ≤ aI L (aI L (aI L s.1)) ∧ aI L (aI L (aI L s.1)) ≤ s.1 + 3; omega
theorem giter_at (L : List PV) : ∀ (m : Nat) (s : T3), s.1 ≤ (giter L m s).1 ∧ (giter L m s).1 ≤ s.1 + 3 * m
  | 0, s => by simp [giter]
  | m + 1, s => by
    have h1 := gstep_at L s
    have h2 := giter_at L m (gstep L s)
    simp only [giter]
    omega
def pG5 : LS → Bool
  | ([.i many, .n n, .n l, .i k], [.l _ _, .i a, .i x, .i y, .l _ es]) => decide (0 ≤ k) && decide (k ≤ many) && decide (many ≤ 6) && decide (n = es.length) && decide (l = n) && decide ((n : Int) ≤ k) && (decide (0 ≤ a) && decide (a ≤ 3 + 3 * k)) && (decide (0 ≤ x) && decide (x < 13) && (decide (0 ≤ y) && decide (y < 13)))
  | _ => false
noncomputable def fG5 : LS → DT (PX × List PV × List Row)
  | ([.i many, .n n, .n _, .i k], [.l f L, .i a, .i x, .i y, .l nl es]) => .leaf (.exit 0, tm 64 [(3, .ptr 0 1 0 0), (4, iv many), (5, .sl 2 (n + (many - k).toNat) 0 (n + (many - k).toNat))],
      hG f L (giter L (many - k).toNat (a, x, y)).1 (giter L (many - k).toNat (a, x, y)).2.1 (giter L (many - k).toNat (a, x, y)).2.2 (nl && decide ((many - k).toNat = 0)) (es ++ glist L (many - k).toNat (a, x, y)))
  | _ => .no
def mG5 : LS → Nat
  | ([.i many, .n _, .n _, .i k], [.l _ _, .i _, .i _, .i _, .l _ _]) => (many - k).toNat
  | _ => 0
theorem sG5 : ∀ s r, pG5 s = true → (fG5 s).run = some r → r.1 ≠ .normal ∧ (runB Try.prog E42 60 69 (lpb Try.f69 6) [3, 4, 5, 6, 7] [3, 4, 5] (shG.put s).1 (shG.put s).2 = some r ∨
      ∃ s', runB Try.prog E42 60 69 (lpb Try.f69 6) [3, 4, 5, 6, 7] [3, 4, 5] (shG.put s).1 (shG.put s).2 = some (.normal, shG.put s') ∧ pG5 s' = true ∧ mG5 s' < mG5 s ∧ (fG5 s').run = some r) := by
  intro s r hp hr
  unfold pG5 at hp; split at hp
  · rename_i many n l k f L a x y nl es
    simp only [Bool.and_eq_true, decide_eq_true_eq] at hp
    obtain ⟨⟨⟨⟨⟨⟨⟨h1, h2⟩, h3⟩, h4⟩, h5⟩, h6⟩, h7, h8⟩, ⟨h9, h10⟩, h11, h12⟩ := hp
    have hr' := (Option.some.inj hr).symm
    refine ⟨by rw [hr']; simp, ?_⟩
    rw [qG]
    subst h4 h5
    by_cases hi : k < many
    · have hw := W_id (n := k + 1) (by omega) (by omega)
      have hroom : room es es.length es.length = true := by unfold room; simp; omega
      have a1 := aI_le L a
      have a2 := aI_le L (aI L a)
      have a3 := aI_le L (aI L (aI L a))
      have d1 := dI_ge L (aI L a) (n := 12) (by omega)
      have d1' := dI_lt L (aI L a) (n := 12) (by omega)
      have d2 := dI_ge L (aI L (aI L a)) (n := 12) (by omega)
      have d2' := dI_lt L (aI L (aI L a)) (n := 12) (by omega)
      have d3 := dI_ge L (aI L a) (n := 13) (by omega)
      have d3' := dI_lt L (aI L a) (n := 13) (by omega)
      have ok : ∀ {b n : Int}, 0 ≤ b → b ≤ 1000 → 0 < n → n ≤ 1000 → okA b n = true := fun g1 g2 g3 g4 => by unfold okA; simp; omega
      have w1 : W (W (x + 1) + dI L (aI L a) 12) = x + 1 + dI L (aI L a) 12 := by rw [W_id (n := x + 1) (by omega) (by omega), W_id (by omega) (by omega)]
      have w2 : W (W (y + 1) + dI L (aI L (aI L a)) 12) = y + 1 + dI L (aI L (aI L a)) 12 := by rw [W_id (n := y + 1) (by omega) (by omega), W_id (by omega) (by omega)]
      rw [decide_eq_true hi, cond_true, hroom, hw, w1, w2, ok h7 (by omega) (by omega) (by omega), ok (b := aI L a) (n := 12) (by omega) (by omega) (by omega) (by omega), ok (b := aI L a) (n := 13) (by omega) (by omega) (by omega) (by omega), ok (b := aI L (aI L a)) (n := 12) (by omega) (by omega) (by omega) (by omega)]
      simp only [cond_true, Bool.and_false]
      obtain ⟨m, hm⟩ : ∃ m, (many - k).toNat = m + 1 := ⟨(many - k).toNat - 1, by omega⟩
      have hm2 : (many - (k + 1)).toNat = m := by omega
      have hg : gstep L (a, x, y) = bif dI L a 2 == 0 then (aI L (aI L a), Int.tmod (x + 1 + dI L (aI L a) 12) 13, y) else (aI L (aI L (aI L a)), dI L (aI L a) 13, Int.tmod (y + 1 + dI L (aI L (aI L a)) 12) 13) := by
        unfold gstep
        by_cases h0 : dI L a 2 = 0
        · rw [if_pos h0, show (dI L a 2 == 0) = true by simpa using h0]; rfl
        · rw [if_neg h0, show (dI L a 2 == 0) = false by simpa using h0]; rfl
      rw [hm] at hr'
      simp only [giter, glist, hg] at hr'
      right
      have t1 : ∀ z : Int, 0 ≤ z → 0 ≤ Int.tmod z 13 ∧ Int.tmod z 13 < 13 := fun z hz => ⟨Int.tmod_nonneg _ hz, Int.tmod_lt_of_pos _ (by omega)⟩
      have e1 := t1 (x + 1 + dI L (aI L a) 12) (by omega)
      have e2 := t1 (y + 1 + dI L (aI L (aI L a)) 12) (by omega)
      cases h0 : dI L a 2 == 0 with
      | true =>
        rw [h0] at hr'
        simp only [cond_true] at hr' ⊢
        refine ⟨lG many (es.length + 1) (es.length + 1) (k + 1) f L (aI L (aI L a)) (Int.tmod (x + 1 + dI L (aI L a) 12) 13) y false (es ++ [ptv x y]), rfl, by simp [pG5]; omega, by simp only [mG5]; omega, ?_⟩
        rw [hr']
        simp only [fG5, hm2, List.append_assoc, List.cons_append, List.nil_append, Bool.false_and]
        rw [show es.length + 1 + m = es.length + (m + 1) by omega]
        simp [DT.run]
      | false =>
        rw [h0] at hr'
        simp only [cond_false] at hr' ⊢
        refine ⟨lG many (es.length + 1) (es.length + 1) (k + 1) f L (aI L (aI L (aI L a))) (dI L (aI L a) 13) (Int.tmod (y + 1 + dI L (aI L (aI L a)) 12) 13) false (es ++ [ptv x y]), rfl, by simp [pG5]; omega, by simp only [mG5]; omega, ?_⟩
        rw [hr']
        simp only [fG5, hm2, List.append_assoc, List.cons_append, List.nil_append, Bool.false_and]
        rw [show es.length + 1 + m = es.length + (m + 1) by omega]
        simp [DT.run]
    · rw [decide_eq_false hi]
      rw [show (many - k).toNat = 0 by omega] at hr'
      exact .inl (by rw [hr']; simp [giter, glist])
  · cases hp
noncomputable def E42a : EnvK := E42.addW 69 6 [3, 4, 5, 6, 7] [] shG pG5 fG5
theorem ok42a : EnvOK Try.prog E42a.env :=
  ok42.addW (n := 60) Try.func69 (show Try.f69.body = some (bod Try.f69) by kernel_rfl) (show (loops (bod Try.f69)).filter (fun b => rid b == 6) = [lpb Try.f69 6] by kernel_rfl) [3, 4, 5, 6, 7] [3, 4, 5] [] shG mG5 sG5
end Go.Hg
/- Geometry: contracts: made lists of points, their value. -/
namespace Go.Hg
open Go.Hx Go.Proofs
def m5W (L : List PV) : Int := W (2 + dI L 0 5)
def s05 (L : List PV) : T3 := (aI L (aI L (aI L 0)), dI L (aI L 0) 13, dI L (aI L (aI L 0)) 13)
def g5W (L : List PV) : List PV := glist L (m5W L - 0).toNat (s05 L)
def e5W (L : List PV) : Int := (giter L (m5W L - 0).toNat (s05 L)).1
def r5 (g : List PV) (N : Nat) : Option PV := bif g.length == N then some (.lst false 23 ((g.drop 0).take N)) else none
def st5 (g : List PV) (m : Int) (N : Nat) : Option PV :=
  bif (g.length == N) && true then bif decide (0 < (N : Int)) then bif g.length == N then bif (g.length == N) && true then bif decide (0 ≤ W (m - 1)) && decide (W (m - 1) < (N : Int)) then
    bif (g.length == N) && true && true && true then r5 (g.set (0 + (W (m - 1)).toNat) (qp g 0)) N else none else none else none else none else none else none
theorem qMade5 (f : Bool) (L : List PV) : runP Try.prog E42a 60 69 [.lst f 3 L] =
  bif okA (aI L 0) 13 then bif okA (aI L (aI L 0)) 13 then bif pG5 (lG (m5W L) 0 0 0 f L (s05 L).1 (s05 L).2.1 (s05 L).2.2 true []) then
    bif decide (m5W L > 3) then bif okA (e5W L) 3 then bif dI L (e5W L) 3 == 0 then st5 (g5W L) (m5W L) (0 + (m5W L - 0).toNat) else r5 (g5W L) (0 + (m5W L - 0).toNat) else none
    else r5 (g5W L) (0 + (m5W L - 0).toNat) else none else none else none := by kernel_rfl
def mn5 (L : List PV) : Nat := 2 + (dI L 0 5).toNat
def g5 (L : List PV) : List PV := glist L (mn5 L) (s05 L)
def shut5 (L : List PV) : Bool := decide (mn5 L > 3) && (dI L (giter L (mn5 L) (s05 L)).1 3 == 0)
/-- The points of a made list. -/
def made5 (L : List PV) : List PV := bif shut5 L then (g5 L).set (mn5 L - 1) (qp (g5 L) 0) else g5 L
theorem mn5_le (L : List PV) : 2 ≤ mn5 L ∧ mn5 L ≤ 6 := by
  have h1 := dI_ge L 0 (n := 5) (by omega)
  have h2 := dI_lt L 0 (n := 5) (by omega)
  unfold mn5; omega
theorem qMade5' (f : Bool) (L : List PV) : runP Try.prog E42a 60 69 [.lst f 3 L] = some (.lst false 23 (made5 L)) := by
  rw [qMade5]
  have h1 := dI_ge L 0 (n := 5) (by omega)
  have h2 := dI_lt L 0 (n := 5) (by omega)
  have hn := mn5_le L
  have a1 := aI_le L 0
  have a2 := aI_le L (aI L 0)
  have a3 := aI_le L (aI L (aI L 0))
  have d1 := dI_ge L (aI L 0) (n := 13) (by omega)
  have d1' := dI_lt L (aI L 0) (n := 13) (by omega)
  have d2 := dI_ge L (aI L (aI L 0)) (n := 13) (by omega)
  have d2' := dI_lt L (aI L (aI L 0)) (n := 13) (by omega)
  have ok : ∀ {b n : Int}, 0 ≤ b → b ≤ 1000 → 0 < n → n ≤ 1000 → okA b n = true := fun g1 g2 g3 g4 => by unfold okA; simp; omega
  have hm : m5W L = (mn5 L : Int) := by unfold m5W mn5; rw [W_id (by omega) (by omega)]; omega
  have hN : 0 + (m5W L - 0).toNat = mn5 L := by omega
  have hN' : (m5W L - 0).toNat = mn5 L := by omega
  have hg : g5W L = g5 L := by unfold g5W g5; rw [hN']
  have he : e5W L = (giter L (mn5 L) (s05 L)).1 := by unfold e5W; rw [hN']
  have hl : (g5 L).length = mn5 L := glist_len L _ _
  have hat := giter_at L (mn5 L) (s05 L)
  have hs : (s05 L).1 = aI L (aI L (aI L 0)) := rfl
  have hp : pG5 (lG (m5W L) 0 0 0 f L (s05 L).1 (s05 L).2.1 (s05 L).2.2 true []) = true := by
    rw [hm]
    show pG5 ([.i (mn5 L : Int), .n 0, .n 0, .i 0], [.l f L, .i (aI L (aI L (aI L 0))), .i (dI L (aI L 0) 13), .i (dI L (aI L (aI L 0)) 13), .l true []]) = true
    simp only [pG5, Bool.and_eq_true, decide_eq_true_eq, List.length_nil]
    refine ⟨⟨⟨⟨⟨⟨⟨?_, ?_⟩, ?_⟩, ?_⟩, ?_⟩, ?_⟩, ?_, ?_⟩, ⟨?_, ?_⟩, ?_, ?_⟩ <;> first | trivial | omega
  have r5_eq : ∀ g : List PV, g.length = mn5 L → r5 g (mn5 L) = some (.lst false 23 g) := by
    intro g h
    unfold r5
    rw [h, List.drop_zero, ← h, List.take_length]
    simp
  rw [ok (b := aI L 0) (n := 13) (by omega) (by omega) (by omega) (by omega), ok (b := aI L (aI L 0)) (n := 13) (by omega) (by omega) (by omega) (by omega), hp, he, hN, hg, ok (b := (giter L (mn5 L) (s05 L)).1) (n := 3) (by omega) (by omega) (by omega) (by omega)]
  simp only [cond_true]
  rw [r5_eq _ hl]
  unfold made5 shut5
  by_cases h3 : mn5 L > 3
  · rw [show decide (m5W L > 3) = true by simp; omega, show decide (mn5 L > 3) = true by simp; omega]
    cases hc : dI L (giter L (mn5 L) (s05 L)).1 3 == 0 with
    | false => rfl
    | true =>
      simp only [cond_true, Bool.and_self]
      unfold st5
      have hw : W (m5W L - 1) = (mn5 L : Int) - 1 := by rw [hm, W_id (by omega) (by omega)]
      rw [hl, hw, show ((mn5 L == mn5 L) && true) = true by simp, show (mn5 L == mn5 L) = true by simp, show decide (0 < (mn5 L : Int)) = true by simp; omega, show (decide (0 ≤ (mn5 L : Int) - 1) && decide ((mn5 L : Int) - 1 < (mn5 L : Int))) = true by simp; omega]
      simp only [cond_true, Bool.and_self]
      rw [show 0 + ((mn5 L : Int) - 1).toNat = mn5 L - 1 by omega]
      exact r5_eq _ (by rw [List.length_set]; exact hl)
  · rw [show decide (m5W L > 3) = false by simp; omega, show decide (mn5 L > 3) = false by simp; omega]
    rfl
theorem made5_len (L : List PV) : 2 ≤ (made5 L).length ∧ (made5 L).length ≤ 6 := by
  have hn := mn5_le L
  have hl : (g5 L).length = mn5 L := glist_len L _ _
  unfold made5
  cases shut5 L <;> simp only [cond_true, cond_false, List.length_set] <;> omega
def cMade5 : List PV → Option PV | [.lst _ 3 L] => some (.lst false 23 (made5 L)) | _ => none
theorem oMade5 (args : List PV) (r : PV) (h : cMade5 args = some r) : Enters Try.prog 69 ∧ PCall Try.prog 69 args r := by
  unfold cMade5 at h; split at h
  · rename_i f L; cases h; exact runP_sound ok42a (qMade5' f L)
  · cases h
noncomputable def E43 : EnvK := E41.addO 69 cMade5
theorem ok43 : EnvOK Try.prog E43.env := ok41.addO oMade5
end Go.Hg
/- Geometry: the sanity of chapter 05. -/
namespace Go.Hg
open Go.Hx Go.Proofs
noncomputable def E44 : EnvK := (E43.addK 119).addK 149
theorem ok44 : EnvOK Try.prog E44.env := (ok43.addK 119).addK 149
theorem qSan5 : runP Try.prog E44 100 68 [] = some (bv true) := by kernel_rfl
end Go.Hg
/- Geometry: LineWithins answers true. -/
namespace Go.Hg
open Go.Hx Go.Proofs
def cSan5 : List PV → Option PV | [] => some (bv true) | _ => none
theorem oSan5 (args : List PV) (r : PV) (h : cSan5 args = some r) : Enters Try.prog 68 ∧ PCall Try.prog 68 args r := by
  unfold cSan5 at h; split at h
  · cases h; exact runP_sound ok44 (n := 100) qSan5
  · cases h
noncomputable def E45 : EnvK := E44.addO 68 cSan5
theorem ok45 : EnvOK Try.prog E45.env := ok44.addO oSan5
def mn8 (es : List PV) : Int := if 8 < ((es.length : Nat) : Int) then 8 else ((es.length : Nat) : Int)
def few (es : List PV) : List PV := es.take (mn8 es).toNat
def cFew : List PV → Option PV | [.lst f 23 es] => some (.lst (f && false) 23 (few es)) | _ => none
theorem qFew (f : Bool) (es : List PV) : runP Try.prog E44 60 73 [.lst f 23 es] = bif decide (0 ≤ mn8 es) && decide (mn8 es ≤ (es.length : Int)) then some (.lst (f && false) 23 (few es)) else none := by kernel_rfl
theorem mn8_ok (es : List PV) : (decide (0 ≤ mn8 es) && decide (mn8 es ≤ ((es.length : Nat) : Int))) = true := by unfold mn8; simp; split <;> omega
theorem few_len (es : List PV) : (few es).length ≤ 8 := by unfold few mn8; rw [List.length_take]; split <;> omega
theorem oFew (args : List PV) (r : PV) (h : cFew args = some r) : Enters Try.prog 73 ∧ PCall Try.prog 73 args r := by
  unfold cFew at h; split at h
  · rename_i f es; cases h; exact runP_sound ok44 (n := 60) (by rw [qFew, mn8_ok]; rfl)
  · cases h
noncomputable def E46 : EnvK := E45.addO 73 cFew
theorem ok46 : EnvOK Try.prog E46.env := ok45.addO oFew
def wi (es : List PV) (x y n : Int) (k : Option PV) : Option PV := bif big es then bif big es then bif wit es x y n != wit es x y n then some (bv false) else k else none else none
def wi4 (A R : List PV) (x y n : Int) (k : Option PV) : Option PV := wi A (Int.tmod x 20) (Int.tmod y 20) n (wi A x y n (wi (few R) x y n (wi (few R) (Int.tmod x 20) (Int.tmod y 20) n k)))
theorem q17 (f g : Bool) (L R : List PV) (x y n : Int) : runP Try.prog E46 100 16 [.lst f 3 L, .lst g 23 R, .agg [iv x, iv y, iv n]] =
  wi4 (made5 L) R x y n (wi4 (made5 L) R x y (Int.tmod n 2000) (some (bv true))) := by kernel_rfl
theorem wi_eq {es : List PV} (h : es.length ≤ 1000000) (x y n : Int) (k : Option PV) : wi es x y n k = k := by
  unfold wi; rw [show big es = true by simpa using h]; simp
theorem law17 (f g : Bool) (L R : List PV) (x y n : Int) : Enters Try.prog 16 ∧ PCall Try.prog 16 [.lst f 3 L, .lst g 23 R, .agg [iv x, iv y, iv n]] (bv true) := by
  refine runP_sound ok46 (n := 100) ?_
  have h1 := (made5_len L).2
  have h2 := few_len R
  have h3 : (made5 L).length ≤ 1000000 := by omega
  have h4 : (few R).length ≤ 1000000 := by omega
  rw [q17]
  unfold wi4
  simp only [wi_eq h3, wi_eq h4]
end Go.Hg
/- Geometry: plain laws of Within. -/
namespace Go.Hg
open Go.Hx Go.Proofs
abbrev s100 (x : Int) : Prop := -100 ≤ x ∧ x ≤ 100
abbrev s200 (x : Int) : Prop := -200 ≤ x ∧ x ≤ 200
theorem mul200 {x y : Int} (h : s200 x) (k : s200 y) : -40000 ≤ x * y ∧ x * y ≤ 40000 := mul_bd (A := 200) (B := 200) h k
theorem dt_small {a b c d : Int} (ha : s200 a) (hb : s200 b) (hc : s200 c) (hd : s200 d) : dt a b c d = a * c + b * d := by
  have h1 := mul200 ha hc
  have h2 := mul200 hb hd
  unfold dt
  rw [W_id (n := a * c) (by omega) (by omega), W_id (n := b * d) (by omega) (by omega), W_id (by omega) (by omega)]
theorem crW4_small {a b c d : Int} (ha : s200 a) (hb : s200 b) (hc : s200 c) (hd : s200 d) : crW4 a b c d = a * d - b * c := by
  have h1 := mul200 ha hd
  have h2 := mul200 hb hc
  unfold crW4
  rw [W_id (n := a * d) (by omega) (by omega), W_id (n := b * c) (by omega) (by omega), W_id (by omega) (by omega)]
theorem sgn_le {n : Int} : sgn n ≤ 0 ↔ n ≤ 0 := by unfold sgn; (repeat' split) <;> omega
/-- Near, in plain numbers: p = d . v etc. -/
def nearP (p q v w c n : Int) : Bool := bif decide (p ≤ 0) then decide (4 * v ≤ n) else bif decide (p ≥ q) then decide (4 * w ≤ n) else decide (4 * (c * c) ≤ n * q)
theorem nearB_small {a b c d x y n : Int} (ha : s100 a) (hb : s100 b) (hc : s100 c) (hd : s100 d) (hx : s100 x) (hy : s100 y) (hn : -1 ≤ n ∧ n ≤ 100000) :
    nearB a b c d x y n = nearP ((x - a) * (c - a) + (y - b) * (d - b)) ((c - a) * (c - a) + (d - b) * (d - b)) ((x - a) * (x - a) + (y - b) * (y - b)) ((x - c) * (x - c) + (y - d) * (y - d)) ((c - a) * (y - b) - (d - b) * (x - a)) n := by
  have sb : ∀ {u v : Int}, s100 u → s100 v → W (u - v) = u - v ∧ s200 (u - v) := fun h k => ⟨W_id (by omega) (by omega), by omega⟩
  obtain ⟨e1, k1⟩ := sb hx ha; obtain ⟨e2, k2⟩ := sb hy hb; obtain ⟨e3, k3⟩ := sb hc ha; obtain ⟨e4, k4⟩ := sb hd hb; obtain ⟨e5, k5⟩ := sb hx hc; obtain ⟨e6, k6⟩ := sb hy hd
  unfold nearB nearT
  rw [e1, e2, e3, e4, e5, e6, dt_small k1 k2 k3 k4, dt_small k3 k4 k3 k4, dt_small k1 k2 k1 k2, dt_small k5 k6 k5 k6, crW4_small k3 k4 k1 k2]
  have m1 := mul200 k1 k1; have m2 := mul200 k2 k2; have m3 := mul200 k5 k5; have m4 := mul200 k6 k6; have m5 := mul200 k3 k2; have m6 := mul200 k4 k1; have m7 := mul200 k3 k3; have m8 := mul200 k4 k4
  rw [W_id (n := 4 * ((x - a) * (x - a) + (y - b) * (y - b))) (by omega) (by omega), W_id (n := 4 * ((x - c) * (x - c) + (y - d) * (y - d))) (by omega) (by omega), W_id (n := 4 * ((c - a) * (y - b) - (d - b) * (x - a))) (by omega) (by omega)]
  rw [sg2_eq (by omega) (by omega) (by omega) (by omega)]
  unfold nearP id
  congr 2
  rw [decide_eq_decide, sgn_le, Int.mul_assoc]
  omega
theorem sq_zero {u v : Int} (h : u * u + v * v ≤ 0) : u = 0 ∧ v = 0 := by
  have h1 : 0 ≤ u * u := by rcases Int.le_total 0 u with g | g; exact Int.mul_nonneg g g; exact Int.mul_nonneg_of_nonpos_of_nonpos g g
  have h2 : 0 ≤ v * v := by rcases Int.le_total 0 v with g | g; exact Int.mul_nonneg g g; exact Int.mul_nonneg_of_nonpos_of_nonpos g g
  have e1 : u * u = 0 := by omega
  have e2 : v * v = 0 := by omega
  exact ⟨by rcases Int.mul_eq_zero.1 e1 with g | g <;> exact g, by rcases Int.mul_eq_zero.1 e2 with g | g <;> exact g⟩
theorem sq_nn (u : Int) : 0 ≤ u * u := by rcases Int.le_total 0 u with g | g; exact Int.mul_nonneg g g; exact Int.mul_nonneg_of_nonpos_of_nonpos g g
/-- Monotone. -/
theorem nearP_mono {p q v w c n m : Int} (hq : 0 ≤ q) (h : n ≤ m) (hn : nearP p q v w c n = true) : nearP p q v w c m = true := by
  unfold nearP at *
  cases h1 : decide (p ≤ 0) <;> rw [h1] at hn <;> simp only [cond_true, cond_false, decide_eq_true_eq] at hn ⊢
  · cases h2 : decide (p ≥ q) <;> rw [h2] at hn <;> simp only [cond_true, cond_false, decide_eq_true_eq] at hn ⊢
    · exact Int.le_trans hn (Int.mul_le_mul_of_nonneg_right h hq)
    · omega
  · omega
theorem nearP_neg {p q v w c : Int} (hq : p < q ∨ p ≤ 0 ∨ True) (hv : 0 ≤ v) (hw : 0 ≤ w) : nearP p q v w c (-1) = false := by
  unfold nearP
  have hc := sq_nn c
  cases h1 : decide (p ≤ 0) <;> simp only [cond_true, cond_false]
  · cases h2 : decide (p ≥ q) <;> simp only [cond_true, cond_false, decide_eq_false_iff_not]
    · simp only [decide_eq_false_iff_not] at h1 h2; omega
    · omega
  · simp only [decide_eq_false_iff_not]; omega
theorem near_zero {a b c d x y : Int} : nearP ((x - a) * (c - a) + (y - b) * (d - b)) ((c - a) * (c - a) + (d - b) * (d - b)) ((x - a) * (x - a) + (y - b) * (y - b)) ((x - c) * (x - c) + (y - d) * (y - d)) ((c - a) * (y - b) - (d - b) * (x - a)) 0
    = (bx a b c d x y && (sgn (crs a b c d x y) == 0)) := by
  have e : (c - a) * (y - b) - (d - b) * (x - a) = crs a b c d x y := rfl
  rw [e, Bool.eq_iff_iff, Bool.and_eq_true, beq_iff_eq, sgn_zero]
  unfold bx
  rw [Bool.and_eq_true, btwn_iff, btwn_iff]
  generalize hC : crs a b c d x y = C
  unfold crs at hC
  generalize hP : (x - a) * (c - a) + (y - b) * (d - b) = P
  generalize hQ : (c - a) * (c - a) + (d - b) * (d - b) = Q
  unfold nearP
  have key : P * P + C * C = ((x - a) * (x - a) + (y - b) * (y - b)) * Q := by rw [← hP, ← hQ, ← hC]; grind
  constructor
  · intro h
    cases h1 : decide (P ≤ 0) <;> rw [h1] at h <;> simp only [cond_true, cond_false, decide_eq_true_eq] at h
    · cases h2 : decide (P ≥ Q) <;> rw [h2] at h <;> simp only [cond_true, cond_false, decide_eq_true_eq] at h
      · simp only [decide_eq_false_iff_not] at h1 h2
        have hC0 : C = 0 := by
          have := (sq_zero (u := C) (v := 0) (by omega)).1
          exact this
        refine ⟨?_, hC0⟩
        subst hC0
        -- the place on the line
        have ex : Q * (x - a) = P * (c - a) := by
          rw [← hP, ← hQ]
          have hz : (c - a) * (y - b) = (d - b) * (x - a) := by omega
          have : ((c - a) * (c - a) + (d - b) * (d - b)) * (x - a) - ((x - a) * (c - a) + (y - b) * (d - b)) * (c - a) = (d - b) * ((d - b) * (x - a) - (c - a) * (y - b)) := by grind
          rw [hz] at this; simp at this; omega
        have ey : Q * (y - b) = P * (d - b) := by
          rw [← hP, ← hQ]
          have hz : (c - a) * (y - b) = (d - b) * (x - a) := by omega
          have : ((c - a) * (c - a) + (d - b) * (d - b)) * (y - b) - ((x - a) * (c - a) + (y - b) * (d - b)) * (d - b) = (c - a) * ((c - a) * (y - b) - (d - b) * (x - a)) := by grind
          rw [hz] at this; simp at this; omega
        have hb : ∀ u v : Int, Q * u = P * v → (0 ≤ v → 0 ≤ u ∧ u ≤ v) ∧ (v ≤ 0 → v ≤ u ∧ u ≤ 0) := by
          intro u v he
          constructor
          · intro hv
            have p1 : 0 ≤ P * v := Int.mul_nonneg (by omega) hv
            have p2 : P * v ≤ Q * v := Int.mul_le_mul_of_nonneg_right (by omega) hv
            constructor
            · rcases Int.lt_or_le u 0 with g | g
              · have := Int.mul_neg_of_pos_of_neg (show 0 < Q by omega) g; omega
              · exact g
            · exact Int.le_of_mul_le_mul_left (by omega : Q * u ≤ Q * v) (by omega)
          · intro hv
            have p1 : P * v ≤ 0 := Int.mul_nonpos_of_nonneg_of_nonpos (by omega) hv
            have p2 : Q * v ≤ P * v := Int.mul_le_mul_of_nonpos_right (by omega) hv
            constructor
            · exact Int.le_of_mul_le_mul_left (by omega : Q * v ≤ Q * u) (by omega)
            · rcases Int.lt_or_le 0 u with g | g
              · have := Int.mul_pos (show 0 < Q by omega) g; omega
              · exact g
        have b1 := hb _ _ ex
        have b2 := hb _ _ ey
        omega
      · have g := sq_zero (u := x - c) (v := y - d) (by omega)
        have h3 : x = c := by omega
        have h4 : y = d := by omega
        subst h3; subst h4
        refine ⟨by omega, ?_⟩
        rw [← hC]; grind
    · have g := sq_zero (u := x - a) (v := y - b) (by omega)
      have h3 : x = a := by omega
      have h4 : y = b := by omega
      subst h3; subst h4
      refine ⟨by omega, ?_⟩
      rw [← hC]; grind
  · rintro ⟨⟨g1, g2⟩, hC0⟩
    subst hC0
    cases h1 : decide (P ≤ 0) <;> simp only [cond_true, cond_false, decide_eq_true_eq]
    · cases h2 : decide (P ≥ Q) <;> simp only [cond_true, cond_false, decide_eq_true_eq]
      · simp
      · -- at the far end
        simp only [decide_eq_false_iff_not, decide_eq_true_eq] at h1 h2
        have f1 : (x - c) * (c - a) ≤ 0 := by
          rcases g1 with g | g
          · exact Int.mul_nonpos_of_nonpos_of_nonneg (by omega) (by omega)
          · exact Int.mul_nonpos_of_nonneg_of_nonpos (by omega) (by omega)
        have f2 : (y - d) * (d - b) ≤ 0 := by
          rcases g2 with g | g
          · exact Int.mul_nonpos_of_nonpos_of_nonneg (by omega) (by omega)
          · exact Int.mul_nonpos_of_nonneg_of_nonpos (by omega) (by omega)
        have hPQ : P - Q = (x - c) * (c - a) + (y - d) * (d - b) := by rw [← hP, ← hQ]; grind
        have z1 : (x - c) * (c - a) = 0 := by omega
        have z2 : (y - d) * (d - b) = 0 := by omega
        have hx : x = c := by rcases Int.mul_eq_zero.1 z1 with g | g <;> omega
        have hy : y = d := by rcases Int.mul_eq_zero.1 z2 with g | g <;> omega
        subst hx; subst hy; simp
    · -- at the near end
      simp only [decide_eq_true_eq] at h1
      have f1 : 0 ≤ (x - a) * (c - a) := by
        rcases g1 with g | g
        · exact Int.mul_nonneg (by omega) (by omega)
        · exact Int.mul_nonneg_of_nonpos_of_nonpos (by omega) (by omega)
      have f2 : 0 ≤ (y - b) * (d - b) := by
        rcases g2 with g | g
        · exact Int.mul_nonneg (by omega) (by omega)
        · exact Int.mul_nonneg_of_nonpos_of_nonpos (by omega) (by omega)
      have z1 : (x - a) * (c - a) = 0 := by omega
      have z2 : (y - b) * (d - b) = 0 := by omega
      have hx : x = a := by rcases Int.mul_eq_zero.1 z1 with g | g <;> omega
      have hy : y = b := by rcases Int.mul_eq_zero.1 z2 with g | g <;> omega
      subst hx; subst hy; simp
/-- All of it is near. -/
theorem nearP_far {p q v w c : Int} (hv : v ≤ 1800) (hw : w ≤ 1800) (hq : 0 ≤ q) (hc : p * p + c * c = v * q) : nearP p q v w c 7200 = true := by
  unfold nearP
  have hp := sq_nn p
  cases h1 : decide (p ≤ 0) <;> simp only [cond_true, cond_false, decide_eq_true_eq]
  · cases h2 : decide (p ≥ q) <;> simp only [cond_true, cond_false, decide_eq_true_eq]
    · have := Int.mul_le_mul_of_nonneg_right hv hq; omega
    · omega
  · omega
end Go.Hg
/- Geometry: LineNears: its loop. -/
namespace Go.Hg
open Go.Hx Go.Proofs
def onS5 (es : List PV) (i x y : Int) : Bool := onX (qX es i) (qY es i) (qX es (i + 1)) (qY es (i + 1)) x y
/-- Some segment from i on has the point. -/
def onE (es : List PV) (x y i : Int) : Nat → Bool
  | 0 => false
  | n + 1 => onS5 es i x y || onE es x y (i + 1) n
def shE5 : S1 := ⟨86, [(4, .ptr 0 1 0 0), (5, .ptr 1 1 0 0), (7, .bool), (8, .lst 23), (9, .bool), (10, I64)], [.one 23 2 (.agg [I64, I64]), .one 89 2 (.agg [.int .u16, .int .u16])]⟩
abbrev lE5 (u : Bool) (f : Bool) (es : List PV) (on : Bool) (i x y p q : Int) : LS := ([.b u, .l f es, .b on, .i i], [.i x, .i y, .i p, .i q])
noncomputable abbrev xE5 (u : Bool) (f : Bool) (es : List PV) (on : Bool) (x y p q : Int) : PX × List PV × List Row := (.exit 0, tm 86 [(4, .ptr 0 1 0 0), (5, .ptr 1 1 0 0), (7, bv u), (8, .lst f 23 es), (9, bv on)], (shE5.put (lE5 u f es on 0 x y p q)).2)
theorem qE5 (u f : Bool) (es : List PV) (on : Bool) (i x y p q : Int) : runB Try.prog E46 60 18 (lpb Try.f18 6) [4, 5, 7, 8, 9, 10] [4, 5, 7, 8, 9] (shE5.put (lE5 u f es on i x y p q)).1 (shE5.put (lE5 u f es on i x y p q)).2 =
  bif decide (W (i + 1) < (es.length : Int)) then
    bif on then some (.normal, shE5.put (lE5 u f es true (W (i + 1)) x y p q))
    else bif inr es i then bif inr es (W (i + 1)) then some (.normal, shE5.put (lE5 u f es (onX (qX es i) (qY es i) (qX es (W (i + 1))) (qY es (W (i + 1))) x y) (W (i + 1)) x y p q)) else none else none
  else some (xE5 u f es on x y p q) := by kernel_rfl
def pE5 : LS → Bool
  | ([.b _, .l _ es, .b _, .i i], [.i _, .i _, .i _, .i _]) => decide (0 ≤ i) && decide (i + 1 ≤ (es.length : Int)) && big es
  | _ => false
noncomputable def fE5 : LS → DT (PX × List PV × List Row)
  | ([.b u, .l f es, .b on, .i i], [.i x, .i y, .i p, .i q]) => .leaf (xE5 u f es (on || onE es x y i ((es.length : Int) - (i + 1)).toNat) x y p q)
  | _ => .no
def mE5 : LS → Nat
  | ([.b _, .l _ es, .b _, .i i], [.i _, .i _, .i _, .i _]) => ((es.length : Int) - (i + 1)).toNat
  | _ => 0
theorem sE5 : ∀ s r, pE5 s = true → (fE5 s).run = some r → r.1 ≠ .normal ∧ (runB Try.prog E46 60 18 (lpb Try.f18 6) [4, 5, 7, 8, 9, 10] [4, 5, 7, 8, 9] (shE5.put s).1 (shE5.put s).2 = some r ∨
      ∃ s', runB Try.prog E46 60 18 (lpb Try.f18 6) [4, 5, 7, 8, 9, 10] [4, 5, 7, 8, 9] (shE5.put s).1 (shE5.put s).2 = some (.normal, shE5.put s') ∧ pE5 s' = true ∧ mE5 s' < mE5 s ∧ (fE5 s').run = some r) := by
  intro s r hp hr
  unfold pE5 at hp; split at hp
  · rename_i u f es on i x y p q
    simp only [Bool.and_eq_true, decide_eq_true_eq] at hp
    obtain ⟨⟨h1, h2⟩, h3⟩ := hp
    have hr' := (Option.some.inj hr).symm
    refine ⟨by rw [hr']; simp, ?_⟩
    rw [qE5]
    have hw := W_id (n := i + 1) (by omega) (by omega)
    rw [hw]
    by_cases hi : i + 1 < (es.length : Int)
    · rw [decide_eq_true hi, cond_true, inr_of h1 (by omega), inr_of (by omega) hi]
      obtain ⟨n, hn⟩ : ∃ n, ((es.length : Int) - (i + 1)).toNat = n + 1 := ⟨((es.length : Int) - (i + 1)).toNat - 1, by omega⟩
      have hn2 : ((es.length : Int) - (i + 1 + 1)).toNat = n := by omega
      rw [hn] at hr'
      simp only [onE] at hr'
      right
      cases on with
      | true =>
        refine ⟨lE5 u f es true (i + 1) x y p q, rfl, by simp [pE5]; omega, by simp only [mE5]; omega, ?_⟩
        rw [hr']; simp only [fE5, hn2, Bool.true_or]; rfl
      | false =>
        refine ⟨lE5 u f es (onS5 es i x y) (i + 1) x y p q, rfl, by simp [pE5]; omega, by simp only [mE5]; omega, ?_⟩
        rw [hr']; simp only [fE5, hn2, Bool.false_or]; rfl
    · rw [decide_eq_false hi]
      rw [show ((es.length : Int) - (i + 1)).toNat = 0 by omega] at hr'
      exact .inl (by rw [hr']; simp only [onE, Bool.or_false]; rfl)
  · cases hp
noncomputable def E47 : EnvK := E46.addW 18 6 [4, 5, 7, 8, 9, 10] [] shE5 pE5 fE5
theorem ok47 : EnvOK Try.prog E47.env :=
  ok46.addW (n := 60) Try.func18 (show Try.f18.body = some (bod Try.f18) by kernel_rfl) (show (loops (bod Try.f18)).filter (fun b => rid b == 6) = [lpb Try.f18 6] by kernel_rfl) [4, 5, 7, 8, 9, 10] [4, 5, 7, 8, 9] [] shE5 mE5 sE5
def nrK (es : List PV) (x y : Int) : Option PV := bif big es then bif !wit es x y (-1) then bif big es then some (bv (wit es x y 7200)) else none else some (bv false) else none
def nr5 (es : List PV) (x y n m : Int) (on : Bool) : Option PV :=
  bif big es then bif wit es x y 0 == on then bif big es then bif !wit es x y n then nrK es x y else bif big es then bif wit es x y m then nrK es x y else some (bv false) else none else none else some (bv false) else none
noncomputable def nr5T (f : Bool) (es : List PV) (X Y p q x y n m : Int) : Option PV := bif pE5 (lE5 true f es false 0 x y p q) then nr5 es x y n m (false || onE es x y 0 ((es.length : Int) - (0 + 1)).toNat) else none
theorem q19 (f : Bool) (L : List PV) (X Y p q : Int) : runP Try.prog E47 100 18 [.lst f 3 L, ptv X Y, .agg [.val (.int .u16 p), .val (.int .u16 q)]] =
  nr5T false (made5 L) X Y p q (Int.tmod X 15) (Int.tmod Y 15) (Int.tmod (W p) 4000) (W (Int.tmod (W p) 4000 + Int.tmod (W q) 4000)) := by kernel_rfl
end Go.Hg
/- Geometry: LineNears answers true. -/
namespace Go.Hg
open Go.Hx Go.Proofs
def in13 (e : PV) : Prop := ∃ x y, e = ptv x y ∧ (0 ≤ x ∧ x < 13) ∧ (0 ≤ y ∧ y < 13)
theorem glist_in {L : List PV} : ∀ (m : Nat) (s : T3), sp s → ∀ e ∈ glist L m s, in13 e
  | 0, s, _, e, he => by simp [glist] at he
  | m + 1, s, h, e, he => by
    simp only [glist, List.mem_cons] at he
    rcases he with rfl | he
    · exact ⟨_, _, rfl, h.1, h.2⟩
    · exact glist_in m _ (gstep_sp h) e he
theorem s05_sp (L : List PV) : sp (s05 L) := ⟨⟨dI_ge L _ (by omega), dI_lt L _ (by omega)⟩, dI_ge L _ (by omega), dI_lt L _ (by omega)⟩
theorem in13_q {es : List PV} (h : ∀ e ∈ es, in13 e) {i : Int} (h0 : 0 ≤ i) (h1 : i < (es.length : Int)) : (0 ≤ qX es i ∧ qX es i < 13) ∧ (0 ≤ qY es i ∧ qY es i < 13) := by
  have hlt : i.toNat < es.length := by omega
  obtain ⟨x, y, he, hx, hy⟩ := h es[i.toNat] (List.getElem_mem hlt)
  have hg : es.getD i.toNat .any = ptv x y := by rw [List.getD_eq_getElem?_getD, List.getElem?_eq_getElem hlt, he]; rfl
  unfold qX qY
  rw [hg]
  exact ⟨hx, hy⟩
theorem made5_in (L : List PV) : ∀ e ∈ made5 L, in13 e := by
  have hg := glist_in (L := L) (mn5 L) (s05 L) (s05_sp L)
  have hl : (g5 L).length = mn5 L := glist_len L _ _
  have hn := mn5_le L
  unfold made5
  cases shut5 L with
  | false => exact hg
  | true =>
    intro e he
    rcases List.mem_or_eq_of_mem_set he with h | rfl
    · exact hg e h
    · have := in13_q (es := g5 L) hg (i := 0) (by omega) (by omega)
      exact ⟨_, _, rfl, this⟩
theorem fin_of {es : List PV} (h : ∀ e ∈ es, in13 e) : fin es = true := by
  unfold fin
  rw [allR_false]
  intro j hj
  have := in13_q h (i := 0 + (j : Int)) (by omega) (by omega)
  exact inB2_iff.2 ⟨by omega, by omega⟩
section
variable {es : List PV} (h : ∀ e ∈ es, in13 e) {x y : Int} (hx : -15 ≤ x ∧ x ≤ 15) (hy : -15 ≤ y ∧ y ≤ 15)
include h hx hy
theorem nrq_eq {i n : Int} (h0 : 0 ≤ i) (h1 : i + 1 < (es.length : Int)) (hn : -1 ≤ n ∧ n ≤ 100000) :
    ∃ p q v w c, (∀ m, -1 ≤ m ∧ m ≤ 100000 → nrq es i x y m = nearP p q v w c m) ∧ nearP p q v w c 0 = onS5 es i x y ∧ 0 ≤ q ∧ 0 ≤ v ∧ 0 ≤ w ∧ v ≤ 1800 ∧ w ≤ 1800 ∧ p * p + c * c = v * q := by
  obtain ⟨a1, a2⟩ := in13_q h (i := i) h0 (by omega)
  obtain ⟨b1, b2⟩ := in13_q h (i := i + 1) (by omega) h1
  unfold nrq onS5
  generalize qX es i = a at *
  generalize qY es i = b at *
  generalize qX es (i + 1) = c at *
  generalize qY es (i + 1) = d at *
  refine ⟨_, _, _, _, _, fun m hm => nearB_small (by unfold s100; omega) (by unfold s100; omega) (by unfold s100; omega) (by unfold s100; omega) (by unfold s100; omega) (by unfold s100; omega) hm, ?_, ?_, ?_, ?_, ?_, ?_, ?_⟩
  · rw [near_zero, on_of (by unfold bd; omega) (by unfold bd; omega) (by unfold bd; omega)]
  · have := sq_nn (c - a); have := sq_nn (d - b); omega
  · have := sq_nn (x - a); have := sq_nn (y - b); omega
  · have := sq_nn (x - c); have := sq_nn (y - d); omega
  · have := mul_bd (A := 30) (B := 30) (a := x - a) (b := x - a) (by omega) (by omega); have := mul_bd (A := 30) (B := 30) (a := y - b) (b := y - b) (by omega) (by omega); omega
  · have := mul_bd (A := 30) (B := 30) (a := x - c) (b := x - c) (by omega) (by omega); have := mul_bd (A := 30) (B := 30) (a := y - d) (b := y - d) (by omega) (by omega); omega
  · grind
theorem nrA_zero : ∀ (m : Nat) (i : Int), 0 ≤ i → i + m < (es.length : Int) → nrA es x y 0 i m = onE es x y i m
  | 0, i, _, _ => rfl
  | m + 1, i, h0, h1 => by
    obtain ⟨p, q, v, w, c, e1, e2, _⟩ := nrq_eq h hx hy (i := i) (n := 0) h0 (by omega) (by omega)
    simp only [nrA, onE]
    rw [nrA_zero m (i + 1) (by omega) (by omega), e1 0 (by omega), e2]
theorem nrA_mono {n k : Int} (hn : -1 ≤ n) (hk : k ≤ 100000) (hnk : n ≤ k) : ∀ (m : Nat) (i : Int), 0 ≤ i → i + m < (es.length : Int) → nrA es x y n i m = true → nrA es x y k i m = true
  | 0, i, _, _, g => g
  | m + 1, i, h0, h1, g => by
    obtain ⟨p, q, v, w, c, e1, _, hq, _⟩ := nrq_eq h hx hy (i := i) (n := 0) h0 (by omega) (by omega)
    simp only [nrA, Bool.or_eq_true] at g ⊢
    rcases g with g | g
    · left; rw [e1 n (by omega)] at g; rw [e1 k (by omega)]; exact nearP_mono hq hnk g
    · right; exact nrA_mono hn hk hnk m (i + 1) (by omega) (by omega) g
theorem nrA_neg : ∀ (m : Nat) (i : Int), 0 ≤ i → i + m < (es.length : Int) → nrA es x y (-1) i m = false
  | 0, i, _, _ => rfl
  | m + 1, i, h0, h1 => by
    obtain ⟨p, q, v, w, c, e1, _, hq, hv, hw, _⟩ := nrq_eq h hx hy (i := i) (n := 0) h0 (by omega) (by omega)
    simp only [nrA]
    rw [nrA_neg m (i + 1) (by omega) (by omega), e1 (-1) (by omega), nearP_neg (.inr (.inr trivial)) hv hw]; rfl
theorem nrA_far (hl : 2 ≤ es.length) : nrA es x y 7200 0 (es.length - 1) = true := by
  obtain ⟨m, hm⟩ : ∃ m, es.length - 1 = m + 1 := ⟨es.length - 2, by omega⟩
  obtain ⟨p, q, v, w, c, e1, _, hq, hv, hw, v1, w1, hc⟩ := nrq_eq h hx hy (i := 0) (n := 0) (by omega) (by omega) (by omega)
  rw [hm]
  simp only [nrA]
  rw [e1 7200 (by omega), nearP_far v1 w1 hq hc]; rfl
theorem wit_eq (n : Int) : wit es x y n = nrA es x y n 0 (es.length - 1) := by
  unfold wit
  rw [fin_of h, show right x y = true from inB2_iff.2 ⟨by omega, by omega⟩]; rfl
theorem nr5_true (hl : 2 ≤ es.length) (hb : es.length ≤ 6) {n m : Int} (hn : 0 ≤ n) (hm : m ≤ 100000) (hnm : n ≤ m) : nr5 es x y n m (onE es x y 0 (es.length - 1)) = some (bv true) := by
  have e0 : wit es x y 0 = onE es x y 0 (es.length - 1) := by rw [wit_eq h hx hy, nrA_zero h hx hy _ 0 (by omega) (by omega)]
  have e1 : wit es x y (-1) = false := by rw [wit_eq h hx hy, nrA_neg h hx hy _ 0 (by omega) (by omega)]
  have e2 : wit es x y 7200 = true := by rw [wit_eq h hx hy, nrA_far h hx hy hl]
  have e3 : wit es x y n = true → wit es x y m = true := by
    rw [wit_eq h hx hy, wit_eq h hx hy]; exact nrA_mono h hx hy (by omega) hm hnm _ 0 (by omega) (by omega)
  unfold nr5 nrK
  rw [e0, e1, e2, show big es = true by simp [big]; omega]
  simp only [beq_self_eq_true, cond_true, Bool.not_false]
  cases hc : wit es x y n with
  | false => rfl
  | true => rw [e3 hc]; rfl
end
theorem law19 (f : Bool) (L : List PV) (X Y : Int) {p q : Int} (hp : 0 ≤ p ∧ p < 65536) (hq : 0 ≤ q ∧ q < 65536) : Enters Try.prog 18 ∧ PCall Try.prog 18 [.lst f 3 L, ptv X Y, .agg [.val (.int .u16 p), .val (.int .u16 q)]] (bv true) := by
  refine runP_sound ok47 (n := 100) ?_
  have h1 := made5_len L
  have t : ∀ x : Int, -15 ≤ Int.tmod x 15 ∧ Int.tmod x 15 ≤ 15 := fun x => ⟨by have := Int.lt_tmod_of_pos x (show (0 : Int) < 15 by omega); omega, by have := Int.tmod_lt_of_pos x (show (0 : Int) < 15 by omega); omega⟩
  have s : ∀ {k : Int}, 0 ≤ k ∧ k < 65536 → 0 ≤ Int.tmod (W k) 4000 ∧ Int.tmod (W k) 4000 < 4000 := fun {k} hk => by
    rw [W_id (by omega) (by omega)]
    exact ⟨Int.tmod_nonneg _ hk.1, Int.tmod_lt_of_pos _ (by omega)⟩
  have s1 := s hp
  have s2 := s hq
  rw [q19]
  unfold nr5T
  rw [show pE5 (lE5 true false (made5 L) false 0 (Int.tmod X 15) (Int.tmod Y 15) p q) = true by simp [pE5]; omega, show (((made5 L).length : Int) - (0 + 1)).toNat = (made5 L).length - 1 by omega, Bool.false_or, cond_true]
  rw [W_id (n := Int.tmod (W p) 4000 + Int.tmod (W q) 4000) (by omega) (by omega)]
  exact nr5_true (made5_in L) (t X) (t Y) h1.1 h1.2 s1.1 (by omega) (by omega)
end Go.Hg
/- Geometry: the frames of the laws: their arguments. -/
namespace Go.Proofs.Ytneklpbkfmljfaa
open Go.ChangeShapes Go.WideShapes Go.ChangeAt Go.RowKit Go.Hx Go.Hg

theorem own : ownKnob Try.prog.godebug = none := by kernel_rfl
theorem laidOut : laidOutB Try.prog = true := by kernel_rfl
theorem wt_nil {ps : List PV} (h : wtcs [] ps = true) : ps = [] := by
  cases ps with
  | nil => rfl
  | cons p ps => simp [wtcs] at h
theorem wtc_int {k : IntKind} {p : PV} (h : wtc (.int k) p = true) : ∃ n, p = .val (.int k n) := by
  cases p with
  | val v => cases v <;> simp_all [wtc]
  | lst f t es => simp_all [wtc]
  | _ => simp [wtc] at h
theorem wt_int {k : IntKind} {ks : List Kind} {ps : List PV} (h : wtcs ((.int k) :: ks) ps = true) : ∃ n qs, ps = .val (.int k n) :: qs ∧ wtcs ks qs = true := by
  cases ps with
  | nil => simp [wtcs] at h
  | cons p ps =>
    simp only [wtcs, Bool.and_eq_true] at h
    obtain ⟨n, rfl⟩ := wtc_int h.1
    exact ⟨n, ps, rfl, h.2⟩
theorem wtc_bool {p : PV} (h : wtc (.bool) p = true) : ∃ b, p = .val (.bool b) := by
  cases p with
  | val v => cases v <;> simp_all [wtc]
  | lst f t es => simp_all [wtc]
  | _ => simp [wtc] at h
theorem wt_bool {ks : List Kind} {ps : List PV} (h : wtcs ((.bool) :: ks) ps = true) : ∃ b qs, ps = .val (.bool b) :: qs ∧ wtcs ks qs = true := by
  cases ps with
  | nil => simp [wtcs] at h
  | cons p ps =>
    simp only [wtcs, Bool.and_eq_true] at h
    obtain ⟨b, rfl⟩ := wtc_bool h.1
    exact ⟨b, ps, rfl, h.2⟩
theorem wtc_str {p : PV} (h : wtc (.str) p = true) : ∃ s, p = .val (.string s) := by
  cases p with
  | val v => cases v <;> simp_all [wtc]
  | lst f t es => simp_all [wtc]
  | _ => simp [wtc] at h
theorem wt_str {ks : List Kind} {ps : List PV} (h : wtcs ((.str) :: ks) ps = true) : ∃ s qs, ps = .val (.string s) :: qs ∧ wtcs ks qs = true := by
  cases ps with
  | nil => simp [wtcs] at h
  | cons p ps =>
    simp only [wtcs, Bool.and_eq_true] at h
    obtain ⟨s, rfl⟩ := wtc_str h.1
    exact ⟨s, ps, rfl, h.2⟩
theorem wtc_sl {e : TypeId} {p : PV} (h : wtc (.sl e) p = true) : ∃ f es, p = .lst f e es := by
  cases p with
  | val v => cases v <;> simp [wtc] at h
  | lst f t es =>
    have : e = t := by simpa [wtc] using h
    subst this
    exact ⟨f, es, rfl⟩
  | _ => simp [wtc] at h
theorem wt_sl {e : TypeId} {ks : List Kind} {ps : List PV} (h : wtcs (.sl e :: ks) ps = true) : ∃ f es qs, ps = .lst f e es :: qs ∧ wtcs ks qs = true := by
  cases ps with
  | nil => simp [wtcs] at h
  | cons p ps =>
    simp only [wtcs, Bool.and_eq_true] at h
    obtain ⟨f, es, rfl⟩ := wtc_sl h.1
    exact ⟨f, es, ps, rfl, h.2⟩
theorem fit_i64 {n : Int} (h : Fit (.val (.int .i64 n))) : -9223372036854775808 ≤ n ∧ n ≤ 9223372036854775807 := by
  cases h with
  | int h => exact bounds_i64 h
theorem fit_u8 {n : Int} (h : Fit (.val (.int .u8 n))) : 0 ≤ n ∧ n ≤ 255 := by
  cases h with
  | int h => exact bounds_u8 h
theorem fit_u16 {n : Int} (h : Fit (.val (.int .u16 n))) : 0 ≤ n ∧ n ≤ 65535 := by
  cases h with
  | int h => exact bounds_u16 h
theorem rv_agg {t : TypeId} {ps : List PV} {W : World} {v : Value} (h : RV Try.prog (Ctx.of W) (mkE Try.prog t ps) v) (ha : isAggT Try.prog t = true) : RV Try.prog (Ctx.of W) (.agg ps) v := by
  unfold mkE at h
  rwa [if_pos ha] at h
theorem rv_one {t : TypeId} {p : PV} {W : World} {v : Value} (h : RV Try.prog (Ctx.of W) (mkE Try.prog t [p]) v) (ha : isAggT Try.prog t = false) : RV Try.prog (Ctx.of W) p v := by
  unfold mkE at h
  rwa [if_neg (by simp [ha])] at h
theorem cs_one {W : World} {p : PV} {v : Value} (h1 : RV Try.prog (Ctx.of W) p v) : Cs Try.prog (Ctx.of W) [p] #[v] := by
  refine ⟨rfl, fun j c x a b => ?_⟩
  match j with
  | 0 => simp at a b; subst a; subst b; exact h1
  | j + 1 => simp at a
theorem cs_four {W : World} {p q s t : PV} {v u x y : Value} (h1 : RV Try.prog (Ctx.of W) p v) (h2 : RV Try.prog (Ctx.of W) q u) (h3 : RV Try.prog (Ctx.of W) s x) (h4 : RV Try.prog (Ctx.of W) t y) : Cs Try.prog (Ctx.of W) [p, q, s, t] #[v, u, x, y] := by
  refine ⟨rfl, fun j c z a b => ?_⟩
  match j with
  | 0 => simp at a b; subst a; subst b; exact h1
  | 1 => simp at a b; subst a; subst b; exact h2
  | 2 => simp at a b; subst a; subst b; exact h3
  | 3 => simp at a b; subst a; subst b; exact h4
  | j + 4 => simp at a
theorem cs_two {W : World} {p q : PV} {v u : Value} (h1 : RV Try.prog (Ctx.of W) p v) (h2 : RV Try.prog (Ctx.of W) q u) : Cs Try.prog (Ctx.of W) [p, q] #[v, u] := by
  refine ⟨rfl, fun j c x a b => ?_⟩
  match j with
  | 0 => simp at a b; subst a; subst b; exact h1
  | 1 => simp at a b; subst a; subst b; exact h2
  | j + 2 => simp at a
theorem cs_three {W : World} {p q s : PV} {v u x : Value} (h1 : RV Try.prog (Ctx.of W) p v) (h2 : RV Try.prog (Ctx.of W) q u) (h3 : RV Try.prog (Ctx.of W) s x) : Cs Try.prog (Ctx.of W) [p, q, s] #[v, u, x] := by
  refine ⟨rfl, fun j c y a b => ?_⟩
  match j with
  | 0 => simp at a b; subst a; subst b; exact h1
  | 1 => simp at a b; subst a; subst b; exact h2
  | 2 => simp at a b; subst a; subst b; exact h3
  | j + 3 => simp at a
end Go.Proofs.Ytneklpbkfmljfaa
