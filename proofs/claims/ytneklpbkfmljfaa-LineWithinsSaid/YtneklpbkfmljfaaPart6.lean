/- Geometry: Within, both. -/
import Derived.Test.YtneklpbkfmljfaaPart5
import Derived.Test.YtneklpbkfmljfaaRows
import Derived.Test.YtneklpbkfmljfaaPart4
namespace Go.Hg
open Go.Hx Go.Proofs
def dt (a b c d : Int) : Int := W (W (a * c) + W (b * d))
def crW4 (a b c d : Int) : Int := W (W (a * d) - W (b * c))
def nearT {α : Type} (a b c d x y n : Int) (k : Bool → α) : α :=
  bif decide (dt (W (x - a)) (W (y - b)) (W (c - a)) (W (d - b)) ≤ 0) then k (decide (W (4 * dt (W (x - a)) (W (y - b)) (W (x - a)) (W (y - b))) ≤ n))
  else bif decide (dt (W (x - a)) (W (y - b)) (W (c - a)) (W (d - b)) ≥ dt (W (c - a)) (W (d - b)) (W (c - a)) (W (d - b))) then k (decide (W (4 * dt (W (x - c)) (W (y - d)) (W (x - c)) (W (y - d))) ≤ n))
  else k (decide (sg2 (W (4 * crW4 (W (c - a)) (W (d - b)) (W (x - a)) (W (y - b)))) (crW4 (W (c - a)) (W (d - b)) (W (x - a)) (W (y - b))) n (dt (W (c - a)) (W (d - b)) (W (c - a)) (W (d - b))) ≤ 0))
def nearB (a b c d x y n : Int) : Bool := nearT a b c d x y n id
theorem nearT_eq {α : Type} (a b c d x y n : Int) (k : Bool → α) : nearT a b c d x y n k = k (nearB a b c d x y n) := by
  unfold nearB nearT
  cases decide (dt (W (x - a)) (W (y - b)) (W (c - a)) (W (d - b)) ≤ 0) <;> cases decide (dt (W (x - a)) (W (y - b)) (W (c - a)) (W (d - b)) ≥ dt (W (c - a)) (W (d - b)) (W (c - a)) (W (d - b))) <;> rfl
theorem qNear (a b c d x y n : Int) : runP Try.prog E39 60 121 [ptv a b, ptv c d, ptv x y, iv n] = nearT a b c d x y n (fun v => some (bv v)) := by kernel_rfl
def cNear : List PV → Option PV
  | [.agg [.val (.int .i64 a), .val (.int .i64 b)], .agg [.val (.int .i64 c), .val (.int .i64 d)], .agg [.val (.int .i64 x), .val (.int .i64 y)], .val (.int .i64 n)] => some (bv (nearB a b c d x y n))
  | _ => none
theorem oNear (args : List PV) (r : PV) (h : cNear args = some r) : Enters Try.prog 121 ∧ PCall Try.prog 121 args r := by
  unfold cNear at h; split at h
  · rename_i a b c d x y n; cases h; exact runP_sound ok39 ((qNear a b c d x y n).trans (nearT_eq a b c d x y n _))
  · cases h
noncomputable def E40 : EnvK := (E39.addO 121 cNear).addV 71 4 [4, 5, 6, 25]
theorem ok40 : EnvOK Try.prog E40.env := (ok39.addO oNear).addV 71 4 [4, 5, 6, 25]
def nrq (es : List PV) (i x y n : Int) : Bool := nearB (qX es i) (qY es i) (qX es (i + 1)) (qY es (i + 1)) x y n
/-- Some segment from i on is near. -/
def nrA (es : List PV) (x y n i : Int) : Nat → Bool
  | 0 => false
  | m + 1 => nrq es i x y n || nrA es x y n (i + 1) m
noncomputable def lrT (st : LSt) : Row := lrow 71 Try.f71 4 (tm 78 [(4, .ptr 0 1 0 0), (5, .ptr 1 1 0 0), (6, .ptr 2 1 0 0), (25, sgf 4)]) st
def shT : S1 := ⟨25, [(0, .yld 5), (1, .ptr 4 1 0 0), (3, I64)], [.one 23 2 (.agg [I64, I64]), .one 3 1 I64, .one 4 1 .bool, .many 23 2, .one 53 1 (.lst 23), .raw]⟩
abbrev lT (i x y n : Int) (res : Bool) (nl : Bool) (es3 : List PV) (f : Bool) (es : List PV) (r : Row) : LS := ([.i i], [.i x, .i y, .i n, .b res, .l nl es3, .l f es, .r r])
noncomputable abbrev hT (x y n : Int) (res : Bool) (nl : Bool) (es3 : List PV) (f : Bool) (es : List PV) (r : Row) : List Row := (shT.put (lT 0 x y n res nl es3 f es r)).2
theorem qT (i x y n : Int) (res : Bool) (nl : Bool) (es3 : List PV) (f : Bool) (es : List PV) : runB Try.prog E40 60 152 (lpb Try.f152 1) [0, 1, 3] [] (shT.put (lT i x y n res nl es3 f es (lrT .ready))).1 (shT.put (lT i x y n res nl es3 f es (lrT .ready))).2 =
  bif decide (W (i + 1) < (es.length : Int)) then bif inr es i then bif inr es (W (i + 1)) then
    nearT (qX es i) (qY es i) (qX es (W (i + 1))) (qY es (W (i + 1))) x y n (fun v => bif v then some (.ret, tm 25 [], hT x y n true nl es3 f es (lrT (.done .ret))) else some (.normal, shT.put (lT (W (i + 1)) x y n res nl es3 f es (lrT .ready))))
  else none else none else some (.exit 0, tm 25 [], hT x y n res nl es3 f es (lrT .ready)) := by kernel_rfl
def shU : S1 := ⟨37, [(0, .lst 23), (2, I64), (4, .ptr 0 1 0 0), (8, I64)], [.one 23 2 (.agg [I64, I64])]⟩
theorem qU (f : Bool) (es : List PV) (n i x y : Int) : runB Try.prog E40 60 72 (lpb Try.f72 5) [0, 2, 4, 8] [6] (shU.put ([.l f es, .i n, .i i], [.i x, .i y])).1 (shU.put ([.l f es, .i n, .i i], [.i x, .i y])).2 =
  bif decide (W (i + 1) < (es.length : Int)) then bif inr es i then bif inr es (W (i + 1)) then
    bif nearB (qX es i) (qY es i) (qX es (W (i + 1))) (qY es (W (i + 1))) x y n then some (.ret, tm 37 [(6, bv true)], (shU.put ([.l f es, .i n, .i i], [.i x, .i y])).2) else some (.normal, shU.put ([.l f es, .i n, .i (W (i + 1))], [.i x, .i y]))
  else none else none else some (.exit 0, tm 37 [], (shU.put ([.l f es, .i n, .i i], [.i x, .i y])).2) := by kernel_rfl
end Go.Hg
/- Geometry: contracts: Within, both. -/
namespace Go.Hg
open Go.Hx Go.Proofs
noncomputable def pT : LS → Bool
  | ([.i i], [.i x, .i y, .i n, .b res, .l nl es3, .l f es, .r r]) => decide (0 ≤ i) && decide (i ≤ (es.length : Int)) && big es && same r (lrT .ready)
  | _ => false
noncomputable def fT : LS → DT (PX × List PV × List Row)
  | ([.i i], [.i x, .i y, .i n, .b res, .l nl es3, .l f es, .r r]) => .br (nrA es x y n i ((es.length : Int) - (i + 1)).toNat) (.leaf (.ret, tm 25 [], hT x y n true nl es3 f es (lrT (.done .ret)))) (.leaf (.exit 0, tm 25 [], hT x y n res nl es3 f es r))
  | _ => .no
def mT : LS → Nat
  | ([.i i], [.i x, .i y, .i n, .b res, .l nl es3, .l f es, .r r]) => ((es.length : Int) - (i + 1)).toNat
  | _ => 0
theorem sT : ∀ s r, pT s = true → (fT s).run = some r → r.1 ≠ .normal ∧ (runB Try.prog E40 60 152 (lpb Try.f152 1) [0, 1, 3] [] (shT.put s).1 (shT.put s).2 = some r ∨
      ∃ s', runB Try.prog E40 60 152 (lpb Try.f152 1) [0, 1, 3] [] (shT.put s).1 (shT.put s).2 = some (.normal, shT.put s') ∧ pT s' = true ∧ mT s' < mT s ∧ (fT s').run = some r) := by
  intro s r hp hr
  unfold pT at hp; split at hp
  · rename_i i x y n res nl es3 f es r0
    simp only [Bool.and_eq_true, decide_eq_true_eq, same_iff] at hp
    obtain ⟨⟨⟨h1, h2⟩, h3⟩, rfl⟩ := hp
    have hr' := run_br2 hr
    refine ⟨by rw [hr']; cases nrA es x y n i ((es.length : Int) - (i + 1)).toNat <;> simp, ?_⟩
    rw [qT]
    have hw := W_id (n := i + 1) (by omega) (by omega)
    rw [hw]
    by_cases hi : i + 1 < (es.length : Int)
    · rw [decide_eq_true hi, cond_true, inr_of h1 (by omega), inr_of (by omega) hi]
      simp only [cond_true, nearT_eq]
      obtain ⟨m, hm⟩ : ∃ m, ((es.length : Int) - (i + 1)).toNat = m + 1 := ⟨((es.length : Int) - (i + 1)).toNat - 1, by omega⟩
      rw [hm] at hr'
      simp only [nrA, nrq] at hr'
      cases hE : nearB (qX es i) (qY es i) (qX es (i + 1)) (qY es (i + 1)) x y n with
      | true =>
        rw [hE] at hr'
        exact .inl (by rw [hr']; rfl)
      | false =>
        rw [hE] at hr'
        refine .inr ⟨lT (i + 1) x y n res nl es3 f es (lrT .ready), rfl, by simp [pT, same_self]; omega, by simp only [mT]; omega, ?_⟩
        rw [hr']
        simp only [fT]
        rw [show ((es.length : Int) - (i + 1 + 1)).toNat = m by omega]
        simp only [Bool.false_or]
        cases nrA es x y n (i + 1) m <;> rfl
    · rw [decide_eq_false hi]
      rw [show ((es.length : Int) - (i + 1)).toNat = 0 by omega] at hr'
      exact .inl (by rw [hr']; rfl)
  · cases hp
noncomputable def E40a : EnvK := E40.addW 152 1 [0, 1, 3] [] shT pT fT
theorem ok40a : EnvOK Try.prog E40a.env :=
  ok40.addW (n := 60) Try.func152 (show Try.f152.body = some (bod Try.f152) by kernel_rfl) (show (loops (bod Try.f152)).filter (fun b => rid b == 1) = [lpb Try.f152 1] by kernel_rfl) [0, 1, 3] [] [] shT mT sT
noncomputable def pU : LS → Bool
  | ([.l f es, .i n, .i i], [.i x, .i y]) => decide (0 ≤ i) && decide (i ≤ (es.length : Int)) && big es
  | _ => false
noncomputable def fU : LS → DT (PX × List PV × List Row)
  | ([.l f es, .i n, .i i], [.i x, .i y]) => .br (nrA es x y n i ((es.length : Int) - (i + 1)).toNat) (.leaf (.ret, tm 37 [(6, bv true)], (shU.put ([.l f es, .i n, .i i], [.i x, .i y])).2)) (.leaf (.exit 0, tm 37 [], (shU.put ([.l f es, .i n, .i i], [.i x, .i y])).2))
  | _ => .no
def mU : LS → Nat
  | ([.l f es, .i n, .i i], [.i x, .i y]) => ((es.length : Int) - (i + 1)).toNat
  | _ => 0
theorem sU : ∀ s r, pU s = true → (fU s).run = some r → r.1 ≠ .normal ∧ (runB Try.prog E40 60 72 (lpb Try.f72 5) [0, 2, 4, 8] [6] (shU.put s).1 (shU.put s).2 = some r ∨
      ∃ s', runB Try.prog E40 60 72 (lpb Try.f72 5) [0, 2, 4, 8] [6] (shU.put s).1 (shU.put s).2 = some (.normal, shU.put s') ∧ pU s' = true ∧ mU s' < mU s ∧ (fU s').run = some r) := by
  intro s r hp hr
  unfold pU at hp; split at hp
  · rename_i f es n i x y
    simp only [Bool.and_eq_true, decide_eq_true_eq, same_iff] at hp
    obtain ⟨⟨h1, h2⟩, h3⟩ := hp
    have hr' := run_br2 hr
    refine ⟨by rw [hr']; cases nrA es x y n i ((es.length : Int) - (i + 1)).toNat <;> simp, ?_⟩
    rw [qU]
    have hw := W_id (n := i + 1) (by omega) (by omega)
    rw [hw]
    by_cases hi : i + 1 < (es.length : Int)
    · rw [decide_eq_true hi, cond_true, inr_of h1 (by omega), inr_of (by omega) hi]
      simp only [cond_true]
      obtain ⟨m, hm⟩ : ∃ m, ((es.length : Int) - (i + 1)).toNat = m + 1 := ⟨((es.length : Int) - (i + 1)).toNat - 1, by omega⟩
      rw [hm] at hr'
      simp only [nrA, nrq] at hr'
      cases hE : nearB (qX es i) (qY es i) (qX es (i + 1)) (qY es (i + 1)) x y n with
      | true =>
        rw [hE] at hr'
        exact .inl (by rw [hr']; rfl)
      | false =>
        rw [hE] at hr'
        refine .inr ⟨([.l f es, .i n, .i (i + 1)], [.i x, .i y]), rfl, by simp [pU, same_self]; omega, by simp only [mU]; omega, ?_⟩
        rw [hr']
        simp only [fU]
        rw [show ((es.length : Int) - (i + 1 + 1)).toNat = m by omega]
        simp only [Bool.false_or]
        cases nrA es x y n (i + 1) m <;> rfl
    · rw [decide_eq_false hi]
      rw [show ((es.length : Int) - (i + 1)).toNat = 0 by omega] at hr'
      exact .inl (by rw [hr']; rfl)
  · cases hp
noncomputable def E40b : EnvK := E40.addW 72 5 [0, 2, 4, 8] [] shU pU fU
theorem ok40b : EnvOK Try.prog E40b.env :=
  ok40.addW (n := 60) Try.func72 (show Try.f72.body = some (bod Try.f72) by kernel_rfl) (show (loops (bod Try.f72)).filter (fun b => rid b == 5) = [lpb Try.f72 5] by kernel_rfl) [0, 2, 4, 8] [6] [] shU mU sU
/-- P5.3. -/
def wit (es : List PV) (x y n : Int) : Bool := fin es && right x y && nrA es x y n 0 (es.length - 1)
noncomputable def witT (f : Bool) (es : List PV) (x y n : Int) : Option PV := bif pT (lT 0 x y n false false [ptv x y] f es (lrT .ready)) then bif nrA es x y n 0 ((es.length : Int) - (0 + 1)).toNat then some (bv true) else some (bv false) else none
theorem fin_one (x y : Int) : fin [ptv x y] = right x y := by
  show (right x y && true) = right x y; simp
theorem qWit (f : Bool) (es : List PV) (x y n : Int) : runP Try.prog E40a 60 71 [.lst f 23 es, ptv x y, iv n] =
  bif big es then bif !fin es then some (bv false) else bif !fin [ptv x y] then some (bv false) else witT f es x y n else none := by kernel_rfl
theorem qRWit (f : Bool) (es : List PV) (x y n : Int) : runP Try.prog E40b 60 72 [.lst f 23 es, ptv x y, iv n] =
  bif !right x y then some (bv false) else bif big es then bif !fin es then some (bv false) else bif pU ([.l f es, .i n, .i 0], [.i x, .i y]) then bif nrA es x y n 0 ((es.length : Int) - (0 + 1)).toNat then some (bv true) else some (bv false) else none else none := by kernel_rfl
theorem qWit' (f : Bool) (es : List PV) (x y n : Int) (h : big es = true) : runP Try.prog E40a 60 71 [.lst f 23 es, ptv x y, iv n] = some (bv (wit es x y n)) := by
  have h' : es.length ≤ 1000000 := by simpa using h
  rw [qWit, h, fin_one]; unfold witT wit
  rw [show pT (lT 0 x y n false false [ptv x y] f es (lrT .ready)) = true by simp [pT, same_self]; omega, show ((es.length : Int) - (0 + 1)).toNat = es.length - 1 by omega]
  cases fin es <;> cases right x y <;> cases nrA es x y n 0 (es.length - 1) <;> rfl
theorem qRWit' (f : Bool) (es : List PV) (x y n : Int) (h : big es = true) : runP Try.prog E40b 60 72 [.lst f 23 es, ptv x y, iv n] = some (bv (wit es x y n)) := by
  have h' : es.length ≤ 1000000 := by simpa using h
  rw [qRWit, h]; unfold wit
  rw [show pU ([.l f es, .i n, .i 0], [.i x, .i y]) = true by simp [pU]; omega, show ((es.length : Int) - (0 + 1)).toNat = es.length - 1 by omega]
  cases fin es <;> cases right x y <;> cases nrA es x y n 0 (es.length - 1) <;> rfl
def cWit : List PV → Option (DT PV) | [.lst _ 23 es, .agg [.val (.int .i64 x), .val (.int .i64 y)], .val (.int .i64 n)] => some (.br (big es) (.leaf (bv (wit es x y n))) .no) | _ => none
theorem eWit : Enters Try.prog 71 := (runP_sound ok40a (qWit' true [] 0 0 0 rfl)).1
theorem eRWit : Enters Try.prog 72 := (runP_sound ok40b (qRWit' true [] 0 0 0 rfl)).1
theorem oWit (args : List PV) (d : DT PV) (r : PV) (h : cWit args = some d) (hr : d.run = some r) : PCall Try.prog 71 args r := by
  unfold cWit at h; split at h
  · rename_i f es x y n; cases h; obtain ⟨h1, rfl⟩ := run_br hr; exact (runP_sound ok40a (qWit' f es x y n h1)).2
  · cases h
theorem oRWit (args : List PV) (d : DT PV) (r : PV) (h : cWit args = some d) (hr : d.run = some r) : PCall Try.prog 72 args r := by
  unfold cWit at h; split at h
  · rename_i f es x y n; cases h; obtain ⟨h1, rfl⟩ := run_br hr; exact (runP_sound ok40b (qRWit' f es x y n h1)).2
  · cases h
noncomputable def E41 : EnvK := (E39.addF 71 cWit).addF 72 cWit
theorem ok41 : EnvOK Try.prog E41.env := (ok39.addF eWit oWit).addF eRWit oRWit
end Go.Hg
/- Geometry: made lists of points. -/
namespace Go.Hg
open Go.Hx Go.Proofs
/-- The number at a place, the place being any number. -/
def dI (es : List PV) (a n : Int) : Int := if (es.length : Int) ≤ a then 0 else dv es a.toNat % n
def aI (es : List PV) (a : Int) : Int := if (es.length : Int) ≤ a then a else a + 1
abbrev drI (f : Bool) (es : List PV) (a : Int) : Row := r1 117 2 (.agg [.lst f 3 es, iv a])
def okA (a n : Int) : Bool := decide (0 ≤ a) && decide (a < 4611686018427387904) && decide (0 < n) && decide (n ≤ 4611686018427387904)
def cNxI : List PV → List Row → Option (DT (PV × List Row))
  | [.ptr 0 1 0 0, .val (.int .i64 n)], [⟨[.agg [.lst f 3 es, .val (.int .i64 a)]], 2, 117, true, true, false, none⟩] =>
    some (.br (okA a n) (.leaf (iv (dI es a n), [drI f es (aI es a)])) .no)
  | _, _ => none
theorem qNxI (es : List PV) (a : Int) (f : Bool) (n : Int) : runR Try.prog E38 60 0 101 [.ptr 0 1 0 0, iv n] [drI f es a] =
  bif decide (a ≥ ((es.length : Nat) : Int)) then some (iv 0, [drI f es a])
  else bif decide (0 ≤ W (W (a + 1) - 1)) && decide (W (W (a + 1) - 1) < ((es.length : Nat) : Int)) then
    bif decide (0 < n) && decide (n ≤ 4611686018427387904) then some (iv (dv es (W (W (a + 1) - 1)).toNat % n), [drI f es (W (a + 1))]) else none
  else none := by kernel_rfl
theorem oNxI (args : List PV) (H : List Row) (d : DT (PV × List Row)) (p : PV) (H' : List Row) (h : cNxI args H = some d) (hd : d.run = some (p, H')) : RCall Try.prog 0 101 args H p H' := by
  unfold cNxI at h; split at h
  · rename_i n f es a
    cases h
    obtain ⟨hc, he⟩ := run_br hd
    cases he
    unfold okA at hc
    simp only [Bool.and_eq_true, decide_eq_true_eq] at hc
    obtain ⟨⟨⟨h0, h3⟩, h1⟩, h2⟩ := hc
    refine (runR_sound ok38 (n := 60) ?_).2
    rw [qNxI]
    have hw1 : W (a + 1) = a + 1 := W_id (by omega) (by omega)
    have hw : W (W (a + 1) - 1) = a := by rw [hw1, W_id (by omega) (by omega)]; omega
    unfold dI aI
    by_cases hk : (es.length : Int) ≤ a
    · have g1 : decide (a ≥ ((es.length : Nat) : Int)) = true := by simp; omega
      rw [g1, if_pos hk, if_pos hk]; rfl
    · have g1 : decide (a ≥ ((es.length : Nat) : Int)) = false := by simp; omega
      have g2 : (decide (0 ≤ a) && decide (a < ((es.length : Nat) : Int))) = true := by simp; omega
      rw [g1, hw, g2, hw1, if_neg (by omega), if_neg (by omega)]
      simp only [h1, h2, decide_true, Bool.and_true, cond_true, cond_false]
  · cases h
noncomputable def E42 : EnvK := (E41.addR 101 cNxI).addN 69 6 [(5, 23, 2)]
theorem ok42 : EnvOK Try.prog E42.env := (ok41.addR eNxt oNxI).addN 69 6 [(5, 23, 2)]
def shG : S1 := ⟨64, [(3, .ptr 0 1 0 0), (4, I64), (5, .sl 2), (6, .ptr 1 1 0 0), (7, I64)], [.one 117 2 (.agg [.lst 3, I64]), .one 23 2 (.agg [I64, I64]), .many 23 2]⟩
abbrev lG (many : Int) (n l : Nat) (k : Int) (f : Bool) (L : List PV) (a x y : Int) (nl : Bool) (es : List PV) : LS := ([.i many, .n n, .n l, .i k], [.l f L, .i a, .i x, .i y, .l nl es])
noncomputable abbrev hG (f : Bool) (L : List PV) (a x y : Int) (nl : Bool) (es : List PV) : List Row := (shG.put (lG 0 0 0 0 f L a x y nl es)).2
def room (es : List PV) (n l : Nat) : Bool := decide (es.length = n) && decide (n = l) && decide ((n + 1) * 16 ≤ 140737488355328)
theorem qG (many : Int) (n l : Nat) (k : Int) (f : Bool) (L : List PV) (a x y : Int) (nl : Bool) (es : List PV) : runB Try.prog E42 60 69 (lpb Try.f69 6) [3, 4, 5, 6, 7] [3, 4, 5] (shG.put (lG many n l k f L a x y nl es)).1 (shG.put (lG many n l k f L a x y nl es)).2 =
  bif decide (k < many) then bif room es n l then bif okA a 2 then bif dI L a 2 == 0 then
    bif okA (aI L a) 12 then some (.normal, shG.put (lG many (n + 1) (n + 1) (W (k + 1)) f L (aI L (aI L a)) (Int.tmod (W (W (x + 1) + dI L (aI L a) 12)) 13) y (nl && false) (es ++ [ptv x y]))) else none
  else bif okA (aI L a) 13 then bif okA (aI L (aI L a)) 12 then some (.normal, shG.put (lG many (n + 1) (n + 1) (W (k + 1)) f L (aI L (aI L (aI L a))) (dI L (aI L a) 13) (Int.tmod (W (W (y + 1) + dI L (aI L (aI L a)) 12)) 13) (nl && false) (es ++ [ptv x y]))) else none else none
  else none else none else some (.exit 0, tm 64 [(3, .ptr 0 1 0 0), (4, iv many), (5, .sl 2 n 0 l)], hG f L a x y nl es) := by kernel_rfl
end Go.Hg
/- Geometry: contracts: made lists of points. -/
namespace Go.Hg
open Go.Hx Go.Proofs
theorem dI_ge (es : List PV) (k : Int) {n : Int} (h : 0 < n) : 0 ≤ dI es k n := by unfold dI; split; exact Int.le_refl _; exact Int.emod_nonneg _ (by omega)
theorem dI_lt (es : List PV) (k : Int) {n : Int} (h : 0 < n) : dI es k n < n := by unfold dI; split; exact h; exact Int.emod_lt_of_pos _ h
theorem aI_le (es : List PV) (a : Int) : a ≤ aI es a ∧ aI es a ≤ a + 1 := by unfold aI; split <;> omega
abbrev T3 := Int × Int × Int
/-- One more point: where the numbers go on, and the next point. -/
def gstep (L : List PV) (s : T3) : T3 :=
  if dI L s.1 2 = 0 then (aI L (aI L s.1), Int.tmod (s.2.1 + 1 + dI L (aI L s.1) 12) 13, s.2.2)
  else (aI L (aI L (aI L s.1)), dI L (aI L s.1) 13, Int.tmod (s.2.2 + 1 + dI L (aI L (aI L s.1)) 12) 13)
def giter (L : List PV) : Nat → T3 → T3
  | 0, s => s
  | m + 1, s => giter L m (gstep L s)
def glist (L : List PV) : Nat → T3 → List PV
  | 0, _ => []
  | m + 1, s => ptv s.2.1 s.2.2 :: glist L m (gstep L s)
theorem glist_len (L : List PV) : ∀ (m : Nat) (s : T3), (glist L m s).length = m
  | 0, _ => rfl
  | m + 1, s => by simp [glist, glist_len L m]
def sp (s : T3) : Prop := (0 ≤ s.2.1 ∧ s.2.1 < 13) ∧ (0 ≤ s.2.2 ∧ s.2.2 < 13)
theorem gstep_sp {L : List PV} {s : T3} (h : sp s) : sp (gstep L s) := by
  obtain ⟨⟨h1, h2⟩, h3, h4⟩ := h
  unfold gstep
  have d1 := dI_ge L (aI L s.1) (n := 12) (by omega)
  have d2 := dI_ge L (aI L (aI L s.1)) (n := 12) (by omega)
  have d3 := dI_ge L (aI L s.1) (n := 13) (by omega)
  have d4 := dI_lt L (aI L s.1) (n := 13) (by omega)
  split
  · exact ⟨⟨Int.tmod_nonneg _ (by omega), Int.tmod_lt_of_pos _ (by omega)⟩, h3, h4⟩
  · exact ⟨⟨d3, d4⟩, Int.tmod_nonneg _ (by omega), Int.tmod_lt_of_pos _ (by omega)⟩
theorem gstep_at (L : List PV) (s : T3) : s.1 ≤ (gstep L s).1 ∧ (gstep L s).1 ≤ s.1 + 3 := by
  have h1 := aI_le L s.1
  have h2 := aI_le L (aI L s.1)
  have h3 := aI_le L (aI L (aI L s.1))
  unfold gstep
  split
  · show s.1 ≤ aI L (aI L s.1) ∧ aI L (aI L s.1) ≤ s.1 + 3; omega
  · show s.1 ≤ aI L (aI L (aI L s.1)) ∧ aI L (aI L (aI L s.1)) ≤ s.1 + 3; omega
theorem giter_at (L : List PV) : ∀ (m : Nat) (s : T3), s.1 ≤ (giter L m s).1 ∧ (giter L m s).1 ≤ s.1 + 3 * m
  | 0, s => by simp [giter]
  | m + 1, s => by
    have h1 := gstep_at L s
    have h2 := giter_at L m (gstep L s)
    simp only [giter]
    omega
def pG5 : LS → Bool
  | ([.i many, .n n, .n l, .i k], [.l _ _, .i a, .i x, .i y, .l _ es]) => decide (0 ≤ k) && decide (k ≤ many) && decide (many ≤ 6) && decide (n = es.length) && decide (l = n) && decide ((n : Int) ≤ k) && (decide (0 ≤ a) && decide (a ≤ 3 + 3 * k)) && (decide (0 ≤ x) && decide (x < 13) && (decide (0 ≤ y) && decide (y < 13)))
  | _ => false
noncomputable def fG5 : LS → DT (PX × List PV × List Row)
  | ([.i many, .n n, .n _, .i k], [.l f L, .i a, .i x, .i y, .l nl es]) => .leaf (.exit 0, tm 64 [(3, .ptr 0 1 0 0), (4, iv many), (5, .sl 2 (n + (many - k).toNat) 0 (n + (many - k).toNat))],
      hG f L (giter L (many - k).toNat (a, x, y)).1 (giter L (many - k).toNat (a, x, y)).2.1 (giter L (many - k).toNat (a, x, y)).2.2 (nl && decide ((many - k).toNat = 0)) (es ++ glist L (many - k).toNat (a, x, y)))
  | _ => .no
def mG5 : LS → Nat
  | ([.i many, .n _, .n _, .i k], [.l _ _, .i _, .i _, .i _, .l _ _]) => (many - k).toNat
  | _ => 0
theorem sG5 : ∀ s r, pG5 s = true → (fG5 s).run = some r → r.1 ≠ .normal ∧ (runB Try.prog E42 60 69 (lpb Try.f69 6) [3, 4, 5, 6, 7] [3, 4, 5] (shG.put s).1 (shG.put s).2 = some r ∨
      ∃ s', runB Try.prog E42 60 69 (lpb Try.f69 6) [3, 4, 5, 6, 7] [3, 4, 5] (shG.put s).1 (shG.put s).2 = some (.normal, shG.put s') ∧ pG5 s' = true ∧ mG5 s' < mG5 s ∧ (fG5 s').run = some r) := by
  intro s r hp hr
  unfold pG5 at hp; split at hp
  · rename_i many n l k f L a x y nl es
    simp only [Bool.and_eq_true, decide_eq_true_eq] at hp
    obtain ⟨⟨⟨⟨⟨⟨⟨h1, h2⟩, h3⟩, h4⟩, h5⟩, h6⟩, h7, h8⟩, ⟨h9, h10⟩, h11, h12⟩ := hp
    have hr' := (Option.some.inj hr).symm
    refine ⟨by rw [hr']; simp, ?_⟩
    rw [qG]
    subst h4 h5
    by_cases hi : k < many
    · have hw := W_id (n := k + 1) (by omega) (by omega)
      have hroom : room es es.length es.length = true := by unfold room; simp; omega
      have a1 := aI_le L a
      have a2 := aI_le L (aI L a)
      have a3 := aI_le L (aI L (aI L a))
      have d1 := dI_ge L (aI L a) (n := 12) (by omega)
      have d1' := dI_lt L (aI L a) (n := 12) (by omega)
      have d2 := dI_ge L (aI L (aI L a)) (n := 12) (by omega)
      have d2' := dI_lt L (aI L (aI L a)) (n := 12) (by omega)
      have d3 := dI_ge L (aI L a) (n := 13) (by omega)
      have d3' := dI_lt L (aI L a) (n := 13) (by omega)
      have ok : ∀ {b n : Int}, 0 ≤ b → b ≤ 1000 → 0 < n → n ≤ 1000 → okA b n = true := fun g1 g2 g3 g4 => by unfold okA; simp; omega
      have w1 : W (W (x + 1) + dI L (aI L a) 12) = x + 1 + dI L (aI L a) 12 := by rw [W_id (n := x + 1) (by omega) (by omega), W_id (by omega) (by omega)]
      have w2 : W (W (y + 1) + dI L (aI L (aI L a)) 12) = y + 1 + dI L (aI L (aI L a)) 12 := by rw [W_id (n := y + 1) (by omega) (by omega), W_id (by omega) (by omega)]
      rw [decide_eq_true hi, cond_true, hroom, hw, w1, w2, ok h7 (by omega) (by omega) (by omega), ok (b := aI L a) (n := 12) (by omega) (by omega) (by omega) (by omega), ok (b := aI L a) (n := 13) (by omega) (by omega) (by omega) (by omega), ok (b := aI L (aI L a)) (n := 12) (by omega) (by omega) (by omega) (by omega)]
      simp only [cond_true, Bool.and_false]
      obtain ⟨m, hm⟩ : ∃ m, (many - k).toNat = m + 1 := ⟨(many - k).toNat - 1, by omega⟩
      have hm2 : (many - (k + 1)).toNat = m := by omega
      have hg : gstep L (a, x, y) = bif dI L a 2 == 0 then (aI L (aI L a), Int.tmod (x + 1 + dI L (aI L a) 12) 13, y) else (aI L (aI L (aI L a)), dI L (aI L a) 13, Int.tmod (y + 1 + dI L (aI L (aI L a)) 12) 13) := by
        unfold gstep
        by_cases h0 : dI L a 2 = 0
        · rw [if_pos h0, show (dI L a 2 == 0) = true by simpa using h0]; rfl
        · rw [if_neg h0, show (dI L a 2 == 0) = false by simpa using h0]; rfl
      rw [hm] at hr'
      simp only [giter, glist, hg] at hr'
      right
      have t1 : ∀ z : Int, 0 ≤ z → 0 ≤ Int.tmod z 13 ∧ Int.tmod z 13 < 13 := fun z hz => ⟨Int.tmod_nonneg _ hz, Int.tmod_lt_of_pos _ (by omega)⟩
      have e1 := t1 (x + 1 + dI L (aI L a) 12) (by omega)
      have e2 := t1 (y + 1 + dI L (aI L (aI L a)) 12) (by omega)
      cases h0 : dI L a 2 == 0 with
      | true =>
        rw [h0] at hr'
        simp only [cond_true] at hr' ⊢
        refine ⟨lG many (es.length + 1) (es.length + 1) (k + 1) f L (aI L (aI L a)) (Int.tmod (x + 1 + dI L (aI L a) 12) 13) y false (es ++ [ptv x y]), rfl, by simp [pG5]; omega, by simp only [mG5]; omega, ?_⟩
        rw [hr']
        simp only [fG5, hm2, List.append_assoc, List.cons_append, List.nil_append, Bool.false_and]
        rw [show es.length + 1 + m = es.length + (m + 1) by omega]
        simp [DT.run]
      | false =>
        rw [h0] at hr'
        simp only [cond_false] at hr' ⊢
        refine ⟨lG many (es.length + 1) (es.length + 1) (k + 1) f L (aI L (aI L (aI L a))) (dI L (aI L a) 13) (Int.tmod (y + 1 + dI L (aI L (aI L a)) 12) 13) false (es ++ [ptv x y]), rfl, by simp [pG5]; omega, by simp only [mG5]; omega, ?_⟩
        rw [hr']
        simp only [fG5, hm2, List.append_assoc, List.cons_append, List.nil_append, Bool.false_and]
        rw [show es.length + 1 + m = es.length + (m + 1) by omega]
        simp [DT.run]
    · rw [decide_eq_false hi]
      rw [show (many - k).toNat = 0 by omega] at hr'
      exact .inl (by rw [hr']; simp [giter, glist])
  · cases hp
noncomputable def E42a : EnvK := E42.addW 69 6 [3, 4, 5, 6, 7] [] shG pG5 fG5
theorem ok42a : EnvOK Try.prog E42a.env :=
  ok42.addW (n := 60) Try.func69 (show Try.f69.body = some (bod Try.f69) by kernel_rfl) (show (loops (bod Try.f69)).filter (fun b => rid b == 6) = [lpb Try.f69 6] by kernel_rfl) [3, 4, 5, 6, 7] [3, 4, 5] [] shG mG5 sG5
end Go.Hg
/- Geometry: contracts: made lists of points, their value. -/
namespace Go.Hg
open Go.Hx Go.Proofs
def m5W (L : List PV) : Int := W (2 + dI L 0 5)
def s05 (L : List PV) : T3 := (aI L (aI L (aI L 0)), dI L (aI L 0) 13, dI L (aI L (aI L 0)) 13)
def g5W (L : List PV) : List PV := glist L (m5W L - 0).toNat (s05 L)
def e5W (L : List PV) : Int := (giter L (m5W L - 0).toNat (s05 L)).1
def r5 (g : List PV) (N : Nat) : Option PV := bif g.length == N then some (.lst false 23 ((g.drop 0).take N)) else none
def st5 (g : List PV) (m : Int) (N : Nat) : Option PV :=
  bif (g.length == N) && true then bif decide (0 < (N : Int)) then bif g.length == N then bif (g.length == N) && true then bif decide (0 ≤ W (m - 1)) && decide (W (m - 1) < (N : Int)) then
    bif (g.length == N) && true && true && true then r5 (g.set (0 + (W (m - 1)).toNat) (qp g 0)) N else none else none else none else none else none else none
theorem qMade5 (f : Bool) (L : List PV) : runP Try.prog E42a 60 69 [.lst f 3 L] =
  bif okA (aI L 0) 13 then bif okA (aI L (aI L 0)) 13 then bif pG5 (lG (m5W L) 0 0 0 f L (s05 L).1 (s05 L).2.1 (s05 L).2.2 true []) then
    bif decide (m5W L > 3) then bif okA (e5W L) 3 then bif dI L (e5W L) 3 == 0 then st5 (g5W L) (m5W L) (0 + (m5W L - 0).toNat) else r5 (g5W L) (0 + (m5W L - 0).toNat) else none
    else r5 (g5W L) (0 + (m5W L - 0).toNat) else none else none else none := by kernel_rfl
def mn5 (L : List PV) : Nat := 2 + (dI L 0 5).toNat
def g5 (L : List PV) : List PV := glist L (mn5 L) (s05 L)
def shut5 (L : List PV) : Bool := decide (mn5 L > 3) && (dI L (giter L (mn5 L) (s05 L)).1 3 == 0)
/-- The points of a made list. -/
def made5 (L : List PV) : List PV := bif shut5 L then (g5 L).set (mn5 L - 1) (qp (g5 L) 0) else g5 L
theorem mn5_le (L : List PV) : 2 ≤ mn5 L ∧ mn5 L ≤ 6 := by
  have h1 := dI_ge L 0 (n := 5) (by omega)
  have h2 := dI_lt L 0 (n := 5) (by omega)
  unfold mn5; omega
theorem qMade5' (f : Bool) (L : List PV) : runP Try.prog E42a 60 69 [.lst f 3 L] = some (.lst false 23 (made5 L)) := by
  rw [qMade5]
  have h1 := dI_ge L 0 (n := 5) (by omega)
  have h2 := dI_lt L 0 (n := 5) (by omega)
  have hn := mn5_le L
  have a1 := aI_le L 0
  have a2 := aI_le L (aI L 0)
  have a3 := aI_le L (aI L (aI L 0))
  have d1 := dI_ge L (aI L 0) (n := 13) (by omega)
  have d1' := dI_lt L (aI L 0) (n := 13) (by omega)
  have d2 := dI_ge L (aI L (aI L 0)) (n := 13) (by omega)
  have d2' := dI_lt L (aI L (aI L 0)) (n := 13) (by omega)
  have ok : ∀ {b n : Int}, 0 ≤ b → b ≤ 1000 → 0 < n → n ≤ 1000 → okA b n = true := fun g1 g2 g3 g4 => by unfold okA; simp; omega
  have hm : m5W L = (mn5 L : Int) := by unfold m5W mn5; rw [W_id (by omega) (by omega)]; omega
  have hN : 0 + (m5W L - 0).toNat = mn5 L := by omega
  have hN' : (m5W L - 0).toNat = mn5 L := by omega
  have hg : g5W L = g5 L := by unfold g5W g5; rw [hN']
  have he : e5W L = (giter L (mn5 L) (s05 L)).1 := by unfold e5W; rw [hN']
  have hl : (g5 L).length = mn5 L := glist_len L _ _
  have hat := giter_at L (mn5 L) (s05 L)
  have hs : (s05 L).1 = aI L (aI L (aI L 0)) := rfl
  have hp : pG5 (lG (m5W L) 0 0 0 f L (s05 L).1 (s05 L).2.1 (s05 L).2.2 true []) = true := by
    rw [hm]
    show pG5 ([.i (mn5 L : Int), .n 0, .n 0, .i 0], [.l f L, .i (aI L (aI L (aI L 0))), .i (dI L (aI L 0) 13), .i (dI L (aI L (aI L 0)) 13), .l true []]) = true
    simp only [pG5, Bool.and_eq_true, decide_eq_true_eq, List.length_nil]
    refine ⟨⟨⟨⟨⟨⟨⟨?_, ?_⟩, ?_⟩, ?_⟩, ?_⟩, ?_⟩, ?_, ?_⟩, ⟨?_, ?_⟩, ?_, ?_⟩ <;> first | trivial | omega
  have r5_eq : ∀ g : List PV, g.length = mn5 L → r5 g (mn5 L) = some (.lst false 23 g) := by
    intro g h
    unfold r5
    rw [h, List.drop_zero, ← h, List.take_length]
    simp
  rw [ok (b := aI L 0) (n := 13) (by omega) (by omega) (by omega) (by omega), ok (b := aI L (aI L 0)) (n := 13) (by omega) (by omega) (by omega) (by omega), hp, he, hN, hg, ok (b := (giter L (mn5 L) (s05 L)).1) (n := 3) (by omega) (by omega) (by omega) (by omega)]
  simp only [cond_true]
  rw [r5_eq _ hl]
  unfold made5 shut5
  by_cases h3 : mn5 L > 3
  · rw [show decide (m5W L > 3) = true by simp; omega, show decide (mn5 L > 3) = true by simp; omega]
    cases hc : dI L (giter L (mn5 L) (s05 L)).1 3 == 0 with
    | false => rfl
    | true =>
      simp only [cond_true, Bool.and_self]
      unfold st5
      have hw : W (m5W L - 1) = (mn5 L : Int) - 1 := by rw [hm, W_id (by omega) (by omega)]
      rw [hl, hw, show ((mn5 L == mn5 L) && true) = true by simp, show (mn5 L == mn5 L) = true by simp, show decide (0 < (mn5 L : Int)) = true by simp; omega, show (decide (0 ≤ (mn5 L : Int) - 1) && decide ((mn5 L : Int) - 1 < (mn5 L : Int))) = true by simp; omega]
      simp only [cond_true, Bool.and_self]
      rw [show 0 + ((mn5 L : Int) - 1).toNat = mn5 L - 1 by omega]
      exact r5_eq _ (by rw [List.length_set]; exact hl)
  · rw [show decide (m5W L > 3) = false by simp; omega, show decide (mn5 L > 3) = false by simp; omega]
    rfl
theorem made5_len (L : List PV) : 2 ≤ (made5 L).length ∧ (made5 L).length ≤ 6 := by
  have hn := mn5_le L
  have hl : (g5 L).length = mn5 L := glist_len L _ _
  unfold made5
  cases shut5 L <;> simp only [cond_true, cond_false, List.length_set] <;> omega
def cMade5 : List PV → Option PV | [.lst _ 3 L] => some (.lst false 23 (made5 L)) | _ => none
theorem oMade5 (args : List PV) (r : PV) (h : cMade5 args = some r) : Enters Try.prog 69 ∧ PCall Try.prog 69 args r := by
  unfold cMade5 at h; split at h
  · rename_i f L; cases h; exact runP_sound ok42a (qMade5' f L)
  · cases h
noncomputable def E43 : EnvK := E41.addO 69 cMade5
theorem ok43 : EnvOK Try.prog E43.env := ok41.addO oMade5
end Go.Hg
/- Geometry: the sanity of chapter 05. -/
namespace Go.Hg
open Go.Hx Go.Proofs
noncomputable def E44 : EnvK := (E43.addK 119).addK 149
theorem ok44 : EnvOK Try.prog E44.env := (ok43.addK 119).addK 149
theorem qSan5 : runP Try.prog E44 100 68 [] = some (bv true) := by kernel_rfl
end Go.Hg
/- Geometry: LineWithins answers true. -/
namespace Go.Hg
open Go.Hx Go.Proofs
def cSan5 : List PV → Option PV | [] => some (bv true) | _ => none
theorem oSan5 (args : List PV) (r : PV) (h : cSan5 args = some r) : Enters Try.prog 68 ∧ PCall Try.prog 68 args r := by
  unfold cSan5 at h; split at h
  · cases h; exact runP_sound ok44 (n := 100) qSan5
  · cases h
noncomputable def E45 : EnvK := E44.addO 68 cSan5
theorem ok45 : EnvOK Try.prog E45.env := ok44.addO oSan5
def mn8 (es : List PV) : Int := if 8 < ((es.length : Nat) : Int) then 8 else ((es.length : Nat) : Int)
def few (es : List PV) : List PV := es.take (mn8 es).toNat
def cFew : List PV → Option PV | [.lst f 23 es] => some (.lst (f && false) 23 (few es)) | _ => none
theorem qFew (f : Bool) (es : List PV) : runP Try.prog E44 60 73 [.lst f 23 es] = bif decide (0 ≤ mn8 es) && decide (mn8 es ≤ (es.length : Int)) then some (.lst (f && false) 23 (few es)) else none := by kernel_rfl
theorem mn8_ok (es : List PV) : (decide (0 ≤ mn8 es) && decide (mn8 es ≤ ((es.length : Nat) : Int))) = true := by unfold mn8; simp; split <;> omega
theorem few_len (es : List PV) : (few es).length ≤ 8 := by unfold few mn8; rw [List.length_take]; split <;> omega
theorem oFew (args : List PV) (r : PV) (h : cFew args = some r) : Enters Try.prog 73 ∧ PCall Try.prog 73 args r := by
  unfold cFew at h; split at h
  · rename_i f es; cases h; exact runP_sound ok44 (n := 60) (by rw [qFew, mn8_ok]; rfl)
  · cases h
noncomputable def E46 : EnvK := E45.addO 73 cFew
theorem ok46 : EnvOK Try.prog E46.env := ok45.addO oFew
def wi (es : List PV) (x y n : Int) (k : Option PV) : Option PV := bif big es then bif big es then bif wit es x y n != wit es x y n then some (bv false) else k else none else none
def wi4 (A R : List PV) (x y n : Int) (k : Option PV) : Option PV := wi A (Int.tmod x 20) (Int.tmod y 20) n (wi A x y n (wi (few R) x y n (wi (few R) (Int.tmod x 20) (Int.tmod y 20) n k)))
theorem q17 (f g : Bool) (L R : List PV) (x y n : Int) : runP Try.prog E46 100 16 [.lst f 3 L, .lst g 23 R, .agg [iv x, iv y, iv n]] =
  wi4 (made5 L) R x y n (wi4 (made5 L) R x y (Int.tmod n 2000) (some (bv true))) := by kernel_rfl
theorem wi_eq {es : List PV} (h : es.length ≤ 1000000) (x y n : Int) (k : Option PV) : wi es x y n k = k := by
  unfold wi; rw [show big es = true by simpa using h]; simp
theorem law17 (f g : Bool) (L R : List PV) (x y n : Int) : Enters Try.prog 16 ∧ PCall Try.prog 16 [.lst f 3 L, .lst g 23 R, .agg [iv x, iv y, iv n]] (bv true) := by
  refine runP_sound ok46 (n := 100) ?_
  have h1 := (made5_len L).2
  have h2 := few_len R
  have h3 : (made5 L).length ≤ 1000000 := by omega
  have h4 : (few R).length ≤ 1000000 := by omega
  rw [q17]
  unfold wi4
  simp only [wi_eq h3, wi_eq h4]
end Go.Hg
/- Geometry: the frames of the laws: their arguments. -/
namespace Go.Proofs.Ytneklpbkfmljfaa
open Go.ChangeShapes Go.WideShapes Go.ChangeAt Go.RowKit Go.Hx Go.Hg

theorem own : ownKnob Try.prog.godebug = none := by kernel_rfl
theorem laidOut : laidOutB Try.prog = true := by kernel_rfl
theorem wt_nil {ps : List PV} (h : wtcs [] ps = true) : ps = [] := by
  cases ps with
  | nil => rfl
  | cons p ps => simp [wtcs] at h
theorem wtc_int {k : IntKind} {p : PV} (h : wtc (.int k) p = true) : ∃ n, p = .val (.int k n) := by
  cases p with
  | val v => cases v <;> simp_all [wtc]
  | lst f t es => simp_all [wtc]
  | _ => simp [wtc] at h
theorem wt_int {k : IntKind} {ks : List Kind} {ps : List PV} (h : wtcs ((.int k) :: ks) ps = true) : ∃ n qs, ps = .val (.int k n) :: qs ∧ wtcs ks qs = true := by
  cases ps with
  | nil => simp [wtcs] at h
  | cons p ps =>
    simp only [wtcs, Bool.and_eq_true] at h
    obtain ⟨n, rfl⟩ := wtc_int h.1
    exact ⟨n, ps, rfl, h.2⟩
theorem wtc_bool {p : PV} (h : wtc (.bool) p = true) : ∃ b, p = .val (.bool b) := by
  cases p with
  | val v => cases v <;> simp_all [wtc]
  | lst f t es => simp_all [wtc]
  | _ => simp [wtc] at h
theorem wt_bool {ks : List Kind} {ps : List PV} (h : wtcs ((.bool) :: ks) ps = true) : ∃ b qs, ps = .val (.bool b) :: qs ∧ wtcs ks qs = true := by
  cases ps with
  | nil => simp [wtcs] at h
  | cons p ps =>
    simp only [wtcs, Bool.and_eq_true] at h
    obtain ⟨b, rfl⟩ := wtc_bool h.1
    exact ⟨b, ps, rfl, h.2⟩
theorem wtc_str {p : PV} (h : wtc (.str) p = true) : ∃ s, p = .val (.string s) := by
  cases p with
  | val v => cases v <;> simp_all [wtc]
  | lst f t es => simp_all [wtc]
  | _ => simp [wtc] at h
theorem wt_str {ks : List Kind} {ps : List PV} (h : wtcs ((.str) :: ks) ps = true) : ∃ s qs, ps = .val (.string s) :: qs ∧ wtcs ks qs = true := by
  cases ps with
  | nil => simp [wtcs] at h
  | cons p ps =>
    simp only [wtcs, Bool.and_eq_true] at h
    obtain ⟨s, rfl⟩ := wtc_str h.1
    exact ⟨s, ps, rfl, h.2⟩
theorem wtc_sl {e : TypeId} {p : PV} (h : wtc (.sl e) p = true) : ∃ f es, p = .lst f e es := by
  cases p with
  | val v => cases v <;> simp [wtc] at h
  | lst f t es =>
    have : e = t := by simpa [wtc] using h
    subst this
    exact ⟨f, es, rfl⟩
  | _ => simp [wtc] at h
theorem wt_sl {e : TypeId} {ks : List Kind} {ps : List PV} (h : wtcs (.sl e :: ks) ps = true) : ∃ f es qs, ps = .lst f e es :: qs ∧ wtcs ks qs = true := by
  cases ps with
  | nil => simp [wtcs] at h
  | cons p ps =>
    simp only [wtcs, Bool.and_eq_true] at h
    obtain ⟨f, es, rfl⟩ := wtc_sl h.1
    exact ⟨f, es, ps, rfl, h.2⟩
theorem fit_i64 {n : Int} (h : Fit (.val (.int .i64 n))) : -9223372036854775808 ≤ n ∧ n ≤ 9223372036854775807 := by
  cases h with
  | int h => exact bounds_i64 h
theorem fit_u8 {n : Int} (h : Fit (.val (.int .u8 n))) : 0 ≤ n ∧ n ≤ 255 := by
  cases h with
  | int h => exact bounds_u8 h
theorem fit_u16 {n : Int} (h : Fit (.val (.int .u16 n))) : 0 ≤ n ∧ n ≤ 65535 := by
  cases h with
  | int h => exact bounds_u16 h
theorem rv_agg {t : TypeId} {ps : List PV} {W : World} {v : Value} (h : RV Try.prog (Ctx.of W) (mkE Try.prog t ps) v) (ha : isAggT Try.prog t = true) : RV Try.prog (Ctx.of W) (.agg ps) v := by
  unfold mkE at h
  rwa [if_pos ha] at h
theorem rv_one {t : TypeId} {p : PV} {W : World} {v : Value} (h : RV Try.prog (Ctx.of W) (mkE Try.prog t [p]) v) (ha : isAggT Try.prog t = false) : RV Try.prog (Ctx.of W) p v := by
  unfold mkE at h
  rwa [if_neg (by simp [ha])] at h
theorem cs_one {W : World} {p : PV} {v : Value} (h1 : RV Try.prog (Ctx.of W) p v) : Cs Try.prog (Ctx.of W) [p] #[v] := by
  refine ⟨rfl, fun j c x a b => ?_⟩
  match j with
  | 0 => simp at a b; subst a; subst b; exact h1
  | j + 1 => simp at a
theorem cs_four {W : World} {p q s t : PV} {v u x y : Value} (h1 : RV Try.prog (Ctx.of W) p v) (h2 : RV Try.prog (Ctx.of W) q u) (h3 : RV Try.prog (Ctx.of W) s x) (h4 : RV Try.prog (Ctx.of W) t y) : Cs Try.prog (Ctx.of W) [p, q, s, t] #[v, u, x, y] := by
  refine ⟨rfl, fun j c z a b => ?_⟩
  match j with
  | 0 => simp at a b; subst a; subst b; exact h1
  | 1 => simp at a b; subst a; subst b; exact h2
  | 2 => simp at a b; subst a; subst b; exact h3
  | 3 => simp at a b; subst a; subst b; exact h4
  | j + 4 => simp at a
theorem cs_two {W : World} {p q : PV} {v u : Value} (h1 : RV Try.prog (Ctx.of W) p v) (h2 : RV Try.prog (Ctx.of W) q u) : Cs Try.prog (Ctx.of W) [p, q] #[v, u] := by
  refine ⟨rfl, fun j c x a b => ?_⟩
  match j with
  | 0 => simp at a b; subst a; subst b; exact h1
  | 1 => simp at a b; subst a; subst b; exact h2
  | j + 2 => simp at a
theorem cs_three {W : World} {p q s : PV} {v u x : Value} (h1 : RV Try.prog (Ctx.of W) p v) (h2 : RV Try.prog (Ctx.of W) q u) (h3 : RV Try.prog (Ctx.of W) s x) : Cs Try.prog (Ctx.of W) [p, q, s] #[v, u, x] := by
  refine ⟨rfl, fun j c y a b => ?_⟩
  match j with
  | 0 => simp at a b; subst a; subst b; exact h1
  | 1 => simp at a b; subst a; subst b; exact h2
  | 2 => simp at a b; subst a; subst b; exact h3
  | j + 3 => simp at a
end Go.Proofs.Ytneklpbkfmljfaa
