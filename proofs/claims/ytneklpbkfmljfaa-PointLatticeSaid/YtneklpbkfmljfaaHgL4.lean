/- Geometry: PointLattice: its loops. -/
import Derived.Test.YtneklpbkfmljfaaHgT3
namespace Go.Hg
open Go.Hx Go.Proofs
noncomputable def E24 : EnvK := E21.addL 4 4 [1, 3, 4, 15, 16] (fun _ _ _ => none)
theorem ok24 : EnvOK Try.prog E24.env :=
  ok21.addL Try.func4 (show Try.f4.body = some (bod Try.f4) by kernel_rfl) (show (loops (bod Try.f4)).filter (fun b => rid b == 4) = [lpb Try.f4 4] by kernel_rfl) (fun _ => noL)
structure R8 where
  a : Int
  b : Int
  c : Int
  d : Int
  e : Int
  f : Int
  g : Int
  h : Int
abbrev pv8 (r : R8) : PV := .agg [iv r.a, iv r.b, iv r.c, iv r.d, iv r.e, iv r.f, iv r.g, iv r.h]
abbrev H4 (q r : R8) : List Row := [r1 24 8 (pv8 q), r1 24 8 (pv8 r)]
abbrev S4 (hd : Bool) (n i k : Int) : List PV := tm 142 [(3, bv hd), (4, .ptr 1 1 0 0), (7, iv n), (8, iv i), (9, iv k)]
abbrev T4 (hd : Bool) (n i : Int) : List PV := tm 142 [(3, bv hd), (4, .ptr 1 1 0 0), (7, iv n), (8, iv i)]
abbrev U4 (hd : Bool) (n : Int) : List PV := tm 142 [(3, bv hd), (4, .ptr 1 1 0 0), (7, iv n)]
def one4 (r : R8) (i k : Int) : Bool := onX r.a r.b r.c r.d i k
def both (r : R8) (i k : Int) : Bool := onX r.a r.b r.c r.d i k && onX r.e r.f r.g r.h i k
def dbl4 (r : R8) (i k : Int) : Bool := onX (W (2 * r.a)) (W (2 * r.b)) (W (2 * r.c)) (W (2 * r.d)) (W (2 * i)) (W (2 * k))
def c4 (r : R8) (i k : Int) (x y : Option (PX × List PV × List Row)) : Option (PX × List PV × List Row) := bif !(one4 r i k == dbl4 r i k) then x else bif !(one4 r i k == (mt r.a r.b r.c r.d i k i k == 1)) then x else y
theorem q4i (hd : Bool) (n i k : Int) (q r : R8) : runB Try.prog E24 60 4 (lpb Try.f4 13) [3, 4, 7, 8, 9] [3, 4, 7, 8] (S4 hd n i k) (H4 q r) =
  bif decide (k ≤ 12) then
    bif onX r.a r.b r.c r.d i k then
      bif onX r.e r.f r.g r.h i k then c4 r i k (some (.ret, T4 hd (W (n + 1)) i, H4 q r)) (some (.normal, S4 hd (W (n + 1)) i (W (k + 1)), H4 q r))
      else c4 r i k (some (.ret, T4 hd n i, H4 q r)) (some (.normal, S4 hd n i (W (k + 1)), H4 q r))
    else c4 r i k (some (.ret, T4 hd n i, H4 q r)) (some (.normal, S4 hd n i (W (k + 1)), H4 q r))
  else some (.exit 4, T4 hd n i, H4 q r) := by kernel_rfl
structure M4 where
  hd : Bool
  n : Int
  i : Int
  k : Int
  q : R8
  r : R8
def e4i (s : M4) : List PV × List Row := (S4 s.hd s.n s.i s.k, H4 s.q s.r)
def st4i : St := ⟨142, [(3, .cell .bool), (4, .ptr 1 1 0 0), (7, i64), (8, i64), (9, i64)], [.one 24 8 (i64s 8), .one 24 8 (i64s 8)]⟩
def d4i : List Lf → List Lf → Option M4
  | [.b hd, .i n, .i i, .i k], [.i a, .i b, .i c, .i d, .i e, .i f, .i g, .i h, .i a', .i b', .i c', .i d', .i e', .i f', .i g', .i h'] => some ⟨hd, n, i, k, ⟨a, b, c, d, e, f, g, h⟩, ⟨a', b', c', d', e', f', g', h'⟩⟩
  | _, _ => none
theorem g4i : ∀ x y s, d4i x y = some s → st4i.get (e4i s).1 (e4i s).2 = some (x, y) := by
  intro x y s h; unfold d4i at h; split at h
  · cases h; kernel_rfl
  · cases h
/-- How many of n, from j on. -/
def cnt (p : Int → Bool) : Nat → Int → Int
  | 0, _ => 0
  | n + 1, j => (bif p j then 1 else 0) + cnt p n (j + 1)
theorem cnt_range (p : Int → Bool) : ∀ (n : Nat) (j : Int), 0 ≤ cnt p n j ∧ cnt p n j ≤ n
  | 0, _ => ⟨by simp [cnt], by simp [cnt]⟩
  | n + 1, j => by
    have := cnt_range p n (j + 1)
    simp only [cnt]
    cases p j <;> simp only [cond_true, cond_false] <;> omega
def sm8 (r : R8) : Bool := inB2 12 r.a r.b && inB2 12 r.c r.d && inB2 12 r.e r.f && inB2 12 r.g r.h
theorem sm_bd {a b : Int} (h : inB2 12 a b = true) : bd a b ∧ bd (2 * a) (2 * b) ∧ (-12 ≤ a ∧ a ≤ 12) ∧ (-12 ≤ b ∧ b ≤ 12) := by
  have := inB2_iff.1 h; unfold bd; omega
theorem c4_go {r : R8} {i k : Int} (hr : sm8 r = true) (hi : -12 ≤ i ∧ i ≤ 12) (hk : -12 ≤ k ∧ k ≤ 12) (x y : Option (PX × List PV × List Row)) : c4 r i k x y = y := by
  unfold sm8 at hr
  simp only [Bool.and_eq_true] at hr
  obtain ⟨⟨⟨h1, h2⟩, _⟩, _⟩ := hr
  obtain ⟨b1, k1, r1, r2⟩ := sm_bd h1
  obtain ⟨b2, k2, r3, r4⟩ := sm_bd h2
  have b3 : bd i k := by unfold bd; omega
  have k3 : bd (2 * i) (2 * k) := by unfold bd; omega
  have e1 : dbl4 r i k = one4 r i k := by
    unfold dbl4 one4
    rw [W_id (n := 2 * r.a) (by omega) (by omega), W_id (n := 2 * r.b) (by omega) (by omega), W_id (n := 2 * r.c) (by omega) (by omega), W_id (n := 2 * r.d) (by omega) (by omega), W_id (n := 2 * i) (by omega) (by omega), W_id (n := 2 * k) (by omega) (by omega)]
    exact on_twice b1 b2 b3 k1 k2 k3
  unfold c4
  rw [e1, mt_on]
  unfold one4
  simp
def n4i (s : M4) : Nat := (13 - s.k).toNat
def p4i (s : M4) : Bool := sm8 s.r && (decide (-12 ≤ s.i) && decide (s.i ≤ 12)) && decide (-12 ≤ s.k) && (decide (0 ≤ s.n) && decide (s.n ≤ 100000 + s.k))
def f4i (s : M4) : DT (PX × List PV × List Row) := .leaf (.exit 4, T4 s.hd (s.n + cnt (both s.r s.i) (n4i s) s.k) s.i, H4 s.q s.r)
theorem step4i (s : M4) (r : PX × List PV × List Row) (hp : p4i s = true) (hr : (f4i s).run = some r) :
    r.1 ≠ .normal ∧ (runB Try.prog E24 60 4 (lpb Try.f4 13) [3, 4, 7, 8, 9] [3, 4, 7, 8] (e4i s).1 (e4i s).2 = some r ∨
      ∃ s', runB Try.prog E24 60 4 (lpb Try.f4 13) [3, 4, 7, 8, 9] [3, 4, 7, 8] (e4i s).1 (e4i s).2 = some (.normal, e4i s') ∧ p4i s' = true ∧ n4i s' < n4i s ∧ (f4i s').run = some r) := by
  obtain ⟨hd, n, i, k, q, x⟩ := s
  obtain rfl := Option.some.inj hr
  simp only [p4i, Bool.and_eq_true, decide_eq_true_eq] at hp
  obtain ⟨⟨⟨hs, hi⟩, hk⟩, hn⟩ := hp
  refine ⟨by simp, ?_⟩
  unfold e4i
  dsimp only
  rw [q4i]
  by_cases h : k ≤ 12
  · right
    have e : (13 - k).toNat = (13 - (k + 1)).toNat + 1 := by omega
    rw [decide_eq_true h, c4_go hs hi ⟨hk, h⟩, c4_go hs hi ⟨hk, h⟩, W_id (n := n + 1) (by omega) (by omega), W_id (n := k + 1) (by omega) (by omega)]
    cases h1 : onX x.a x.b x.c x.d i k && onX x.e x.f x.g x.h i k with
    | true =>
      refine ⟨⟨hd, n + 1, i, k + 1, q, x⟩, ?_, ?_, ?_, ?_⟩
      · rw [Bool.and_eq_true] at h1
        rw [h1.1, h1.2]; rfl
      · simp only [p4i, Bool.and_eq_true, decide_eq_true_eq]; exact ⟨⟨⟨hs, hi⟩, by omega⟩, by omega, by omega⟩
      · show (13 - (k + 1)).toNat < (13 - k).toNat; omega
      · show some (PX.exit 4, T4 hd (n + 1 + cnt (both x i) (13 - (k + 1)).toNat (k + 1)) i, H4 q x) = some (PX.exit 4, T4 hd (n + cnt (both x i) (13 - k).toNat k) i, H4 q x)
        rw [e]
        simp only [cnt]
        rw [show both x i k = true from h1, cond_true, Int.add_assoc]
    | false =>
      refine ⟨⟨hd, n, i, k + 1, q, x⟩, ?_, ?_, ?_, ?_⟩
      · revert h1
        cases onX x.a x.b x.c x.d i k <;> cases onX x.e x.f x.g x.h i k <;> intro h1 <;> first | rfl | cases h1
      · simp only [p4i, Bool.and_eq_true, decide_eq_true_eq]; exact ⟨⟨⟨hs, hi⟩, by omega⟩, by omega, by omega⟩
      · show (13 - (k + 1)).toNat < (13 - k).toNat; omega
      · show some (PX.exit 4, T4 hd (n + cnt (both x i) (13 - (k + 1)).toNat (k + 1)) i, H4 q x) = some (PX.exit 4, T4 hd (n + cnt (both x i) (13 - k).toNat k) i, H4 q x)
        rw [e]
        simp only [cnt]
        rw [show both x i k = false from h1, cond_false, Int.zero_add]
  · left
    have e : (13 - k).toNat = 0 := by omega
    rw [decide_eq_false h]
    show some (PX.exit 4, T4 hd n i, H4 q x) = some (PX.exit 4, T4 hd (n + cnt (both x i) (13 - k).toNat k) i, H4 q x)
    rw [e]
    simp only [cnt, Int.add_zero]
noncomputable def E25 : EnvK := E24.addL 4 13 [3, 4, 7, 8, 9] (byModel [true, true] (ofSt st4i d4i) p4i f4i)
theorem ok25 : EnvOK Try.prog E25.env :=
  ok24.addM (n := 60) Try.func4 (show Try.f4.body = some (bod Try.f4) by kernel_rfl) (show (loops (bod Try.f4)).filter (fun b => rid b == 13) = [lpb Try.f4 13] by kernel_rfl) [3, 4, 7, 8, 9] [3, 4, 7, 8] e4i (ofSt_emb g4i) n4i step4i
theorem q4o (hd : Bool) (n i : Int) (q r : R8) : runB Try.prog E25 60 4 (lpb Try.f4 10) [3, 4, 7, 8] [3, 4, 7] (T4 hd n i) (H4 q r) =
  bif decide (i ≤ 12) then
    bif p4i ⟨hd, n, i, -12, q, r⟩ then some (.normal, T4 hd (n + cnt (both r i) (13 - -12 : Int).toNat (-12)) (W (i + 1)), H4 q r) else none
  else some (.exit 2, U4 hd n, H4 q r) := by kernel_rfl
def e4o (s : M4) : List PV × List Row := (T4 s.hd s.n s.i, H4 s.q s.r)
def st4o : St := ⟨142, [(3, .cell .bool), (4, .ptr 1 1 0 0), (7, i64), (8, i64)], [.one 24 8 (i64s 8), .one 24 8 (i64s 8)]⟩
def d4o : List Lf → List Lf → Option M4
  | [.b hd, .i n, .i i], [.i a, .i b, .i c, .i d, .i e, .i f, .i g, .i h, .i a', .i b', .i c', .i d', .i e', .i f', .i g', .i h'] => some ⟨hd, n, i, 0, ⟨a, b, c, d, e, f, g, h⟩, ⟨a', b', c', d', e', f', g', h'⟩⟩
  | _, _ => none
theorem g4o : ∀ x y s, d4o x y = some s → st4o.get (e4o s).1 (e4o s).2 = some (x, y) := by
  intro x y s h; unfold d4o at h; split at h
  · cases h; kernel_rfl
  · cases h
def cnt2 (r : R8) : Nat → Int → Int
  | 0, _ => 0
  | n + 1, i => cnt (both r i) 25 (-12) + cnt2 r n (i + 1)
def n4o (s : M4) : Nat := (13 - s.i).toNat
def p4o (s : M4) : Bool := sm8 s.r && decide (-12 ≤ s.i) && (decide (0 ≤ s.n) && decide (s.n ≤ 25 * (s.i + 12)))
def f4o (s : M4) : DT (PX × List PV × List Row) := .leaf (.exit 2, U4 s.hd (s.n + cnt2 s.r (n4o s) s.i), H4 s.q s.r)
theorem step4o (s : M4) (r : PX × List PV × List Row) (hp : p4o s = true) (hr : (f4o s).run = some r) :
    r.1 ≠ .normal ∧ (runB Try.prog E25 60 4 (lpb Try.f4 10) [3, 4, 7, 8] [3, 4, 7] (e4o s).1 (e4o s).2 = some r ∨
      ∃ s', runB Try.prog E25 60 4 (lpb Try.f4 10) [3, 4, 7, 8] [3, 4, 7] (e4o s).1 (e4o s).2 = some (.normal, e4o s') ∧ p4o s' = true ∧ n4o s' < n4o s ∧ (f4o s').run = some r) := by
  obtain ⟨hd, n, i, k, q, x⟩ := s
  obtain rfl := Option.some.inj hr
  simp only [p4o, Bool.and_eq_true, decide_eq_true_eq] at hp
  obtain ⟨⟨hs, hi⟩, hn⟩ := hp
  refine ⟨by simp, ?_⟩
  unfold e4o
  dsimp only
  rw [q4o]
  have hc := cnt_range (both x i) 25 (-12)
  by_cases h : i ≤ 12
  · right
    have e : (13 - i).toNat = (13 - (i + 1)).toNat + 1 := by omega
    refine ⟨⟨hd, n + cnt (both x i) 25 (-12), i + 1, k, q, x⟩, ?_, ?_, ?_, ?_⟩
    · have hq : p4i ⟨hd, n, i, -12, q, x⟩ = true := by
        simp only [p4i, Bool.and_eq_true, decide_eq_true_eq]; exact ⟨⟨⟨hs, hi, h⟩, by omega⟩, by omega, by omega⟩
      rw [decide_eq_true h, hq, W_id (n := i + 1) (by omega) (by omega)]; rfl
    · simp only [p4o, Bool.and_eq_true, decide_eq_true_eq]; exact ⟨⟨hs, by omega⟩, by omega, by omega⟩
    · show (13 - (i + 1)).toNat < (13 - i).toNat; omega
    · show some (PX.exit 2, U4 hd (n + cnt (both x i) 25 (-12) + cnt2 x (13 - (i + 1)).toNat (i + 1)), H4 q x) = some (PX.exit 2, U4 hd (n + cnt2 x (13 - i).toNat i), H4 q x)
      rw [e]
      simp only [cnt2, Int.add_assoc]
  · left
    have e : (13 - i).toNat = 0 := by omega
    rw [decide_eq_false h]
    show some (PX.exit 2, U4 hd n, H4 q x) = some (PX.exit 2, U4 hd (n + cnt2 x (13 - i).toNat i), H4 q x)
    rw [e]
    simp only [cnt2, Int.add_zero]
noncomputable def E26 : EnvK := E25.addL 4 10 [3, 4, 7, 8] (byModel [true, true] (ofSt st4o d4o) p4o f4o)
theorem ok26 : EnvOK Try.prog E26.env :=
  ok25.addM (n := 60) Try.func4 (show Try.f4.body = some (bod Try.f4) by kernel_rfl) (show (loops (bod Try.f4)).filter (fun b => rid b == 10) = [lpb Try.f4 10] by kernel_rfl) [3, 4, 7, 8] [3, 4, 7] e4o (ofSt_emb g4o) n4o step4o
def no4 : Option PV := some (bv false)
def fin4 (r : R8) (N : Int) : Option PV :=
  let m := mt r.a r.b r.c r.d r.e r.f r.g r.h
  let ons := bif onX r.a r.b r.c r.d r.a r.b then some (bv (onX r.a r.b r.c r.d r.c r.d)) else no4
  bif decide (m ≥ 0) then bif decide (m ≤ 2) then bif decide (m ≥ (if 2 < N then 2 else N)) then bif decide (m < 2) then ons else bif decide (N > 0) then ons else no4 else no4 else no4 else no4
theorem q4 (a b c d e f g h : Int) : runP Try.prog E26 60 4 [.agg [iv a, iv b, iv c, iv d, iv e, iv f, iv g, iv h]] =
  bif p4o ⟨true, 0, -12, 0, ⟨a, b, c, d, e, f, g, h⟩, ⟨sm a, sm b, sm c, sm d, sm e, sm f, sm g, sm h⟩⟩ then fin4 ⟨sm a, sm b, sm c, sm d, sm e, sm f, sm g, sm h⟩ (0 + cnt2 ⟨sm a, sm b, sm c, sm d, sm e, sm f, sm g, sm h⟩ (13 - -12 : Int).toNat (-12)) else none := by kernel_rfl
end Go.Hg
