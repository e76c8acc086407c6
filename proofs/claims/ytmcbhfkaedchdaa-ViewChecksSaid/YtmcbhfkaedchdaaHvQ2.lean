/- The view's reference: the box: the list of all points. -/
import Derived.Test.YtmcbhfkaedchdaaHvQ
namespace Go.Hv
open Go.Hx Go.Proofs
theorem box40_eq (es : List PV) (h0 : 0 < es.length) (h1 : es.length ≤ 1000000) (f : Bool) : runP Try.prog E40a 60 40 [.lst f 26 es] = some (box40 es) := by
  rw [q40]
  have e1 : (((es.length : Nat) : Int) == 0) = false := by rw [beq_eq_false_iff_ne]; omega
  have e2 : decide ((0 : Int) < ((es.length : Nat) : Int)) = true := by simp; omega
  have e3 : (((es.length : Nat) : Int) - 1).toNat = es.length - 1 := by omega
  rw [e1, e3]
  unfold in40
  rw [e2, decide_eq_true h1]
  rfl
def c40 : List PV → Option (DT PV)
  | [.lst _ 26 es] => some (.br (decide (0 < es.length) && decide (es.length ≤ 1000000)) (.leaf (box40 es)) .no)
  | _ => none
theorem en40 : Enters Try.prog 40 := (runP_sound ok40a (box40_eq [.any] (by simp) (by simp) true)).1
theorem o40 (args : List PV) (d : DT PV) (r : PV) (h : c40 args = some d) (hr : d.run = some r) : PCall Try.prog 40 args r := by
  unfold c40 at h; split at h
  · rename_i f es
    cases h
    obtain ⟨h1, rfl⟩ := run_br hr
    simp only [Bool.and_eq_true, decide_eq_true_eq] at h1
    exact (runP_sound ok40a (box40_eq es h1.1 h1.2 f)).2
  · cases h
noncomputable def E11 : EnvK := (E10.addF 40 c40).addN 17 5 [(3, 26, 2)]
theorem ok11 : EnvOK Try.prog E11.env := (ok10.addF en40 o40).addN 17 5 [(3, 26, 2)]
abbrev S17 (n l : Nat) (i j : Int) : List PV := tm 31 [(1, .ptr 0 1 0 0), (2, .ptr 1 1 0 0), (3, .sl 2 n 0 l), (4, iv i), (5, iv j)]
abbrev T17 (n l : Nat) (i : Int) : List PV := tm 31 [(1, .ptr 0 1 0 0), (2, .ptr 1 1 0 0), (3, .sl 2 n 0 l), (4, iv i)]
abbrev U17 (n l : Nat) : List PV := tm 31 [(1, .ptr 0 1 0 0), (2, .ptr 1 1 0 0), (3, .sl 2 n 0 l)]
abbrev H17 (ax ay ux uy w h hr a b c d : Int) (nl : Bool) (es : List PV) : List Row := [r1 28 7 (vwv ax ay ux uy w h hr), r1 37 4 (rcv a b c d), rN 26 2 nl es]
def room (es : List PV) (n l : Nat) : Bool := decide (es.length = n) && decide (n = l) && decide ((n + 1) * 16 ≤ 140737488355328)
theorem q17i (n l : Nat) (i j ax ay ux uy w h hr a b c d : Int) (nl : Bool) (es : List PV) : runB Try.prog E11 60 17 (lpb Try.f17 8) [1, 2, 3, 4, 5] [1, 2, 3, 4] (S17 n l i j) (H17 ax ay ux uy w h hr a b c d nl es) =
  bif decide (j < h) then
    bif room es n l then some (.normal, S17 (n + 1) (n + 1) i (W (j + 1)), H17 ax ay ux uy w h hr a b c d (nl && false) (es ++ [ptv (wx ax ux uy i j) (wy ay ux uy i j)])) else none
  else some (.exit 2, T17 n l i, H17 ax ay ux uy w h hr a b c d nl es) := by kernel_rfl
/-- The points of a column; of all. -/
def colL (ax ay ux uy i : Int) : Nat → Int → List PV
  | 0, _ => []
  | n + 1, j => ptv (wx ax ux uy i j) (wy ay ux uy i j) :: colL ax ay ux uy i n (j + 1)
def allL (ax ay ux uy : Int) (h : Nat) : Nat → Int → List PV
  | 0, _ => []
  | n + 1, i => colL ax ay ux uy i h 0 ++ allL ax ay ux uy h n (i + 1)
theorem colL_len (ax ay ux uy i : Int) : ∀ (n : Nat) (j : Int), (colL ax ay ux uy i n j).length = n
  | 0, _ => rfl
  | n + 1, j => by simp [colL, colL_len ax ay ux uy i n (j + 1)]
theorem allL_len (ax ay ux uy : Int) (h : Nat) : ∀ (n : Nat) (i : Int), (allL ax ay ux uy h n i).length = n * h
  | 0, _ => by simp [allL]
  | n + 1, i => by simp [allL, colL_len, allL_len ax ay ux uy h n (i + 1)]; rw [Nat.add_mul]; omega
structure M17 where
  n : Nat
  l : Nat
  i : Int
  j : Int
  v : Int × Int × Int × Int × Int × Int × Int
  r : Int × Int × Int × Int
  nl : Bool
  es : List PV
abbrev h17 (s : M17) (nl : Bool) (es : List PV) : List Row := H17 s.v.1 s.v.2.1 s.v.2.2.1 s.v.2.2.2.1 s.v.2.2.2.2.1 s.v.2.2.2.2.2.1 s.v.2.2.2.2.2.2 s.r.1 s.r.2.1 s.r.2.2.1 s.r.2.2.2 nl es
def e17i (s : M17) : List PV × List Row := (S17 s.n s.l s.i s.j, h17 s s.nl s.es)
def s17i : St := ⟨31, [(1, .ptr 0 1 0 0), (2, .ptr 1 1 0 0), (3, .sl 2), (4, i64), (5, i64)], [.one 28 7 (i64s 7), .one 37 4 (i64s 4), .many 26 2]⟩
def d17i : List Lf → List Lf → Option M17
  | [.n n, .n l, .i i, .i j], [.i ax, .i ay, .i ux, .i uy, .i w, .i h, .i hr, .i a, .i b, .i c, .i d, .l nl es] => some ⟨n, l, i, j, (ax, ay, ux, uy, w, h, hr), (a, b, c, d), nl, es⟩
  | _, _ => none
theorem g17i : ∀ x y s, d17i x y = some s → s17i.get (e17i s).1 (e17i s).2 = some (x, y) := by
  intro x y s h
  unfold d17i at h
  split at h
  · cases h; kernel_rfl
  · cases h
def vh (s : M17) : Int := s.v.2.2.2.2.2.1
def vw (s : M17) : Int := s.v.2.2.2.2.1
def p17i (s : M17) : Bool := decide (0 ≤ s.j) && decide (vh s ≤ 64) && decide (s.n = s.es.length) && decide (s.l = s.es.length) && decide (s.es.length ≤ 1000000)
def n17i (s : M17) : Nat := (vh s - s.j).toNat
def r17i (s : M17) : List PV := s.es ++ colL s.v.1 s.v.2.1 s.v.2.2.1 s.v.2.2.2.1 s.i (n17i s) s.j
def f17i (s : M17) : DT (PX × List PV × List Row) := .leaf (.exit 2, T17 (r17i s).length (r17i s).length s.i, h17 s (s.nl && decide (n17i s = 0)) (r17i s))
theorem step17i (s : M17) (r : PX × List PV × List Row) (hp : (p17i s && decide (s.es.length + n17i s ≤ 1000000)) = true) (hr : (f17i s).run = some r) :
    r.1 ≠ .normal ∧ (runB Try.prog E11 60 17 (lpb Try.f17 8) [1, 2, 3, 4, 5] [1, 2, 3, 4] (e17i s).1 (e17i s).2 = some r ∨
      ∃ s', runB Try.prog E11 60 17 (lpb Try.f17 8) [1, 2, 3, 4, 5] [1, 2, 3, 4] (e17i s).1 (e17i s).2 = some (.normal, e17i s') ∧ (p17i s' && decide (s'.es.length + n17i s' ≤ 1000000)) = true ∧ n17i s' < n17i s ∧ (f17i s').run = some r) := by
  obtain ⟨n, l, i, j, ⟨ax, ay, ux, uy, w, h, hh⟩, ⟨a, b, c, d⟩, nl, es⟩ := s
  obtain rfl := Option.some.inj hr
  simp only [p17i, Bool.and_eq_true, decide_eq_true_eq] at hp
  obtain ⟨⟨⟨⟨⟨h1, h2⟩, rfl⟩, rfl⟩, h3⟩, h4⟩ := hp
  change h ≤ 64 at h2
  change es.length + (h - j).toNat ≤ 1000000 at h4
  refine ⟨by simp, ?_⟩
  unfold e17i h17
  dsimp only
  rw [q17i]
  by_cases hj : j < h
  · right
    have e : n17i ⟨es.length, es.length, i, j, (ax, ay, ux, uy, w, h, hh), (a, b, c, d), nl, es⟩ = n17i ⟨es.length + 1, es.length + 1, i, j + 1, (ax, ay, ux, uy, w, h, hh), (a, b, c, d), nl && false, es ++ [ptv (wx ax ux uy i j) (wy ay ux uy i j)]⟩ + 1 := by simp only [n17i, vh]; omega
    refine ⟨⟨es.length + 1, es.length + 1, i, j + 1, (ax, ay, ux, uy, w, h, hh), (a, b, c, d), nl && false, es ++ [ptv (wx ax ux uy i j) (wy ay ux uy i j)]⟩, ?_, ?_, ?_, ?_⟩
    · rw [decide_eq_true hj, W_id (n := j + 1) (by omega) (by omega)]
      unfold room
      rw [decide_eq_true (show es.length = es.length from rfl), decide_eq_true (show (es.length + 1) * 16 ≤ 140737488355328 by omega)]
      rfl
    · simp only [p17i, Bool.and_eq_true, decide_eq_true_eq]
      have hl : (es ++ [ptv (wx ax ux uy i j) (wy ay ux uy i j)]).length = es.length + 1 := by simp
      refine ⟨⟨⟨⟨⟨by omega, h2⟩, hl.symm⟩, hl.symm⟩, by rw [hl]; omega⟩, ?_⟩
      rw [hl]
      show es.length + 1 + (h - (j + 1)).toNat ≤ 1000000
      omega
    · omega
    · unfold f17i r17i
      rw [e]
      simp only [colL, List.append_assoc, List.singleton_append, Bool.and_false, Bool.false_and, Nat.add_eq_zero_iff, Nat.one_ne_zero, and_false, decide_false]
      rfl
  · left
    have e : n17i ⟨es.length, es.length, i, j, (ax, ay, ux, uy, w, h, hh), (a, b, c, d), nl, es⟩ = 0 := by simp only [n17i, vh]; omega
    rw [decide_eq_false hj]
    unfold r17i
    rw [e]
    simp only [colL, List.append_nil, decide_true, Bool.and_true]
    rfl
noncomputable def E17a : EnvK := E11.addL 17 8 [1, 2, 3, 4, 5] (byModel [true, true, false] (ofSt s17i d17i) (fun s => p17i s && decide (s.es.length + n17i s ≤ 1000000)) f17i)
theorem ok17a : EnvOK Try.prog E17a.env :=
  ok11.addM (n := 60) Try.func17 (show Try.f17.body = some (bod Try.f17) by kernel_rfl) (show (loops (bod Try.f17)).filter (fun b => rid b == 8) = [lpb Try.f17 8] by kernel_rfl) [1, 2, 3, 4, 5] [1, 2, 3, 4] e17i (ofSt_emb g17i) n17i step17i
theorem q17o (n l : Nat) (i ax ay ux uy w h hr a b c d : Int) (nl : Bool) (es : List PV) : runB Try.prog E17a 60 17 (lpb Try.f17 5) [1, 2, 3, 4] [1, 2, 3] (T17 n l i) (H17 ax ay ux uy w h hr a b c d nl es) =
  bif decide (i < w) then
    bif p17i ⟨n, l, i, 0, (ax, ay, ux, uy, w, h, hr), (a, b, c, d), nl, es⟩ && decide (es.length + n17i ⟨n, l, i, 0, (ax, ay, ux, uy, w, h, hr), (a, b, c, d), nl, es⟩ ≤ 1000000) then
      some (.normal, T17 (es ++ colL ax ay ux uy i (h - 0).toNat 0).length (es ++ colL ax ay ux uy i (h - 0).toNat 0).length (W (i + 1)), H17 ax ay ux uy w h hr a b c d (nl && decide ((h - 0).toNat = 0)) (es ++ colL ax ay ux uy i (h - 0).toNat 0)) else none
  else some (.exit 0, U17 n l, H17 ax ay ux uy w h hr a b c d nl es) := by kernel_rfl
def e17o (s : M17) : List PV × List Row := (T17 s.n s.l s.i, h17 s s.nl s.es)
def s17o : St := ⟨31, [(1, .ptr 0 1 0 0), (2, .ptr 1 1 0 0), (3, .sl 2), (4, i64)], [.one 28 7 (i64s 7), .one 37 4 (i64s 4), .many 26 2]⟩
def d17o : List Lf → List Lf → Option M17
  | [.n n, .n l, .i i], [.i ax, .i ay, .i ux, .i uy, .i w, .i h, .i hr, .i a, .i b, .i c, .i d, .l nl es] => some ⟨n, l, i, 0, (ax, ay, ux, uy, w, h, hr), (a, b, c, d), nl, es⟩
  | _, _ => none
theorem g17o : ∀ x y s, d17o x y = some s → s17o.get (e17o s).1 (e17o s).2 = some (x, y) := by
  intro x y s h
  unfold d17o at h
  split at h
  · cases h; kernel_rfl
  · cases h
def n17o (s : M17) : Nat := (vw s - s.i).toNat
def p17o (s : M17) : Bool := decide (0 ≤ s.i) && decide (vw s ≤ 64) && decide (vh s ≤ 64) && decide (s.n = s.es.length) && decide (s.l = s.es.length) && decide (s.es.length + n17o s * 64 ≤ 100000)
def r17o (s : M17) : List PV := s.es ++ allL s.v.1 s.v.2.1 s.v.2.2.1 s.v.2.2.2.1 (vh s - 0).toNat (n17o s) s.i
def f17o (s : M17) : DT (PX × List PV × List Row) := .leaf (.exit 0, U17 (r17o s).length (r17o s).length, h17 s (s.nl && (decide (n17o s = 0) || decide ((vh s - 0).toNat = 0))) (r17o s))
theorem step17o (s : M17) (r : PX × List PV × List Row) (hp : p17o s = true) (hr : (f17o s).run = some r) :
    r.1 ≠ .normal ∧ (runB Try.prog E17a 60 17 (lpb Try.f17 5) [1, 2, 3, 4] [1, 2, 3] (e17o s).1 (e17o s).2 = some r ∨
      ∃ s', runB Try.prog E17a 60 17 (lpb Try.f17 5) [1, 2, 3, 4] [1, 2, 3] (e17o s).1 (e17o s).2 = some (.normal, e17o s') ∧ p17o s' = true ∧ n17o s' < n17o s ∧ (f17o s').run = some r) := by
  obtain ⟨n, l, i, j, ⟨ax, ay, ux, uy, w, h, hh⟩, ⟨a, b, c, d⟩, nl, es⟩ := s
  obtain rfl := Option.some.inj hr
  simp only [p17o, Bool.and_eq_true, decide_eq_true_eq] at hp
  obtain ⟨⟨⟨⟨⟨h1, h2⟩, h3⟩, rfl⟩, rfl⟩, h4⟩ := hp
  change w ≤ 64 at h2
  change h ≤ 64 at h3
  change es.length + (w - i).toNat * 64 ≤ 100000 at h4
  refine ⟨by simp, ?_⟩
  unfold e17o h17
  dsimp only
  rw [q17o]
  by_cases hj : i < w
  · right
    have hl : (es ++ colL ax ay ux uy i (h - 0).toNat 0).length = es.length + (h - 0).toNat := by rw [List.length_append, colL_len]
    have e : n17o ⟨es.length, es.length, i, j, (ax, ay, ux, uy, w, h, hh), (a, b, c, d), nl, es⟩ = (w - (i + 1)).toNat + 1 := by show (w - i).toNat = _; omega
    refine ⟨⟨(es ++ colL ax ay ux uy i (h - 0).toNat 0).length, (es ++ colL ax ay ux uy i (h - 0).toNat 0).length, i + 1, j, (ax, ay, ux, uy, w, h, hh), (a, b, c, d), nl && decide ((h - 0).toNat = 0), es ++ colL ax ay ux uy i (h - 0).toNat 0⟩, ?_, ?_, ?_, ?_⟩
    · have hq : (p17i ⟨es.length, es.length, i, 0, (ax, ay, ux, uy, w, h, hh), (a, b, c, d), nl, es⟩ && decide (es.length + n17i ⟨es.length, es.length, i, 0, (ax, ay, ux, uy, w, h, hh), (a, b, c, d), nl, es⟩ ≤ 1000000)) = true := by
        simp only [p17i, Bool.and_eq_true, decide_eq_true_eq]
        refine ⟨⟨⟨⟨⟨by omega, h3⟩, trivial⟩, trivial⟩, by omega⟩, ?_⟩
        show es.length + (h - 0).toNat ≤ 1000000
        omega
      rw [decide_eq_true hj, hq, W_id (n := i + 1) (by omega) (by omega)]
      rfl
    · simp only [p17o, Bool.and_eq_true, decide_eq_true_eq]
      refine ⟨⟨⟨⟨⟨by omega, h2⟩, h3⟩, trivial⟩, trivial⟩, ?_⟩
      rw [hl]
      show es.length + (h - 0).toNat + (w - (i + 1)).toNat * 64 ≤ 100000
      omega
    · rw [e]; show (w - (i + 1)).toNat < _; omega
    · unfold f17o r17o
      rw [e]
      simp only [allL, List.append_assoc]
      have eb : ∀ (x y z : Bool), (x && y && (z || y)) = (x && (false || y)) := by decide
      have e0 : decide ((w - (i + 1)).toNat + 1 = 0) = false := by simp
      generalize hA : es ++ (colL ax ay ux uy i (h - 0).toNat 0 ++ allL ax ay ux uy (h - 0).toNat (w - (i + 1)).toNat (i + 1)) = A
      have hA1 := hA
      show some (PX.exit 0, U17 (es ++ (colL ax ay ux uy i (h - 0).toNat 0 ++ allL ax ay ux uy (h - 0).toNat (w - (i + 1)).toNat (i + 1))).length (es ++ (colL ax ay ux uy i (h - 0).toNat 0 ++ allL ax ay ux uy (h - 0).toNat (w - (i + 1)).toNat (i + 1))).length,
        H17 ax ay ux uy w h hh a b c d (nl && decide ((h - 0).toNat = 0) && (decide ((w - (i + 1)).toNat = 0) || decide ((h - 0).toNat = 0))) (es ++ (colL ax ay ux uy i (h - 0).toNat 0 ++ allL ax ay ux uy (h - 0).toNat (w - (i + 1)).toNat (i + 1)))) =
        some (PX.exit 0, U17 (es ++ (colL ax ay ux uy i (h - 0).toNat 0 ++ allL ax ay ux uy (h - 0).toNat (w - (i + 1)).toNat (i + 1))).length (es ++ (colL ax ay ux uy i (h - 0).toNat 0 ++ allL ax ay ux uy (h - 0).toNat (w - (i + 1)).toNat (i + 1))).length,
        H17 ax ay ux uy w h hh a b c d (nl && (decide ((w - (i + 1)).toNat + 1 = 0) || decide ((h - 0).toNat = 0))) (es ++ (colL ax ay ux uy i (h - 0).toNat 0 ++ allL ax ay ux uy (h - 0).toNat (w - (i + 1)).toNat (i + 1))))
      rw [eb, e0]
  · left
    have e : n17o ⟨es.length, es.length, i, j, (ax, ay, ux, uy, w, h, hh), (a, b, c, d), nl, es⟩ = 0 := by show (w - i).toNat = _; omega
    rw [decide_eq_false hj]
    unfold r17o
    rw [e]
    simp only [allL, List.append_nil, decide_true, Bool.true_or, Bool.and_true]
    rfl
noncomputable def E17b : EnvK := E17a.addL 17 5 [1, 2, 3, 4] (byModel [true, true, false] (ofSt s17o d17o) p17o f17o)
theorem ok17b : EnvOK Try.prog E17b.env :=
  ok17a.addM (n := 60) Try.func17 (show Try.f17.body = some (bod Try.f17) by kernel_rfl) (show (loops (bod Try.f17)).filter (fun b => rid b == 5) = [lpb Try.f17 5] by kernel_rfl) [1, 2, 3, 4] [1, 2, 3] e17o (ofSt_emb g17o) n17o step17o
def all17 (ax ay ux uy w h : Int) : List PV := [] ++ allL ax ay ux uy (h - 0).toNat (w - 0).toNat 0
def tall (ax ay ux uy w h : Int) : List PV := (all17 ax ay ux uy w h).take (all17 ax ay ux uy w h).length
theorem q17 (ax ay ux uy w h hr : Int) : runP Try.prog E17b 60 17 [vwv ax ay ux uy w h hr] =
  bif ck ax ay ux uy w h hr != 0 then some (rcv 0 0 0 0) else
  bif p17o ⟨0, 0, 0, 0, (ax, ay, ux, uy, w, h, hr), (0, 0, 0, 0), true, []⟩ then
    need ((all17 ax ay ux uy w h).length == (all17 ax ay ux uy w h).length)
      (bif decide (0 < (tall ax ay ux uy w h).length) && decide ((tall ax ay ux uy w h).length ≤ 1000000) then some (box40 (tall ax ay ux uy w h)) else none) else none := by kernel_rfl
theorem tall_eq (ax ay ux uy w h : Int) : tall ax ay ux uy w h = all17 ax ay ux uy w h := by unfold tall; rw [List.take_length]
end Go.Hv
