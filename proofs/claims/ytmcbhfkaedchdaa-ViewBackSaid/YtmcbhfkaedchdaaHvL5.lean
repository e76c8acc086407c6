/- The view: ViewBack answers true. -/
import Derived.Test.YtmcbhfkaedchdaaHvP
namespace Go.Hv
open Go.Hx Go.Proofs
abbrev S5 (hd : Bool) (i j : Int) : List PV := tm 111 [(3, .ptr 0 1 0 0), (5, bv hd), (6, .ptr 1 1 0 0), (7, iv i), (8, iv j)]
abbrev T5 (hd : Bool) (i : Int) : List PV := tm 111 [(3, .ptr 0 1 0 0), (5, bv hd), (6, .ptr 1 1 0 0), (7, iv i)]
abbrev U5 (hd : Bool) : List PV := tm 111 [(3, .ptr 0 1 0 0), (5, bv hd), (6, .ptr 1 1 0 0)]
abbrev H5 (n0 n1 n2 n3 ax ay ux uy w h hr : Int) : List Row := [r1 41 4 (.agg [iv n0, iv n1, iv n2, iv n3]), r1 28 7 (vwv ax ay ux uy w h hr)]
theorem q5i (hd : Bool) (i j n0 n1 n2 n3 ax ay ux uy w h hr : Int) : runB Try.prog E5 60 5 (lpb Try.f5 7) [3, 5, 6, 7, 8] [3, 5, 6, 7] (S5 hd i j) (H5 n0 n1 n2 n3 ax ay ux uy w h hr) =
  bif decide (j < h) then
    bif !pin ax ay ux uy w h hr (wx ax ux uy i j) (wy ay ux uy i j) then some (.ret, T5 hd i, H5 n0 n1 n2 n3 ax ay ux uy w h hr)
    else bif (bif pin ax ay ux uy w h hr (wx ax ux uy i j) (wy ay ux uy i j) then px0 ax ay ux uy (wx ax ux uy i j) (wy ay ux uy i j) else 0) != i then some (.ret, T5 hd i, H5 n0 n1 n2 n3 ax ay ux uy w h hr)
    else bif (bif pin ax ay ux uy w h hr (wx ax ux uy i j) (wy ay ux uy i j) then px1 ax ay ux uy (wx ax ux uy i j) (wy ay ux uy i j) else 0) != j then some (.ret, T5 hd i, H5 n0 n1 n2 n3 ax ay ux uy w h hr)
    else some (.normal, S5 hd i (W (j + 1)), H5 n0 n1 n2 n3 ax ay ux uy w h hr)
  else some (.exit 2, T5 hd i, H5 n0 n1 n2 n3 ax ay ux uy w h hr) := by kernel_rfl
def s5i : St := ⟨111, [(3, .ptr 0 1 0 0), (5, .cell .bool), (6, .ptr 1 1 0 0), (7, i64), (8, i64)], [.one 41 4 (i64s 4), .one 28 7 (i64s 7)]⟩
def c5i : List Lf → List Lf → Option (DT (PX × List PV × List Row))
  | [.b hd, .i i, .i j], [.i n0, .i n1, .i n2, .i n3, .i ax, .i ay, .i ux, .i uy, .i w, .i h, .i hr] =>
    some (.br (madeB ax ay ux uy w h hr && decide (0 ≤ i) && decide (i < w) && decide (0 ≤ j) && decide (j ≤ h)) (.leaf (.exit 2, T5 hd i, H5 n0 n1 n2 n3 ax ay ux uy w h hr)) .no)
  | _, _ => none
theorem g5i (b0 : Bool) (i j n0 n1 n2 n3 ax ay ux uy w h hr : Int) : s5i.get (S5 b0 i j) (H5 n0 n1 n2 n3 ax ay ux uy w h hr) = some ([.b b0, .i i, .i j], [.i n0, .i n1, .i n2, .i n3, .i ax, .i ay, .i ux, .i uy, .i w, .i h, .i hr]) := by kernel_rfl
theorem w5i (hsub : SubCode Try.prog 5 (.loop (lpb Try.f5 7))) (ro : Nat) (S : List PV) (H : List Row) (d : DT (PX × List PV × List Row)) (x : PX) (S' : List PV) (H' : List Row) (hc : byShape s5i c5i ro S H = some d) (hd : d.run = some (x, S', H')) :
    WpTo Try.prog (.loop (lpb Try.f5 7)) ro S H x S' H' := by
  obtain ⟨a, b, rfl, hg, hf⟩ := byShape_inv hc
  unfold c5i at hf
  split at hf
  · rename_i b0 i j n0 n1 n2 n3 ax ay ux uy w h hr
    cases hf
    obtain ⟨hcond, he⟩ := run_br hd
    cases he
    obtain ⟨rfl, rfl⟩ := St.inj hg (g5i b0 i j n0 n1 n2 n3 ax ay ux uy w h hr)
    simp only [Bool.and_eq_true, decide_eq_true_eq] at hcond
    obtain ⟨⟨⟨⟨hm, h1⟩, h2⟩, h3⟩, h4⟩ := hcond
    have hck := (madeB_iff.1 hm).right
    have hmh := (madeB_iff.1 hm).ph
    refine Rnds.loop (by simp) ?_
    have hbody := hsub.sub (.loop .here)
    clear hc hg hd
    generalize hn : (h - j).toNat = n
    induction n generalizing j with
    | zero =>
      refine .stop (runB_sound ok5 hbody (n := 60) (l := [3, 5, 6, 7, 8]) (l' := [3, 5, 6, 7]) ?_)
      have : decide (j < h) = false := by simp; omega
      rw [q5i, this]; rfl
    | succ n ih =>
      obtain ⟨p1, p2, p3⟩ := pixel_back hck ⟨h1, h2⟩ (show 0 ≤ j ∧ j < h by omega)
      refine .go (runB_sound ok5 hbody (n := 60) (l := [3, 5, 6, 7, 8]) (l' := [3, 5, 6, 7]) (S' := S5 b0 i (j + 1)) ?_) (ih (j + 1) (by omega) (by omega) (by omega))
      have e : decide (j < h) = true := by simp; omega
      have e2 : (i != i) = false := by simp
      have e3 : (j != j) = false := by simp
      rw [q5i, e, p1, p2, p3, cond_true, cond_true, cond_true, e2, e3, W_id (n := j + 1) (by omega) (by omega)]; rfl
  · cases hf
noncomputable def E5a : EnvK := E5.addL 5 7 [3, 5, 6, 7, 8] (byShape s5i c5i)
theorem ok5a : EnvOK Try.prog E5a.env := ok5.addL Try.func5 (show Try.f5.body = some (bod Try.f5) by kernel_rfl) (show (loops (bod Try.f5)).filter (fun b => rid b == 7) = [lpb Try.f5 7] by kernel_rfl) w5i
theorem q5o (hd : Bool) (i n0 n1 n2 n3 ax ay ux uy w h hr : Int) : runB Try.prog E5a 60 5 (lpb Try.f5 4) [3, 5, 6, 7] [3, 5, 6] (T5 hd i) (H5 n0 n1 n2 n3 ax ay ux uy w h hr) =
  bif decide (i < w) then
    bif madeB ax ay ux uy w h hr && decide (0 ≤ i) && decide (i < w) && decide ((0 : Int) ≤ 0) && decide (0 ≤ h) then some (.normal, T5 hd (W (i + 1)), H5 n0 n1 n2 n3 ax ay ux uy w h hr) else none
  else some (.exit 0, U5 hd, H5 n0 n1 n2 n3 ax ay ux uy w h hr) := by kernel_rfl
def s5o : St := ⟨111, [(3, .ptr 0 1 0 0), (5, .cell .bool), (6, .ptr 1 1 0 0), (7, i64)], [.one 41 4 (i64s 4), .one 28 7 (i64s 7)]⟩
def c5o : List Lf → List Lf → Option (DT (PX × List PV × List Row))
  | [.b hd, .i i], [.i n0, .i n1, .i n2, .i n3, .i ax, .i ay, .i ux, .i uy, .i w, .i h, .i hr] =>
    some (.br (madeB ax ay ux uy w h hr && decide (0 ≤ i) && decide (i ≤ w)) (.leaf (.exit 0, U5 hd, H5 n0 n1 n2 n3 ax ay ux uy w h hr)) .no)
  | _, _ => none
theorem g5o (b0 : Bool) (i n0 n1 n2 n3 ax ay ux uy w h hr : Int) : s5o.get (T5 b0 i) (H5 n0 n1 n2 n3 ax ay ux uy w h hr) = some ([.b b0, .i i], [.i n0, .i n1, .i n2, .i n3, .i ax, .i ay, .i ux, .i uy, .i w, .i h, .i hr]) := by kernel_rfl
theorem w5o (hsub : SubCode Try.prog 5 (.loop (lpb Try.f5 4))) (ro : Nat) (S : List PV) (H : List Row) (d : DT (PX × List PV × List Row)) (x : PX) (S' : List PV) (H' : List Row) (hc : byShape s5o c5o ro S H = some d) (hd : d.run = some (x, S', H')) :
    WpTo Try.prog (.loop (lpb Try.f5 4)) ro S H x S' H' := by
  obtain ⟨a, b, rfl, hg, hf⟩ := byShape_inv hc
  unfold c5o at hf
  split at hf
  · rename_i b0 i n0 n1 n2 n3 ax ay ux uy w h hr
    cases hf
    obtain ⟨hcond, he⟩ := run_br hd
    cases he
    obtain ⟨rfl, rfl⟩ := St.inj hg (g5o b0 i n0 n1 n2 n3 ax ay ux uy w h hr)
    simp only [Bool.and_eq_true, decide_eq_true_eq] at hcond
    obtain ⟨⟨hm, h1⟩, h2⟩ := hcond
    have hmw := (madeB_iff.1 hm).pw
    have hmh := (madeB_iff.1 hm).ph
    refine Rnds.loop (by simp) ?_
    have hbody := hsub.sub (.loop .here)
    clear hc hg hd
    generalize hn : (w - i).toNat = n
    induction n generalizing i with
    | zero =>
      refine .stop (runB_sound ok5a hbody (n := 60) (l := [3, 5, 6, 7]) (l' := [3, 5, 6]) ?_)
      have : decide (i < w) = false := by simp; omega
      rw [q5o, this]; rfl
    | succ n ih =>
      refine .go (runB_sound ok5a hbody (n := 60) (l := [3, 5, 6, 7]) (l' := [3, 5, 6]) (S' := T5 b0 (i + 1)) ?_) (ih (i + 1) (by omega) (by omega) (by omega))
      have e : decide (i < w) = true := by simp; omega
      have e1 : decide (0 ≤ i) = true := by simp; omega
      have e2 : decide (0 ≤ h) = true := by simp; omega
      have e3 : decide ((0 : Int) ≤ 0) = true := rfl
      rw [q5o, e, hm, e1, e2, e3, W_id (n := i + 1) (by omega) (by omega)]; rfl
  · cases hf
noncomputable def E5b : EnvK := E5a.addL 5 4 [3, 5, 6, 7] (byShape s5o c5o)
theorem ok5b : EnvOK Try.prog E5b.env := ok5a.addL Try.func5 (show Try.f5.body = some (bod Try.f5) by kernel_rfl) (show (loops (bod Try.f5)).filter (fun b => rid b == 4) = [lpb Try.f5 4] by kernel_rfl) w5o
/-- What ViewBack says of two pixels. -/
def dist5 (ax ay ux uy a b c d : Int) : Bool :=
  dotX (subX (wx ax ux uy a b) (wx ax ux uy c d)) (subX (wy ay ux uy a b) (wy ay ux uy c d)) (subX (wx ax ux uy a b) (wx ax ux uy c d)) (subX (wy ay ux uy a b) (wy ay ux uy c d)) ==
    W (dotX ux uy ux uy * W (W (W (a - c) * W (a - c)) + W (W (b - d) * W (b - d))))
def modOk (m : Int) : Bool := decide (0 < m) && decide (m ≤ 4611686018427387904)
theorem q5 (f : Bool) (es : List PV) (n0 n1 n2 n3 : Int) : runP Try.prog E5b 60 5 [.lst f 3 es, .agg [iv n0, iv n1, iv n2, iv n3]] =
  bif madeB (mAx es) (mAy es) (mUx es) (mUy es) (mW es) (mH es) (mHr es) && decide ((0 : Int) ≤ 0) && decide (0 ≤ mW es) then
    bif modOk (mW es) then bif modOk (mH es) then bif modOk (mW es) then bif modOk (mH es) then
      some (bv (dist5 (mAx es) (mAy es) (mUx es) (mUy es) (n0 % mW es) (n1 % mH es) (n2 % mW es) (n3 % mH es)))
    else none else none else none else none else none := by kernel_rfl
theorem dist_ok {ax ay ux uy w h hr a b c d : Int} (m : MadeOK ax ay ux uy w h hr) (ha : 0 ≤ a ∧ a < w) (hb : 0 ≤ b ∧ b < h) (hc : 0 ≤ c ∧ c < w) (hd : 0 ≤ d ∧ d < h) : dist5 ax ay ux uy a b c d = true := by
  have hk := m.right
  obtain ⟨x1, y1⟩ := wx_in hk ha hb
  obtain ⟨x2, y2⟩ := wx_in hk hc hd
  obtain ⟨h1, h2, h3, h4, h5, h6, h7, h8⟩ := m
  have p1 := mul_bd (a := a - c) (b := ux) (A := 11) (B := 700) (by omega) (by omega) h3.1 h3.2
  have p2 := mul_bd (a := a - c) (b := uy) (A := 11) (B := 700) (by omega) (by omega) h4.1 h4.2
  have p3 := mul_bd (a := b - d) (b := ux) (A := 11) (B := 700) (by omega) (by omega) h3.1 h3.2
  have p4 := mul_bd (a := b - d) (b := uy) (A := 11) (B := 700) (by omega) (by omega) h4.1 h4.2
  have ex : ax + a * ux - b * uy - (ax + c * ux - d * uy) = (a - c) * ux - (b - d) * uy := by grind
  have ey : ay + a * uy + b * ux - (ay + c * uy + d * ux) = (a - c) * uy + (b - d) * ux := by grind
  have sx : subX (wx ax ux uy a b) (wx ax ux uy c d) = (a - c) * ux - (b - d) * uy := by
    unfold subX; rw [x1, x2, ex]; exact W_id (by omega) (by omega)
  have sy : subX (wy ay ux uy a b) (wy ay ux uy c d) = (a - c) * uy + (b - d) * ux := by
    unfold subX; rw [y1, y2, ey]; exact W_id (by omega) (by omega)
  have g1 := sq_bd (u := a - c) (v := b - d) (B := 11) (by omega) (by omega)
  have g0 := sq_nonneg (a - c)
  have g00 := sq_nonneg (b - d)
  have s2 := sq_bd h3 h4
  have s0 := sq_nonneg ux
  have s00 := sq_nonneg uy
  unfold dist5
  rw [sx, sy, dotX_self (ux := ux) (uy := uy) (by omega) (by omega) (by omega) (by omega), W_id (n := a - c) (by omega) (by omega), W_id (n := b - d) (by omega) (by omega)]
  generalize hX : (a - c) * ux - (b - d) * uy = X
  generalize hY : (a - c) * uy + (b - d) * ux = Y
  have bX : -15400 ≤ X ∧ X ≤ 15400 := by omega
  have bY : -15400 ≤ Y ∧ Y ≤ 15400 := by omega
  have q1 := mul_bd bX.1 bX.2 bX.1 bX.2
  have q2 := mul_bd bY.1 bY.2 bY.1 bY.2
  have hXY : X * X + Y * Y = (ux * ux + uy * uy) * ((a - c) * (a - c) + (b - d) * (b - d)) := by rw [← hX, ← hY]; grind
  unfold dotX
  rw [W_id (n := X * X) (by omega) (by omega), W_id (n := Y * Y) (by omega) (by omega), W_id (n := X * X + Y * Y) (by omega) (by omega), W_id (n := (a - c) * (a - c)) (by omega) (by omega), W_id (n := (b - d) * (b - d)) (by omega) (by omega),
    W_id (n := (a - c) * (a - c) + (b - d) * (b - d)) (by omega) (by omega), ← hXY, W_id (n := X * X + Y * Y) (by omega) (by omega)]
  simp
theorem law5 (f : Bool) (es : List PV) (n0 n1 n2 n3 : Int) : Enters Try.prog 5 ∧ PCall Try.prog 5 [.lst f 3 es, .agg [iv n0, iv n1, iv n2, iv n3]] (bv true) := by
  refine runP_sound ok5b (n := 60) ?_
  have m := made_ok es
  have hw := m.pw
  have hh := m.ph
  have e1 : modOk (mW es) = true := by unfold modOk; simp; omega
  have e2 : modOk (mH es) = true := by unfold modOk; simp; omega
  have e3 : decide (0 ≤ mW es) = true := by simp; omega
  rw [q5, madeB_iff.2 m, e1, e2, e3, dist_ok m ⟨Int.emod_nonneg _ (by omega), Int.emod_lt_of_pos _ (by omega)⟩ ⟨Int.emod_nonneg _ (by omega), Int.emod_lt_of_pos _ (by omega)⟩ ⟨Int.emod_nonneg _ (by omega), Int.emod_lt_of_pos _ (by omega)⟩ ⟨Int.emod_nonneg _ (by omega), Int.emod_lt_of_pos _ (by omega)⟩]
  rfl
end Go.Hv
