/- The view: ViewParts: the loops. -/
import Derived.Test.YtmcbhfkaedchdaaHvP
namespace Go.Hv
open Go.Hx Go.Proofs
abbrev S6 (hd ok : Bool) (i j a b k m : Int) : List PV := tm 192 [(3, .ptr 0 1 0 0), (5, bv hd), (6, .ptr 1 1 0 0), (7, iv i), (8, iv j), (9, iv a), (10, iv b), (11, .ptr 2 1 0 0), (12, bv ok), (13, iv k), (14, iv m)]
abbrev T6 (hd ok : Bool) (i j a b k : Int) : List PV := tm 192 [(3, .ptr 0 1 0 0), (5, bv hd), (6, .ptr 1 1 0 0), (7, iv i), (8, iv j), (9, iv a), (10, iv b), (11, .ptr 2 1 0 0), (12, bv ok), (13, iv k)]
abbrev U6 (hd ok : Bool) (i j a b : Int) : List PV := tm 192 [(3, .ptr 0 1 0 0), (5, bv hd), (6, .ptr 1 1 0 0), (7, iv i), (8, iv j), (9, iv a), (10, iv b), (11, .ptr 2 1 0 0), (12, bv ok)]
abbrev H6 (n0 n1 n2 n3 ax ay ux uy w h hr tx ty tu tv tw th tr : Int) : List Row := [r1 41 4 (.agg [iv n0, iv n1, iv n2, iv n3]), r1 28 7 (vwv ax ay ux uy w h hr), r1 28 7 (vwv tx ty tu tv tw th tr)]
def pX (ax ay ux uy w h hr X Y : Int) : Int := bif pin ax ay ux uy w h hr X Y then px0 ax ay ux uy X Y else 0
def pY (ax ay ux uy w h hr X Y : Int) : Int := bif pin ax ay ux uy w h hr X Y then px1 ax ay ux uy X Y else 0
theorem q6i (hd ok : Bool) (i j a b k m n0 n1 n2 n3 ax ay ux uy w h hr tx ty tu tv tw th tr : Int) : runB Try.prog E5 60 6 (lpb Try.f6 12) [3, 5, 6, 7, 8, 9, 10, 11, 12, 13, 14] [3, 5, 6, 7, 8, 9, 10, 11, 12, 13] (S6 hd ok i j a b k m) (H6 n0 n1 n2 n3 ax ay ux uy w h hr tx ty tu tv tw th tr) =
  bif decide (m < b) then
    bif !pin ax ay ux uy w h hr (wx tx tu tv k m) (wy ty tu tv k m) then some (.ret, T6 hd ok i j a b k, H6 n0 n1 n2 n3 ax ay ux uy w h hr tx ty tu tv tw th tr)
    else bif pX ax ay ux uy w h hr (wx tx tu tv k m) (wy ty tu tv k m) != W (i + k) then some (.ret, T6 hd ok i j a b k, H6 n0 n1 n2 n3 ax ay ux uy w h hr tx ty tu tv tw th tr)
    else bif pY ax ay ux uy w h hr (wx tx tu tv k m) (wy ty tu tv k m) != W (j + m) then some (.ret, T6 hd ok i j a b k, H6 n0 n1 n2 n3 ax ay ux uy w h hr tx ty tu tv tw th tr)
    else some (.normal, S6 hd ok i j a b k (W (m + 1)), H6 n0 n1 n2 n3 ax ay ux uy w h hr tx ty tu tv tw th tr)
  else some (.exit 2, T6 hd ok i j a b k, H6 n0 n1 n2 n3 ax ay ux uy w h hr tx ty tu tv tw th tr) := by kernel_rfl
/-- A part of a made view. -/
def rel6 (ax ay ux uy w h i j a b tx ty tu tv : Int) : Bool :=
  decide (tx = wx ax ux uy i j) && decide (ty = wy ay ux uy i j) && decide (tu = ux) && decide (tv = uy) && decide (0 ≤ i) && decide (0 ≤ j) && decide (1 ≤ a) && decide (1 ≤ b) && decide (i + a ≤ w) && decide (j + b ≤ h)
def s6i : St := ⟨192, [(3, .ptr 0 1 0 0), (5, .cell .bool), (6, .ptr 1 1 0 0), (7, i64), (8, i64), (9, i64), (10, i64), (11, .ptr 2 1 0 0), (12, .cell .bool), (13, i64), (14, i64)], [.one 41 4 (i64s 4), .one 28 7 (i64s 7), .one 28 7 (i64s 7)]⟩
def c6i : List Lf → List Lf → Option (DT (PX × List PV × List Row))
  | [.b hd, .i i, .i j, .i a, .i b, .b ok, .i k, .i m], [.i n0, .i n1, .i n2, .i n3, .i ax, .i ay, .i ux, .i uy, .i w, .i h, .i hr, .i tx, .i ty, .i tu, .i tv, .i tw, .i th, .i tr] =>
    some (.br (madeB ax ay ux uy w h hr && rel6 ax ay ux uy w h i j a b tx ty tu tv && decide (0 ≤ k) && decide (k < a) && decide (0 ≤ m) && decide (m ≤ b)) (.leaf (.exit 2, T6 hd ok i j a b k, H6 n0 n1 n2 n3 ax ay ux uy w h hr tx ty tu tv tw th tr)) .no)
  | _, _ => none
theorem g6i (hd ok : Bool) (i j a b k m n0 n1 n2 n3 ax ay ux uy w h hr tx ty tu tv tw th tr : Int) : s6i.get (S6 hd ok i j a b k m) (H6 n0 n1 n2 n3 ax ay ux uy w h hr tx ty tu tv tw th tr) =
  some ([.b hd, .i i, .i j, .i a, .i b, .b ok, .i k, .i m], [.i n0, .i n1, .i n2, .i n3, .i ax, .i ay, .i ux, .i uy, .i w, .i h, .i hr, .i tx, .i ty, .i tu, .i tv, .i tw, .i th, .i tr]) := by kernel_rfl
/-- The part's pixels are the view's. -/
theorem part_pt {ax ay ux uy w h hr i j k m : Int} (hc : ck ax ay ux uy w h hr = 0) (hi : 0 ≤ i) (hj : 0 ≤ j) (hk : 0 ≤ k) (hm : 0 ≤ m) (h1 : i + k < w) (h2 : j + m < h) :
    wx (wx ax ux uy i j) ux uy k m = wx ax ux uy (i + k) (j + m) ∧ wy (wy ay ux uy i j) ux uy k m = wy ay ux uy (i + k) (j + m) := by
  obtain ⟨⟨_, r2, r3, _, r5, r6, _, r8, r9⟩, _⟩ := ck_iff.1 hc
  obtain ⟨e1, e2⟩ := wx_in hc (i := i) (j := j) (by omega) (by omega)
  obtain ⟨e3, e4⟩ := wx_in hc (i := i + k) (j := j + m) (by omega) (by omega)
  have n := right_near hc (i := i) (j := j) (by omega) (by omega)
  unfold nearP at n
  rw [e3, e4, e1, e2, wx_id (by omega) r2 r3 (by omega) (by omega), wy_id (by omega) r2 r3 (by omega) (by omega)]
  constructor <;> grind
theorem w6i (hsub : SubCode Try.prog 6 (.loop (lpb Try.f6 12))) (ro : Nat) (S : List PV) (H : List Row) (d : DT (PX × List PV × List Row)) (x : PX) (S' : List PV) (H' : List Row) (hc : byShape s6i c6i ro S H = some d) (hd : d.run = some (x, S', H')) :
    WpTo Try.prog (.loop (lpb Try.f6 12)) ro S H x S' H' := by
  obtain ⟨_, _, rfl, hg, hf⟩ := byShape_inv hc
  unfold c6i at hf
  split at hf
  · rename_i b0 i j a b okk k m n0 n1 n2 n3 ax ay ux uy w h hr tx ty tu tv tw th tr
    cases hf
    obtain ⟨hcond, he⟩ := run_br hd
    cases he
    obtain ⟨rfl, hH⟩ := St.inj hg (g6i b0 okk i j a b k m n0 n1 n2 n3 ax ay ux uy w h hr tx ty tu tv tw th tr)
    refine wpTo_nrm ?_
    rw [hH]
    simp only [Bool.and_eq_true, decide_eq_true_eq] at hcond
    obtain ⟨⟨⟨⟨⟨hm, hrel⟩, h1⟩, h2⟩, h3⟩, h4⟩ := hcond
    have hM := madeB_iff.1 hm
    have hck := hM.right
    have hmw := hM.pw
    have hmh := hM.ph
    unfold rel6 at hrel
    simp only [Bool.and_eq_true, decide_eq_true_eq] at hrel
    obtain ⟨⟨⟨⟨⟨⟨⟨⟨⟨rfl, rfl⟩, rfl⟩, rfl⟩, k1⟩, k2⟩, k3⟩, k4⟩, k5⟩, k6⟩ := hrel
    refine Rnds.loop (by simp) ?_
    have hbody := hsub.sub (.loop .here)
    clear hc hg hd hH
    generalize hn : (b - m).toNat = N
    induction N generalizing m with
    | zero =>
      refine .stop (runB_sound ok5 hbody (n := 60) (l := [3, 5, 6, 7, 8, 9, 10, 11, 12, 13, 14]) (l' := [3, 5, 6, 7, 8, 9, 10, 11, 12, 13]) ?_)
      have : decide (m < b) = false := by simp; omega
      rw [q6i, this]; rfl
    | succ N ih =>
      obtain ⟨t1, t2⟩ := part_pt hck k1 k2 h1 h3 (show i + k < w by omega) (show j + m < h by omega)
      obtain ⟨p1, p2, p3⟩ := pixel_back hck (i := i + k) (j := j + m) (by omega) (by omega)
      refine .go (runB_sound ok5 hbody (n := 60) (l := [3, 5, 6, 7, 8, 9, 10, 11, 12, 13, 14]) (l' := [3, 5, 6, 7, 8, 9, 10, 11, 12, 13]) ?_) (ih (m + 1) (by omega) (by omega) (by omega))
      have e : decide (m < b) = true := by simp; omega
      rw [q6i, e, t1, t2]
      unfold pX pY
      rw [p1, p2, p3, W_id (n := i + k) (by omega) (by omega), W_id (n := j + m) (by omega) (by omega), W_id (n := m + 1) (by omega) (by omega)]
      simp
  · cases hf
noncomputable def E6a : EnvK := E5.addL 6 12 [3, 5, 6, 7, 8, 9, 10, 11, 12, 13, 14] (byShape s6i c6i)
theorem ok6a : EnvOK Try.prog E6a.env := ok5.addL Try.func6 (show Try.f6.body = some (bod Try.f6) by kernel_rfl) (show (loops (bod Try.f6)).filter (fun b => rid b == 12) = [lpb Try.f6 12] by kernel_rfl) w6i
theorem q6o (hd ok : Bool) (i j a b k n0 n1 n2 n3 ax ay ux uy w h hr tx ty tu tv tw th tr : Int) : runB Try.prog E6a 60 6 (lpb Try.f6 9) [3, 5, 6, 7, 8, 9, 10, 11, 12, 13] [3, 5, 6, 7, 8, 9, 10, 11, 12] (T6 hd ok i j a b k) (H6 n0 n1 n2 n3 ax ay ux uy w h hr tx ty tu tv tw th tr) =
  bif decide (k < a) then
    bif madeB ax ay ux uy w h hr && rel6 ax ay ux uy w h i j a b tx ty tu tv && decide (0 ≤ k) && decide (k < a) && decide ((0 : Int) ≤ 0) && decide (0 ≤ b) then some (.normal, T6 hd ok i j a b (W (k + 1)), H6 n0 n1 n2 n3 ax ay ux uy w h hr tx ty tu tv tw th tr) else none
  else some (.exit 0, U6 hd ok i j a b, H6 n0 n1 n2 n3 ax ay ux uy w h hr tx ty tu tv tw th tr) := by kernel_rfl
def s6o : St := ⟨192, [(3, .ptr 0 1 0 0), (5, .cell .bool), (6, .ptr 1 1 0 0), (7, i64), (8, i64), (9, i64), (10, i64), (11, .ptr 2 1 0 0), (12, .cell .bool), (13, i64)], [.one 41 4 (i64s 4), .one 28 7 (i64s 7), .one 28 7 (i64s 7)]⟩
def c6o : List Lf → List Lf → Option (DT (PX × List PV × List Row))
  | [.b hd, .i i, .i j, .i a, .i b, .b ok, .i k], [.i n0, .i n1, .i n2, .i n3, .i ax, .i ay, .i ux, .i uy, .i w, .i h, .i hr, .i tx, .i ty, .i tu, .i tv, .i tw, .i th, .i tr] =>
    some (.br (madeB ax ay ux uy w h hr && rel6 ax ay ux uy w h i j a b tx ty tu tv && decide (0 ≤ k) && decide (k ≤ a)) (.leaf (.exit 0, U6 hd ok i j a b, H6 n0 n1 n2 n3 ax ay ux uy w h hr tx ty tu tv tw th tr)) .no)
  | _, _ => none
theorem g6o (hd ok : Bool) (i j a b k n0 n1 n2 n3 ax ay ux uy w h hr tx ty tu tv tw th tr : Int) : s6o.get (T6 hd ok i j a b k) (H6 n0 n1 n2 n3 ax ay ux uy w h hr tx ty tu tv tw th tr) =
  some ([.b hd, .i i, .i j, .i a, .i b, .b ok, .i k], [.i n0, .i n1, .i n2, .i n3, .i ax, .i ay, .i ux, .i uy, .i w, .i h, .i hr, .i tx, .i ty, .i tu, .i tv, .i tw, .i th, .i tr]) := by kernel_rfl
theorem w6o (hsub : SubCode Try.prog 6 (.loop (lpb Try.f6 9))) (ro : Nat) (S : List PV) (H : List Row) (d : DT (PX × List PV × List Row)) (x : PX) (S' : List PV) (H' : List Row) (hc : byShape s6o c6o ro S H = some d) (hd : d.run = some (x, S', H')) :
    WpTo Try.prog (.loop (lpb Try.f6 9)) ro S H x S' H' := by
  obtain ⟨_, _, rfl, hg, hf⟩ := byShape_inv hc
  unfold c6o at hf
  split at hf
  · rename_i b0 i j a b okk k n0 n1 n2 n3 ax ay ux uy w h hr tx ty tu tv tw th tr
    cases hf
    obtain ⟨hcond, he⟩ := run_br hd
    cases he
    obtain ⟨rfl, hH⟩ := St.inj hg (g6o b0 okk i j a b k n0 n1 n2 n3 ax ay ux uy w h hr tx ty tu tv tw th tr)
    refine wpTo_nrm ?_
    rw [hH]
    simp only [Bool.and_eq_true, decide_eq_true_eq] at hcond
    obtain ⟨⟨⟨hm, hrel⟩, h1⟩, h2⟩ := hcond
    have hM := madeB_iff.1 hm
    have hmw := hM.pw
    have hmh := hM.ph
    have hrel2 := hrel
    unfold rel6 at hrel2
    simp only [Bool.and_eq_true, decide_eq_true_eq] at hrel2
    obtain ⟨⟨⟨⟨⟨⟨⟨⟨⟨_, _⟩, _⟩, _⟩, k1⟩, k2⟩, k3⟩, k4⟩, k5⟩, k6⟩ := hrel2
    refine Rnds.loop (by simp) ?_
    have hbody := hsub.sub (.loop .here)
    clear hc hg hd hH
    generalize hn : (a - k).toNat = N
    induction N generalizing k with
    | zero =>
      refine .stop (runB_sound ok6a hbody (n := 60) (l := [3, 5, 6, 7, 8, 9, 10, 11, 12, 13]) (l' := [3, 5, 6, 7, 8, 9, 10, 11, 12]) ?_)
      have : decide (k < a) = false := by simp; omega
      rw [q6o, this]; rfl
    | succ N ih =>
      refine .go (runB_sound ok6a hbody (n := 60) (l := [3, 5, 6, 7, 8, 9, 10, 11, 12, 13]) (l' := [3, 5, 6, 7, 8, 9, 10, 11, 12]) ?_) (ih (k + 1) (by omega) (by omega) (by omega))
      have e : decide (k < a) = true := by simp; omega
      have e1 : decide (0 ≤ k) = true := by simp; omega
      have e2 : decide (0 ≤ b) = true := by simp; omega
      rw [q6o, e, hm, hrel, e1, e2, W_id (n := k + 1) (by omega) (by omega)]
      simp
  · cases hf
noncomputable def E6b : EnvK := E6a.addL 6 9 [3, 5, 6, 7, 8, 9, 10, 11, 12, 13] (byShape s6o c6o)
theorem ok6b : EnvOK Try.prog E6b.env := ok6a.addL Try.func6 (show Try.f6.body = some (bod Try.f6) by kernel_rfl) (show (loops (bod Try.f6)).filter (fun b => rid b == 9) = [lpb Try.f6 9] by kernel_rfl) w6o
end Go.Hv
