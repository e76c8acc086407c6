/- The view: ViewTurns: the loops. -/
import Derived.Test.YtmcbhfkaedchdaaHvL7
namespace Go.Hv
open Go.Hx Go.Proofs
theorem w7i (hsub : SubCode Try.prog 7 (.loop (lpb Try.f7 10))) (ro : Nat) (S : List PV) (H : List Row) (d : DT (PX × List PV × List Row)) (x : PX) (S' : List PV) (H' : List Row) (hc : byShape s7i c7i ro S H = some d) (hd : d.run = some (x, S', H')) :
    WpTo Try.prog (.loop (lpb Try.f7 10)) ro S H x S' H' := by
  obtain ⟨a, b, rfl, hg, hf⟩ := byShape_inv hc
  unfold c7i at hf
  split at hf
  · rename_i n b0 i j ax ay ux uy w h hr tx ty tu tv tw th tr X0 Y0 X1 Y1 s0 s1 s2 s3
    cases hf
    obtain ⟨hcond, he⟩ := run_br hd
    cases he
    obtain ⟨rfl, hH⟩ := St.inj hg (g7i n b0 i j ax ay ux uy w h hr tx ty tu tv tw th tr X0 Y0 X1 Y1 s0 s1 s2 s3)
    refine wpTo_nrm ?_
    rw [hH]
    simp only [Bool.and_eq_true, decide_eq_true_eq] at hcond
    obtain ⟨⟨⟨⟨⟨hm, hrel⟩, h1⟩, h2⟩, h3⟩, h4⟩ := hcond
    have hM := madeB_iff.1 hm
    have hck := hM.right
    have hmh := hM.ph
    have hrel0 := hrel
    unfold rel7 at hrel
    simp only [Bool.and_eq_true, decide_eq_true_eq] at hrel
    obtain ⟨⟨⟨⟨⟨⟨⟨rfl, rfl⟩, rfl⟩, rfl⟩, rfl⟩, rfl⟩, rfl⟩, rfl⟩ := hrel
    refine Rnds.loop (by simp) ?_
    have hbody := hsub.sub (.loop .here)
    clear hc hg hd hrel0 hH
    generalize hn : (h - j).toNat = N
    induction N generalizing j s0 s1 s2 s3 with
    | zero =>
      refine .stop (runB_sound ok5 hbody (n := 60) (l := [1, 5, 6, 7, 8, 9, 10, 11]) (l' := [1, 5, 6, 7, 8, 9, 10]) ?_)
      have : decide (j < h) = false := by simp; omega
      rw [q7i, this]
      simp only [orJ, Bool.or_false, cond_false]
    | succ N ih =>
      have hj : 0 ≤ j ∧ j < h := by omega
      obtain ⟨t1, t2⟩ := turn_pt (n := n) hM ⟨h1, h2⟩ hj
      obtain ⟨b1, b2, b3, b4⟩ := box_in hck ⟨h1, h2⟩ hj
      have e : decide (j < h) = true := by simp; omega
      have e1 : decide (wx tx ux uy i j < bx0 tx ux uy w h) = false := by simp; omega
      have e2 : decide (wx tx ux uy i j > bx1 tx ux uy w h) = false := by simp; omega
      have e3 : decide (wy ty ux uy i j < by0 ty ux uy w h) = false := by simp; omega
      have e4 : decide (wy ty ux uy i j > by1 ty ux uy w h) = false := by simp; omega
      have := ih (j + 1) (s0 || (wx tx ux uy i j == bx0 tx ux uy w h)) (s1 || (wx tx ux uy i j == bx1 tx ux uy w h)) (s2 || (wy ty ux uy i j == by0 ty ux uy w h)) (s3 || (wy ty ux uy i j == by1 ty ux uy w h)) (by omega) (by omega) (by omega)
      simp only [orJ, g0, g2, ← Bool.or_assoc] at this ⊢
      refine .go (runB_sound ok5 hbody (n := 60) (l := [1, 5, 6, 7, 8, 9, 10, 11]) (l' := [1, 5, 6, 7, 8, 9, 10]) ?_) this
      rw [q7i, e, ← t1, ← t2, e1, e2, e3, e4, W_id (n := j + 1) (by omega) (by omega)]
      simp
  · cases hf
noncomputable def E7a : EnvK := E5.addL 7 10 [1, 5, 6, 7, 8, 9, 10, 11] (byShape s7i c7i)
theorem ok7a : EnvOK Try.prog E7a.env := ok5.addL Try.func7 (show Try.f7.body = some (bod Try.f7) by kernel_rfl) (show (loops (bod Try.f7)).filter (fun b => rid b == 10) = [lpb Try.f7 10] by kernel_rfl) w7i
theorem q7o (n : Int) (hd : Bool) (i ax ay ux uy w h hr tx ty tu tv tw th tr X0 Y0 X1 Y1 : Int) (s0 s1 s2 s3 : Bool) :
    runB Try.prog E7a 60 7 (lpb Try.f7 7) [1, 5, 6, 7, 8, 9, 10] [1, 5, 6, 7, 8, 9] (T7 n hd i) (H7 ax ay ux uy w h hr tx ty tu tv tw th tr X0 Y0 X1 Y1 s0 s1 s2 s3) =
  bif decide (i < w) then
    bif madeB ax ay ux uy w h hr && rel7 n ax ay ux uy w h tx ty tu tv X0 Y0 X1 Y1 && decide (0 ≤ i) && decide (i < w) && decide ((0 : Int) ≤ 0) && decide (0 ≤ h) then
      some (.normal, T7 n hd (W (i + 1)), H7 ax ay ux uy w h hr tx ty tu tv tw th tr X0 Y0 X1 Y1 (s0 || orJ (g0 ax ux uy X0 i) (h - 0).toNat 0) (s1 || orJ (g0 ax ux uy X1 i) (h - 0).toNat 0) (s2 || orJ (g2 ay ux uy Y0 i) (h - 0).toNat 0) (s3 || orJ (g2 ay ux uy Y1 i) (h - 0).toNat 0))
    else none
  else some (.exit 0, U7 n hd, H7 ax ay ux uy w h hr tx ty tu tv tw th tr X0 Y0 X1 Y1 s0 s1 s2 s3) := by kernel_rfl
def G0 (ax ux uy X0 h : Int) (i : Int) : Bool := orJ (g0 ax ux uy X0 i) (h - 0).toNat 0
def G2 (ay ux uy Y0 h : Int) (i : Int) : Bool := orJ (g2 ay ux uy Y0 i) (h - 0).toNat 0
def s7o : St := ⟨129, [(1, i64), (5, .cell .bool), (6, .ptr 0 1 0 0), (7, .ptr 1 1 0 0), (8, .ptr 2 1 0 0), (9, .ptr 3 1 0 0), (10, i64)], [.one 28 7 (i64s 7), .one 28 7 (i64s 7), .one 37 4 (i64s 4), .one 56 4 (.agg [.bool, .bool, .bool, .bool])]⟩
def c7o : List Lf → List Lf → Option (DT (PX × List PV × List Row))
  | [.i n, .b hd, .i i], [.i ax, .i ay, .i ux, .i uy, .i w, .i h, .i hr, .i tx, .i ty, .i tu, .i tv, .i tw, .i th, .i tr, .i X0, .i Y0, .i X1, .i Y1, .b s0, .b s1, .b s2, .b s3] =>
    some (.br (madeB ax ay ux uy w h hr && rel7 n ax ay ux uy w h tx ty tu tv X0 Y0 X1 Y1 && decide (0 ≤ i) && decide (i ≤ w))
      (.leaf (.exit 0, U7 n hd, H7 ax ay ux uy w h hr tx ty tu tv tw th tr X0 Y0 X1 Y1 (s0 || orJ (G0 ax ux uy X0 h) (w - i).toNat i) (s1 || orJ (G0 ax ux uy X1 h) (w - i).toNat i) (s2 || orJ (G2 ay ux uy Y0 h) (w - i).toNat i) (s3 || orJ (G2 ay ux uy Y1 h) (w - i).toNat i))) .no)
  | _, _ => none
theorem g7o (n : Int) (hd : Bool) (i ax ay ux uy w h hr tx ty tu tv tw th tr X0 Y0 X1 Y1 : Int) (s0 s1 s2 s3 : Bool) : s7o.get (T7 n hd i) (H7 ax ay ux uy w h hr tx ty tu tv tw th tr X0 Y0 X1 Y1 s0 s1 s2 s3) =
  some ([.i n, .b hd, .i i], [.i ax, .i ay, .i ux, .i uy, .i w, .i h, .i hr, .i tx, .i ty, .i tu, .i tv, .i tw, .i th, .i tr, .i X0, .i Y0, .i X1, .i Y1, .b s0, .b s1, .b s2, .b s3]) := by kernel_rfl
theorem w7o (hsub : SubCode Try.prog 7 (.loop (lpb Try.f7 7))) (ro : Nat) (S : List PV) (H : List Row) (d : DT (PX × List PV × List Row)) (x : PX) (S' : List PV) (H' : List Row) (hc : byShape s7o c7o ro S H = some d) (hd : d.run = some (x, S', H')) :
    WpTo Try.prog (.loop (lpb Try.f7 7)) ro S H x S' H' := by
  obtain ⟨a, b, rfl, hg, hf⟩ := byShape_inv hc
  unfold c7o at hf
  split at hf
  · rename_i n b0 i ax ay ux uy w h hr tx ty tu tv tw th tr X0 Y0 X1 Y1 s0 s1 s2 s3
    cases hf
    obtain ⟨hcond, he⟩ := run_br hd
    cases he
    obtain ⟨rfl, hH⟩ := St.inj hg (g7o n b0 i ax ay ux uy w h hr tx ty tu tv tw th tr X0 Y0 X1 Y1 s0 s1 s2 s3)
    refine wpTo_nrm ?_
    rw [hH]
    simp only [Bool.and_eq_true, decide_eq_true_eq] at hcond
    obtain ⟨⟨⟨hm, hrel⟩, h1⟩, h2⟩ := hcond
    have hmw := (madeB_iff.1 hm).pw
    have hmh := (madeB_iff.1 hm).ph
    refine Rnds.loop (by simp) ?_
    have hbody := hsub.sub (.loop .here)
    clear hc hg hd hH
    generalize hn : (w - i).toNat = N
    induction N generalizing i s0 s1 s2 s3 with
    | zero =>
      refine .stop (runB_sound ok7a hbody (n := 60) (l := [1, 5, 6, 7, 8, 9, 10]) (l' := [1, 5, 6, 7, 8, 9]) ?_)
      have : decide (i < w) = false := by simp; omega
      rw [q7o, this]
      simp only [orJ, Bool.or_false, cond_false]
    | succ N ih =>
      have e : decide (i < w) = true := by simp; omega
      have e1 : decide (0 ≤ i) = true := by simp; omega
      have e2 : decide (0 ≤ h) = true := by simp; omega
      have := ih (i + 1) (s0 || G0 ax ux uy X0 h i) (s1 || G0 ax ux uy X1 h i) (s2 || G2 ay ux uy Y0 h i) (s3 || G2 ay ux uy Y1 h i) (by omega) (by omega) (by omega)
      simp only [orJ, ← Bool.or_assoc] at this ⊢
      refine .go (runB_sound ok7a hbody (n := 60) (l := [1, 5, 6, 7, 8, 9, 10]) (l' := [1, 5, 6, 7, 8, 9]) ?_) this
      rw [q7o, e, hm, hrel, e1, e2, W_id (n := i + 1) (by omega) (by omega)]
      simp [G0, G2]
  · cases hf
noncomputable def E7b : EnvK := E7a.addL 7 7 [1, 5, 6, 7, 8, 9, 10] (byShape s7o c7o)
theorem ok7b : EnvOK Try.prog E7b.env := ok7a.addL Try.func7 (show Try.f7.body = some (bod Try.f7) by kernel_rfl) (show (loops (bod Try.f7)).filter (fun b => rid b == 7) = [lpb Try.f7 7] by kernel_rfl) w7o
end Go.Hv
