/- The view: ViewTurns answers true. -/
import Derived.Test.YtmcbhfkaedchdaaHvL7b
namespace Go.Hv
open Go.Hx Go.Proofs
def bB (ax ay ux uy w h hr : Int) (x : Int) : Int := bif ok0 ax ay ux uy w h hr then x else 0
def fin7 (ax ay ux uy w h hr n : Int) : Option PV :=
  let X0 := bB ax ay ux uy w h hr (bx0 ax ux uy w h); let Y0 := bB ax ay ux uy w h hr (by0 ay ux uy w h); let X1 := bB ax ay ux uy w h hr (bx1 ax ux uy w h); let Y1 := bB ax ay ux uy w h hr (by1 ay ux uy w h)
  let tu := tpx ux uy n; let tv := tpy ux uy n
  bif madeB ax ay ux uy w h hr && rel7 n ax ay ux uy w h ax ay tu tv X0 Y0 X1 Y1 && decide ((0 : Int) ≤ 0) && decide (0 ≤ w) then
    bif ((false || orJ (G0 ax ux uy X0 h) (w - 0).toNat 0) == true) && (((false || orJ (G0 ax ux uy X1 h) (w - 0).toNat 0) == true) && (((false || orJ (G2 ay ux uy Y0 h) (w - 0).toNat 0) == true) && (((false || orJ (G2 ay ux uy Y1 h) (w - 0).toNat 0) == true) && true))) then
      some (bv (((ax == ax) && ((ay == ay) && true)) && (((tpx (tpx tu tv 3) (tpy tu tv 3) 1 == tu) && ((tpy (tpx tu tv 3) (tpy tu tv 3) 1 == tv) && true)) && ((w == w) && ((h == h) && ((hr == hr) && true))))))
    else some (bv false)
  else none
theorem q7 (f : Bool) (es : List PV) (n : Int) : runP Try.prog E7b 60 7 [.lst f 3 es, iv n] = fin7 (mAx es) (mAy es) (mUx es) (mUy es) (mW es) (mH es) (mHr es) n := by kernel_rfl
theorem tp_range {x y n : Int} (h1 : -700 ≤ x ∧ x ≤ 700) (h2 : -700 ≤ y ∧ y ≤ 700) : (-700 ≤ tpx x y n ∧ tpx x y n ≤ 700) ∧ (-700 ≤ tpy x y n ∧ tpy x y n ≤ 700) := by
  have n1 : W (0 - y) = 0 - y := W_id (by omega) (by omega)
  have n2 : W (0 - x) = 0 - x := W_id (by omega) (by omega)
  unfold tpx tpy
  rw [n1, n2]
  constructor
  · split
    · omega
    · split
      · omega
      · split <;> omega
  · split
    · omega
    · split
      · omega
      · split <;> omega
theorem tp_four {x y : Int} (h1 : -700 ≤ x ∧ x ≤ 700) (_h2 : -700 ≤ y ∧ y ≤ 700) : tpx (tpx x y 3) (tpy x y 3) 1 = x ∧ tpy (tpx x y 3) (tpy x y 3) 1 = y := by
  have n2 : W (0 - x) = 0 - x := W_id (by omega) (by omega)
  have n3 : W (0 - (0 - x)) = x := by rw [W_id (by omega) (by omega)]; omega
  simp only [tpx, tpy, show ((3 : Int) % 4) = 3 from rfl, show ((1 : Int) % 4) = 1 from rfl, show ¬ ((3 : Int) = 1) by omega, show ¬ ((3 : Int) = 2) by omega, if_true, if_false, n2, n3]
  exact ⟨trivial, trivial⟩
/-- Some corner lies on each side. -/
theorem sides {ax ay ux uy w h hr : Int} (hc : ck ax ay ux uy w h hr = 0) :
    orJ (G0 ax ux uy (bx0 ax ux uy w h) h) (w - 0).toNat 0 = true ∧ orJ (G0 ax ux uy (bx1 ax ux uy w h) h) (w - 0).toNat 0 = true ∧ orJ (G2 ay ux uy (by0 ay ux uy w h) h) (w - 0).toNat 0 = true ∧ orJ (G2 ay ux uy (by1 ay ux uy w h) h) (w - 0).toNat 0 = true := by
  obtain ⟨⟨h1, h2, h3, h4, h5, h6, h7, h8, h9⟩, _⟩ := ck_iff.1 hc
  have px : ∀ {X i j : Int}, 0 ≤ i ∧ i < w → 0 ≤ j ∧ j < h → wx ax ux uy i j = X → orJ (G0 ax ux uy X h) (w - 0).toNat 0 = true := fun {X i j} hi hj e =>
    orJ_true _ 0 i (by omega) (by omega) (orJ_true _ 0 j (by omega) (by omega) (by unfold g0; rw [e]; simp))
  have py : ∀ {Y i j : Int}, 0 ≤ i ∧ i < w → 0 ≤ j ∧ j < h → wy ay ux uy i j = Y → orJ (G2 ay ux uy Y h) (w - 0).toNat 0 = true := fun {Y i j} hi hj e =>
    orJ_true _ 0 i (by omega) (by omega) (orJ_true _ 0 j (by omega) (by omega) (by unfold g2; rw [e]; simp))
  have c00 := wx_in hc (i := 0) (j := 0) (by omega) (by omega)
  have c10 := wx_in hc (i := w - 1) (j := 0) (by omega) (by omega)
  have c01 := wx_in hc (i := 0) (j := h - 1) (by omega) (by omega)
  have c11 := wx_in hc (i := w - 1) (j := h - 1) (by omega) (by omega)
  simp only [Int.zero_mul, Int.add_zero, Int.sub_zero] at c00 c10 c01
  have f1 := (mx4 ax (ax + (w - 1) * ux) (ax - (h - 1) * uy) (ax + (w - 1) * ux - (h - 1) * uy)).1
  have f0 := (mn4 ax (ax + (w - 1) * ux) (ax - (h - 1) * uy) (ax + (w - 1) * ux - (h - 1) * uy)).1
  have e1 := (mx4 ay (ay + (w - 1) * uy) (ay + (h - 1) * ux) (ay + (w - 1) * uy + (h - 1) * ux)).1
  have e0 := (mn4 ay (ay + (w - 1) * uy) (ay + (h - 1) * ux) (ay + (w - 1) * uy + (h - 1) * ux)).1
  rw [bx0_id (by omega) h2 h3 h5 h6, bx1_id (by omega) h2 h3 h5 h6, by0_id (by omega) h2 h3 h5 h6, by1_id (by omega) h2 h3 h5 h6]
  have i0 : (0 : Int) ≤ 0 ∧ 0 < w := by omega
  have i1 : 0 ≤ w - 1 ∧ w - 1 < w := by omega
  have j0 : (0 : Int) ≤ 0 ∧ 0 < h := by omega
  have j1 : 0 ≤ h - 1 ∧ h - 1 < h := by omega
  refine ⟨?_, ?_, ?_, ?_⟩
  · rcases f0 with g | g | g | g
    · exact px i0 j0 (by rw [c00.1, g])
    · exact px i1 j0 (by rw [c10.1, g])
    · exact px i0 j1 (by rw [c01.1, g])
    · exact px i1 j1 (by rw [c11.1, g])
  · rcases f1 with g | g | g | g
    · exact px i0 j0 (by rw [c00.1, g])
    · exact px i1 j0 (by rw [c10.1, g])
    · exact px i0 j1 (by rw [c01.1, g])
    · exact px i1 j1 (by rw [c11.1, g])
  · rcases e0 with g | g | g | g
    · exact py i0 j0 (by rw [c00.2, g])
    · exact py i1 j0 (by rw [c10.2, g])
    · exact py i0 j1 (by rw [c01.2, g])
    · exact py i1 j1 (by rw [c11.2, g])
  · rcases e1 with g | g | g | g
    · exact py i0 j0 (by rw [c00.2, g])
    · exact py i1 j0 (by rw [c10.2, g])
    · exact py i0 j1 (by rw [c01.2, g])
    · exact py i1 j1 (by rw [c11.2, g])
theorem law7 (f : Bool) (es : List PV) (n : Int) : Enters Try.prog 7 ∧ PCall Try.prog 7 [.lst f 3 es, iv n] (bv true) := by
  refine runP_sound ok7b (n := 60) ?_
  rw [q7]
  have m := made_ok es
  generalize mAx es = ax at *
  generalize mAy es = ay at *
  generalize mUx es = ux at *
  generalize mUy es = uy at *
  generalize mW es = w at *
  generalize mH es = h at *
  generalize mHr es = hr at *
  have hc := m.right
  have hok : ok0 ax ay ux uy w h hr = true := by unfold ok0; rw [hc]; rfl
  have hw := m.pw
  obtain ⟨t1, t2⟩ := tp_range (n := n) m.pux m.puy
  obtain ⟨u1, u2⟩ := tp_four t1 t2
  obtain ⟨s0, s1, s2, s3⟩ := sides hc
  have e0 : decide (0 ≤ w) = true := by simp; omega
  have hb : ∀ x, bB ax ay ux uy w h hr x = x := fun x => by unfold bB; rw [hok]; rfl
  unfold fin7
  simp only [hb, madeB_iff.2 m, e0, rel7, u1, u2, s0, s1, s2, s3, decide_true, Bool.and_true, Bool.false_or, beq_self_eq_true, cond_true, Int.le_refl]
end Go.Hv
