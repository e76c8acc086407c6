/- The view: ViewParts answers true. -/
import Derived.Test.YtmcbhfkaedchdaaHvL6
namespace Go.Hv
open Go.Hx Go.Proofs
def pv (b : Bool) (x : Int) : Int := bif b then x else 0
def mok (m : Int) : Bool := decide (0 < m) && decide (m ≤ 4611686018427387904)
def tail6 (ax ay ux uy w h hr tx ty tu tv tw th tr i j a b : Int) : Option PV :=
  let A := pok tx ty tu tv tw th tr (W (a - 1)) (W (b - 1)) 1 1
  let B := pok ax ay ux uy w h hr (W (W (i + a) - 1)) (W (W (j + b) - 1)) 1 1
  bif A then bif B then
    bif ((pv A (wx tx tu tv (W (a - 1)) (W (b - 1))) == pv B (wx ax ux uy (W (W (i + a) - 1)) (W (W (j + b) - 1)))) && ((pv A (wy ty tu tv (W (a - 1)) (W (b - 1))) == pv B (wy ay ux uy (W (W (i + a) - 1)) (W (W (j + b) - 1)))) && true)) &&
        (((pv A tu == pv B ux) && ((pv A tv == pv B uy) && true)) && ((pv A 1 == pv B 1) && ((pv A 1 == pv B 1) && ((pv A tr == pv B hr) && true)))) then
      bif !pok ax ay ux uy w h hr i j (W (W (w - i) + 1)) 1 then some (bv (!pok ax ay ux uy w h hr i j 1 (W (W (h - j) + 1)))) else some (bv false)
    else some (bv false)
  else some (bv false) else some (bv false)
def mid6 (ax ay ux uy w h hr i j a b : Int) : Option PV :=
  let P := pok ax ay ux uy w h hr i j a b
  bif !P then some (bv false)
  else bif ck (pv P (wx ax ux uy i j)) (pv P (wy ay ux uy i j)) (pv P ux) (pv P uy) (pv P a) (pv P b) (pv P hr) != 0 then some (bv false)
  else bif pv P a != a then some (bv false) else bif pv P b != b then some (bv false) else bif pv P hr != hr then some (bv false)
  else bif madeB ax ay ux uy w h hr && rel6 ax ay ux uy w h i j a b (pv P (wx ax ux uy i j)) (pv P (wy ay ux uy i j)) (pv P ux) (pv P uy) && decide ((0 : Int) ≤ 0) && decide (0 ≤ a) then
    tail6 ax ay ux uy w h hr (pv P (wx ax ux uy i j)) (pv P (wy ay ux uy i j)) (pv P ux) (pv P uy) (pv P a) (pv P b) (pv P hr) i j a b
  else none
def all6 (ax ay ux uy w h hr n0 n1 n2 n3 : Int) : Option PV :=
  bif mok w then bif mok h then bif mok (W (w - n0 % w)) then bif mok (W (h - n1 % h)) then
    mid6 ax ay ux uy w h hr (n0 % w) (n1 % h) (W (1 + n2 % W (w - n0 % w))) (W (1 + n3 % W (h - n1 % h)))
  else none else none else none else none
theorem q6 (f : Bool) (es : List PV) (n0 n1 n2 n3 : Int) : runP Try.prog E6b 60 6 [.lst f 3 es, .agg [iv n0, iv n1, iv n2, iv n3]] = all6 (mAx es) (mAy es) (mUx es) (mUy es) (mW es) (mH es) (mHr es) n0 n1 n2 n3 := by kernel_rfl
theorem pok_true {ax ay ux uy w h hr i j n m : Int} (hc : ck ax ay ux uy w h hr = 0) (hi : 0 ≤ i ∧ i < w) (hj : 0 ≤ j ∧ j < h) (hn : 1 ≤ n ∧ n ≤ w - i) (hm : 1 ≤ m ∧ m ≤ h - j) : pok ax ay ux uy w h hr i j n m = true := by
  obtain ⟨⟨_, _, _, _, r5, r6, _, _, _⟩, _⟩ := ck_iff.1 hc
  unfold pok ok0
  rw [hc, W_id (n := w - i) (by omega) (by omega), W_id (n := h - j) (by omega) (by omega)]
  simp only [Bool.and_eq_true, Bool.not_eq_true', decide_eq_false_iff_not, bne_self_eq_false, Bool.not_false, true_and]
  omega
/-- A part of a right view is right. -/
theorem part_right {ax ay ux uy w h hr i j a b : Int} (hc : ck ax ay ux uy w h hr = 0) (hi : 0 ≤ i) (hj : 0 ≤ j) (ha : 1 ≤ a ∧ a ≤ w - i) (hb : 1 ≤ b ∧ b ≤ h - j) : ck (wx ax ux uy i j) (wy ay ux uy i j) ux uy a b hr = 0 := by
  obtain ⟨⟨r1, r2, r3, r4, r5, r6, r7, r8, r9⟩, _⟩ := ck_iff.1 hc
  obtain ⟨e1, e2⟩ := wx_in hc (i := i) (j := j) (by omega) (by omega)
  have n0 := right_near hc (i := i) (j := j) (by omega) (by omega)
  have n1 := right_near hc (i := i + (a - 1)) (j := j) (by omega) (by omega)
  have n2 := right_near hc (i := i) (j := j + (b - 1)) (by omega) (by omega)
  have n3 := right_near hc (i := i + (a - 1)) (j := j + (b - 1)) (by omega) (by omega)
  rw [e1, e2]
  have n0' := n0
  unfold nearP at n0'
  refine ck_iff.2 ⟨⟨r1, r2, r3, r4, by omega, by omega, r7, by omega, by omega⟩, ?_, ?_, ?_⟩
  · rw [show ax + i * ux - j * uy + (a - 1) * ux = ax + (i + (a - 1)) * ux - j * uy by grind, show ay + i * uy + j * ux + (a - 1) * uy = ay + (i + (a - 1)) * uy + j * ux by grind]; exact n1
  · rw [show ax + i * ux - j * uy - (b - 1) * uy = ax + i * ux - (j + (b - 1)) * uy by grind, show ay + i * uy + j * ux + (b - 1) * ux = ay + i * uy + (j + (b - 1)) * ux by grind]; exact n2
  · rw [show ax + i * ux - j * uy + (a - 1) * ux - (b - 1) * uy = ax + (i + (a - 1)) * ux - (j + (b - 1)) * uy by grind, show ay + i * uy + j * ux + (a - 1) * uy + (b - 1) * ux = ay + (i + (a - 1)) * uy + (j + (b - 1)) * ux by grind]; exact n3
theorem mid_true {ax ay ux uy w h hr i j a b : Int} (m : MadeOK ax ay ux uy w h hr) (hi : 0 ≤ i ∧ i < w) (hj : 0 ≤ j ∧ j < h) (ha : 1 ≤ a ∧ a ≤ w - i) (hb : 1 ≤ b ∧ b ≤ h - j) : mid6 ax ay ux uy w h hr i j a b = some (bv true) := by
  have hc := m.right
  have hp := part_right hc hi.1 hj.1 ha hb
  have hw := m.pw
  have hh := m.ph
  have e1 := pok_true hc hi hj ha hb
  have w1 : W (a - 1) = a - 1 := W_id (by omega) (by omega)
  have w2 : W (b - 1) = b - 1 := W_id (by omega) (by omega)
  have w3 : W (W (i + a) - 1) = i + (a - 1) := by rw [W_id (n := i + a) (by omega) (by omega), W_id (by omega) (by omega)]; omega
  have w4 : W (W (j + b) - 1) = j + (b - 1) := by rw [W_id (n := j + b) (by omega) (by omega), W_id (by omega) (by omega)]; omega
  have w5 : W (W (w - i) + 1) = w - i + 1 := by rw [W_id (n := w - i) (by omega) (by omega), W_id (by omega) (by omega)]
  have w6 : W (W (h - j) + 1) = h - j + 1 := by rw [W_id (n := h - j) (by omega) (by omega), W_id (by omega) (by omega)]
  have A := pok_true hp (i := a - 1) (j := b - 1) (n := 1) (m := 1) (by omega) (by omega) (by omega) (by omega)
  have B := pok_true hc (i := i + (a - 1)) (j := j + (b - 1)) (n := 1) (m := 1) (by omega) (by omega) (by omega) (by omega)
  have C : pok ax ay ux uy w h hr i j (w - i + 1) 1 = false := by
    unfold pok
    rw [W_id (n := w - i) (by omega) (by omega)]
    have : decide (w - i + 1 > w - i) = true := by simp; omega
    rw [this]; simp
  have D : pok ax ay ux uy w h hr i j 1 (h - j + 1) = false := by
    unfold pok
    rw [W_id (n := h - j) (by omega) (by omega)]
    have : decide (h - j + 1 > h - j) = true := by simp; omega
    rw [this]; simp
  obtain ⟨t1, t2⟩ := part_pt hc hi.1 hj.1 (show 0 ≤ a - 1 by omega) (show 0 ≤ b - 1 by omega) (show i + (a - 1) < w by omega) (show j + (b - 1) < h by omega)
  have hrel : rel6 ax ay ux uy w h i j a b (wx ax ux uy i j) (wy ay ux uy i j) ux uy = true := by
    unfold rel6
    simp only [Bool.and_eq_true, decide_eq_true_eq]
    exact ⟨⟨⟨⟨⟨⟨⟨⟨⟨trivial, trivial⟩, trivial⟩, trivial⟩, hi.1⟩, hj.1⟩, ha.1⟩, hb.1⟩, by omega⟩, by omega⟩
  have hp0 : ∀ x, pv true x = x := fun _ => rfl
  have e0 : decide (0 ≤ a) = true := by simp; omega
  unfold mid6
  simp only [e1, hp0, hp, madeB_iff.2 m, hrel, e0]
  unfold tail6
  simp only [w1, w2, w3, w4, w5, w6, A, B, C, D, hp0, t1, t2]
  simp
theorem law6 (f : Bool) (es : List PV) (n0 n1 n2 n3 : Int) : Enters Try.prog 6 ∧ PCall Try.prog 6 [.lst f 3 es, .agg [iv n0, iv n1, iv n2, iv n3]] (bv true) := by
  refine runP_sound ok6b (n := 60) ?_
  rw [q6]
  have m := made_ok es
  generalize mAx es = ax at *
  generalize mAy es = ay at *
  generalize mUx es = ux at *
  generalize mUy es = uy at *
  generalize mW es = w at *
  generalize mH es = h at *
  generalize mHr es = hr at *
  have hw := m.pw
  have hh := m.ph
  have i0 := Int.emod_nonneg n0 (show w ≠ 0 by omega)
  have i1 := Int.emod_lt_of_pos n0 (show 0 < w by omega)
  have j0 := Int.emod_nonneg n1 (show h ≠ 0 by omega)
  have j1 := Int.emod_lt_of_pos n1 (show 0 < h by omega)
  unfold all6
  generalize n0 % w = i at *
  generalize n1 % h = j at *
  rw [W_id (n := w - i) (by omega) (by omega), W_id (n := h - j) (by omega) (by omega)]
  have a0 := Int.emod_nonneg n2 (show w - i ≠ 0 by omega)
  have a1 := Int.emod_lt_of_pos n2 (show 0 < w - i by omega)
  have b0 := Int.emod_nonneg n3 (show h - j ≠ 0 by omega)
  have b1 := Int.emod_lt_of_pos n3 (show 0 < h - j by omega)
  generalize n2 % (w - i) = c at *
  generalize n3 % (h - j) = d at *
  have mk : ∀ x : Int, 0 < x → x ≤ 12 → mok x = true := fun x h1 h2 => by unfold mok; simp; omega
  rw [mk w (by omega) (by omega), mk h (by omega) (by omega), mk (w - i) (by omega) (by omega), mk (h - j) (by omega) (by omega), W_id (n := 1 + c) (by omega) (by omega), W_id (n := 1 + d) (by omega) (by omega),
    mid_true m ⟨i0, i1⟩ ⟨j0, j1⟩ (by omega) (by omega)]
  rfl
end Go.Hv
