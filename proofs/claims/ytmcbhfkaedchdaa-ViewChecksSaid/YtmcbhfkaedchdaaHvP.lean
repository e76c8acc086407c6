/- The view: plain facts: the pixel of a pixel's point. -/
import Derived.Test.YtmcbhfkaedchdaaHvN
namespace Go.Hv
open Go.Hx Go.Proofs
theorem mul_btw {i n u : Int} (h0 : 0 ≤ i) (h1 : i ≤ n) : (0 ≤ i * u ∧ i * u ≤ n * u) ∨ (n * u ≤ i * u ∧ i * u ≤ 0) := by
  rcases Int.le_total 0 u with h | h
  · exact .inl ⟨Int.mul_nonneg h0 h, Int.mul_le_mul_of_nonneg_right h1 h⟩
  · exact .inr ⟨Int.mul_le_mul_of_nonpos_right h1 h, Int.mul_nonpos_of_nonneg_of_nonpos h0 h⟩
/-- Where the pixels of a right view lie. -/
theorem right_near {ax ay ux uy w h hr i j : Int} (hc : ck ax ay ux uy w h hr = 0) (hi : 0 ≤ i ∧ i < w) (hj : 0 ≤ j ∧ j < h) : nearP (ax + i * ux - j * uy) (ay + i * uy + j * ux) := by
  obtain ⟨⟨h1, h2, h3, h4, h5, h6, h7, h8, h9⟩, n1, n2, n3⟩ := ck_iff.1 hc
  have a1 := mul_btw (u := ux) hi.1 (show i ≤ w - 1 by omega)
  have a2 := mul_btw (u := uy) hi.1 (show i ≤ w - 1 by omega)
  have a3 := mul_btw (u := ux) hj.1 (show j ≤ h - 1 by omega)
  have a4 := mul_btw (u := uy) hj.1 (show j ≤ h - 1 by omega)
  unfold nearP at *
  generalize (w - 1) * ux = p at *
  generalize (w - 1) * uy = q at *
  generalize (h - 1) * ux = r at *
  generalize (h - 1) * uy = s at *
  generalize i * ux = p' at *
  generalize i * uy = q' at *
  generalize j * ux = r' at *
  generalize j * uy = s' at *
  have c1 : -1048576 ≤ ax + p' - s' ∧ ax + p' - s' ≤ 1048576 := by
    clear a2 a3
    rcases a1 with a | a <;> rcases a4 with b | b <;> omega
  have c2 : -1048576 ≤ ay + q' + r' ∧ ay + q' + r' ≤ 1048576 := by
    clear a1 a4
    rcases a2 with a | a <;> rcases a3 with b | b <;> omega
  exact ⟨c1.1, c1.2, c2.1, c2.2⟩
theorem wx_in {ax ay ux uy w h hr i j : Int} (hc : ck ax ay ux uy w h hr = 0) (hi : 0 ≤ i ∧ i < w) (hj : 0 ≤ j ∧ j < h) : wx ax ux uy i j = ax + i * ux - j * uy ∧ wy ay ux uy i j = ay + i * uy + j * ux := by
  obtain ⟨⟨h1, h2, h3, h4, h5, h6, h7, h8, h9⟩, _⟩ := ck_iff.1 hc
  exact ⟨wx_id (by omega) h2 h3 (by omega) (by omega), wy_id (by omega) h2 h3 (by omega) (by omega)⟩
theorem tdiv_mul {i d : Int} (h : 0 < d) : Int.tdiv (i * d) d = i := Int.mul_tdiv_cancel i (by omega)
/-- The numbers behind Pixel, plainly. -/
theorem px_id {ax ay ux uy w h hr a b : Int} (hc : ck ax ay ux uy w h hr = 0) (hp : nearP a b) :
    px0 ax ay ux uy a b = Int.tdiv ((a - ax) * ux + (b - ay) * uy) (ux * ux + uy * uy) ∧ px1 ax ay ux uy a b = Int.tdiv (ux * (b - ay) - uy * (a - ax)) (ux * ux + uy * uy) := by
  obtain ⟨⟨h1, h2, h3, h4, h5, h6, h7, h8, h9⟩, _⟩ := ck_iff.1 hc
  unfold nearP at hp
  have e1 : subX a ax = a - ax := W_id (by omega) (by omega)
  have e2 : subX b ay = b - ay := W_id (by omega) (by omega)
  have m1 := mul_bd (a := a - ax) (b := ux) (A := 2097152) (B := 1024) (by omega) (by omega) h2.1 h2.2
  have m2 := mul_bd (a := b - ay) (b := uy) (A := 2097152) (B := 1024) (by omega) (by omega) h3.1 h3.2
  have m3 := mul_bd (a := ux) (b := b - ay) (A := 1024) (B := 2097152) h2.1 h2.2 (by omega) (by omega)
  have m4 := mul_bd (a := uy) (b := a - ax) (A := 1024) (B := 2097152) h3.1 h3.2 (by omega) (by omega)
  have d1 : dotX (a - ax) (b - ay) ux uy = (a - ax) * ux + (b - ay) * uy := by
    unfold dotX
    rw [W_id (n := (a - ax) * ux) (by omega) (by omega), W_id (n := (b - ay) * uy) (by omega) (by omega), W_id (by omega) (by omega)]
  have d2 : crsX ux uy (a - ax) (b - ay) = ux * (b - ay) - uy * (a - ax) := by
    unfold crsX
    rw [W_id (n := ux * (b - ay)) (by omega) (by omega), W_id (n := uy * (a - ax)) (by omega) (by omega), W_id (by omega) (by omega)]
  have hd := dot_pos h1
  have td : ∀ x : Int, -4294967296 ≤ x → x ≤ 4294967296 → W (Int.tdiv x (ux * ux + uy * uy)) = Int.tdiv x (ux * ux + uy * uy) := by
    intro x hx1 hx2
    have := Int.natAbs_tdiv_le_natAbs x (ux * ux + uy * uy)
    exact W_id (by omega) (by omega)
  unfold px0 px1
  rw [e1, e2, d1, d2, dotX_self h2.1 h2.2 h3.1 h3.2]
  exact ⟨td _ (by omega) (by omega), td _ (by omega) (by omega)⟩
theorem pixel_back {ax ay ux uy w h hr i j : Int} (hc : ck ax ay ux uy w h hr = 0) (hi : 0 ≤ i ∧ i < w) (hj : 0 ≤ j ∧ j < h) :
    pin ax ay ux uy w h hr (wx ax ux uy i j) (wy ay ux uy i j) = true ∧ px0 ax ay ux uy (wx ax ux uy i j) (wy ay ux uy i j) = i ∧ px1 ax ay ux uy (wx ax ux uy i j) (wy ay ux uy i j) = j := by
  have hn := right_near hc hi hj
  have hR := (ck_iff.1 hc).1
  have hd := dot_pos hR.pnz
  obtain ⟨ex, ey⟩ := wx_in hc hi hj
  have hp := px_id hc hn
  have e0 : px0 ax ay ux uy (wx ax ux uy i j) (wy ay ux uy i j) = i := by
    rw [ex, ey, hp.1, show (ax + i * ux - j * uy - ax) * ux + (ay + i * uy + j * ux - ay) * uy = i * (ux * ux + uy * uy) by grind]
    exact tdiv_mul hd
  have e1 : px1 ax ay ux uy (wx ax ux uy i j) (wy ay ux uy i j) = j := by
    rw [ex, ey, hp.2, show ux * (ay + i * uy + j * ux - ay) - uy * (ax + i * ux - j * uy - ax) = j * (ux * ux + uy * uy) by grind]
    exact tdiv_mul hd
  refine ⟨?_, e0, e1⟩
  unfold pin
  rw [e0, e1, ok0_of' hc]
  have f : farX (wx ax ux uy i j) (wy ay ux uy i j) = false := by rw [ex, ey]; exact farX_false.2 hn
  rw [f]
  simp [hi, hj]
  where
  ok0_of' {ax ay ux uy w h hr : Int} (hc : ck ax ay ux uy w h hr = 0) : ok0 ax ay ux uy w h hr = true := by unfold ok0; rw [hc]; rfl
end Go.Hv
