/- The view: plain facts: made views are right; a right view is one whose corners are near. -/
import Derived.Test.YtmcbhfkaedchdaaHvD
namespace Go.Hv
open Go.Hx Go.Proofs
structure MadeOK (ax ay ux uy w h hr : Int) : Prop where
  pax : 0 ≤ ax ∧ ax < 300
  pay : 0 ≤ ay ∧ ay < 200
  pux : -700 ≤ ux ∧ ux ≤ 700
  puy : -700 ≤ uy ∧ uy ≤ 700
  pnz : ¬ (ux = 0 ∧ uy = 0)
  pw : 1 ≤ w ∧ w ≤ 12
  ph : 1 ≤ h ∧ h ≤ 12
  phr : 0 ≤ hr ∧ hr ≤ 23
theorem l8_range {z : Int} (h1 : 0 ≤ z) (h2 : z < 8) : 31 ≤ l8 z ∧ l8 z ≤ 700 := by
  have : z = 0 ∨ z = 1 ∨ z = 2 ∨ z = 3 ∨ z = 4 ∨ z = 5 ∨ z = 6 ∨ z = 7 := by omega
  rcases this with h | h | h | h | h | h | h | h <;> subst h <;> exact ⟨by decide, by decide⟩
theorem mx_facts (es : List PV) : 0 ≤ mx2 es ∧ mx2 es ≤ 700 ∧ 0 ≤ my1 es ∧ my1 es ≤ 27 ∧ ¬ (mx2 es = 0 ∧ my1 es = 0) := by
  have a1 := dn_ge es (pos es 5) (n := 40) (by omega)
  have a2 := dn_lt es (pos es 5) (n := 40) (by omega)
  have b1 := dn_ge es (pos es 6) (n := 4) (by omega)
  have b2 := dn_lt es (pos es 6) (n := 4) (by omega)
  have c1 := dn_ge es (pos es 7) (n := 10) (by omega)
  have c2 := dn_lt es (pos es 7) (n := 10) (by omega)
  have d1 := dn_ge es (pos es 10) (n := 3) (by omega)
  have d2 := dn_lt es (pos es 10) (n := 3) (by omega)
  have e := l8_range (dn_ge es (pos es 9) (n := 8) (by omega)) (dn_lt es (pos es 9) (n := 8) (by omega))
  have m1 : 0 ≤ dn es (pos es 6) 4 * dn es (pos es 7) 10 := Int.mul_nonneg b1 c1
  have m2 := (mul_bd (a := dn es (pos es 6) 4) (b := dn es (pos es 7) 10) (A := 3) (B := 9) (by omega) (by omega) (by omega) (by omega)).2
  have hy0 : my0 es = dn es (pos es 6) 4 * dn es (pos es 7) 10 := W_id (by omega) (by omega)
  unfold mx2
  cases hb : big es with
  | false =>
    have hx1 : mx1 es = mx0 es := by unfold mx1; rw [hb]; rfl
    have hy1 : my1 es = my0 es := by unfold my1; rw [hb]; rfl
    have hx0 : mx0 es = dn es (pos es 5) 40 := rfl
    cases hz : (mx1 es == 0) && (my1 es == 0) with
    | true =>
      rw [cond_true, hy1, hy0]
      exact ⟨by omega, by omega, m1, by omega, by omega⟩
    | false =>
      rw [cond_false, hx1, hx0, hy1, hy0]
      rw [hx1, hx0, hy1, hy0] at hz
      refine ⟨a1, by omega, m1, by omega, fun ⟨z1, z2⟩ => ?_⟩
      rw [z1, z2] at hz; simp at hz
  | true =>
    have hx1 : mx1 es = l8 (dn es (pos es 9) 8) := by unfold mx1; rw [hb]; rfl
    have hy1 : my1 es = dn es (pos es 10) 3 := by unfold my1; rw [hb]; rfl
    have hz : ((mx1 es == 0) && (my1 es == 0)) = false := by
      rw [hx1]
      have : (l8 (dn es (pos es 9) 8) == 0) = false := by simp; omega
      rw [this]; rfl
    rw [hz, cond_false, hx1, hy1]
    exact ⟨by omega, by omega, d1, by omega, by omega⟩
theorem turn_facts {x y n : Int} (h1 : 0 ≤ x) (h2 : x ≤ 700) (h3 : 0 ≤ y) (h4 : y ≤ 27) (hz : ¬ (x = 0 ∧ y = 0)) :
    -700 ≤ trx x y n ∧ trx x y n ≤ 700 ∧ -700 ≤ tryy x y n ∧ tryy x y n ≤ 700 ∧ ¬ (trx x y n = 0 ∧ tryy x y n = 0) := by
  unfold trx tryy
  rw [W_id (n := 0 - y) (by omega) (by omega), W_id (n := 0 - x) (by omega) (by omega), W_id (n := 0 - (0 - y)) (by omega) (by omega)]
  have h4 : n % 4 = 0 ∨ n % 4 = 1 ∨ n % 4 = 2 ∨ n % 4 = 3 := by omega
  rcases h4 with h | h | h | h <;> simp only [h] <;> simp <;> omega
theorem made_ok (es : List PV) : MadeOK (mAx es) (mAy es) (mUx es) (mUy es) (mW es) (mH es) (mHr es) := by
  obtain ⟨x1, x2, y1, y2, hz⟩ := mx_facts es
  obtain ⟨t1, t2, t3, t4, t5⟩ := turn_facts (n := mt es) x1 x2 y1 y2 hz
  have w1 := dn_ge es (pos es 2) (n := 12) (by omega)
  have w2 := dn_lt es (pos es 2) (n := 12) (by omega)
  have v1 := dn_ge es (pos es 3) (n := 12) (by omega)
  have v2 := dn_lt es (pos es 3) (n := 12) (by omega)
  have r1 := dn_ge es (pos es 4) (n := 24) (by omega)
  have r2 := dn_lt es (pos es 4) (n := 24) (by omega)
  have hw : mW es = 1 + dn es (pos es 2) 12 := W_id (by omega) (by omega)
  have hh : mH es = 1 + dn es (pos es 3) 12 := W_id (by omega) (by omega)
  exact ⟨⟨dn_ge es _ (by omega), dn_lt es _ (by omega)⟩, ⟨dn_ge es _ (by omega), dn_lt es _ (by omega)⟩, ⟨t1, t2⟩, ⟨t3, t4⟩, t5, by rw [hw]; omega, by rw [hh]; omega, ⟨r1, by unfold mHr; omega⟩⟩

/-- No number of a pixel's point wraps. -/
theorem wx_id {ax ux uy i j : Int} (ha : -4194304 ≤ ax ∧ ax ≤ 4194304) (hu : -1024 ≤ ux ∧ ux ≤ 1024) (hv : -1024 ≤ uy ∧ uy ≤ 1024) (hi : -64 ≤ i ∧ i ≤ 64) (hj : -64 ≤ j ∧ j ≤ 64) : wx ax ux uy i j = ax + i * ux - j * uy := by
  have m1 := mul_bd hi.1 hi.2 hu.1 hu.2
  have m2 := mul_bd hj.1 hj.2 hv.1 hv.2
  unfold wx
  rw [W_id (n := i * ux) (by omega) (by omega), W_id (n := j * uy) (by omega) (by omega), W_id (n := ax + i * ux) (by omega) (by omega), W_id (by omega) (by omega)]
theorem wy_id {ay ux uy i j : Int} (ha : -4194304 ≤ ay ∧ ay ≤ 4194304) (hu : -1024 ≤ ux ∧ ux ≤ 1024) (hv : -1024 ≤ uy ∧ uy ≤ 1024) (hi : -64 ≤ i ∧ i ≤ 64) (hj : -64 ≤ j ∧ j ≤ 64) : wy ay ux uy i j = ay + i * uy + j * ux := by
  have m1 := mul_bd hi.1 hi.2 hv.1 hv.2
  have m2 := mul_bd hj.1 hj.2 hu.1 hu.2
  unfold wy
  rw [W_id (n := i * uy) (by omega) (by omega), W_id (n := j * ux) (by omega) (by omega), W_id (n := ay + i * uy) (by omega) (by omega), W_id (by omega) (by omega)]

/-- A right view, in plain numbers. -/
structure Right (ax ay ux uy w h hr : Int) : Prop where
  pnz : ¬ (ux = 0 ∧ uy = 0)
  pux : -1024 ≤ ux ∧ ux ≤ 1024
  puy : -1024 ≤ uy ∧ uy ≤ 1024
  psq : ux * ux + uy * uy ≤ 1048576
  pw : 1 ≤ w ∧ w ≤ 64
  ph : 1 ≤ h ∧ h ≤ 64
  phr : 0 ≤ hr ∧ hr ≤ 23
  pax : -1048576 ≤ ax ∧ ax ≤ 1048576
  pay : -1048576 ≤ ay ∧ ay ≤ 1048576
def nearP (x y : Int) : Prop := -1048576 ≤ x ∧ x ≤ 1048576 ∧ -1048576 ≤ y ∧ y ≤ 1048576
theorem ck_iff {ax ay ux uy w h hr : Int} : ck ax ay ux uy w h hr = 0 ↔ Right ax ay ux uy w h hr ∧ nearP (ax + (w - 1) * ux) (ay + (w - 1) * uy) ∧ nearP (ax - (h - 1) * uy) (ay + (h - 1) * ux) ∧ nearP (ax + (w - 1) * ux - (h - 1) * uy) (ay + (w - 1) * uy + (h - 1) * ux) := by
  constructor
  · intro hc
    obtain ⟨h1, h2, h3, h4, h5, h6, h7, h8, h9, h10, h11, h12, h13, h14, h15⟩ := ck_zero hc
    have b2 := bey_false (by omega) h2
    have b3 := bey_false (by omega) h3
    have f := farX_false.1 h11
    rw [dotX_self b2.1 b2.2 b3.1 b3.2] at h4
    have hw : W (w - 1) = w - 1 := W_id (by omega) (by omega)
    have hh : W (h - 1) = h - 1 := W_id (by omega) (by omega)
    rw [hw] at h13 h15
    rw [hh] at h14 h15
    rw [wx_id (by omega) b2 b3 (by omega) (by omega), wy_id (by omega) b2 b3 (by omega) (by omega), farX_false] at h13 h14 h15
    rw [Int.zero_mul, Int.zero_mul] at h13 h14
    refine ⟨⟨h1, b2, b3, h4, ⟨h5, h6⟩, ⟨h7, h8⟩, ⟨h9, h10⟩, by omega, by omega⟩, ?_, ?_, h15⟩
    · unfold nearP; omega
    · unfold nearP; omega
  · rintro ⟨⟨h1, b2, b3, h4, h5, h7, h9, fa, fb⟩, n1, n2, n3⟩
    unfold nearP at n1 n2 n3
    have hw : W (w - 1) = w - 1 := W_id (by omega) (by omega)
    have hh : W (h - 1) = h - 1 := W_id (by omega) (by omega)
    unfold ck
    have e1 : ((ux == 0) && ((uy == 0) && true)) = false := by
      cases hu : (ux == 0) with
      | false => rfl
      | true =>
        cases hv : (uy == 0) with
        | false => rfl
        | true => exact absurd ⟨by simpa using hu, by simpa using hv⟩ h1
    have e4 : decide (dotX ux uy ux uy > 1048576) = false := by rw [dotX_self b2.1 b2.2 b3.1 b3.2]; simp; omega
    have e5 : decide (w < 1) = false := by simp; omega
    have e6 : decide (w > 64) = false := by simp; omega
    have e7 : decide (h < 1) = false := by simp; omega
    have e8 : decide (h > 64) = false := by simp; omega
    have e9 : decide (hr < 0) = false := by simp; omega
    have e10 : decide (hr > 23) = false := by simp; omega
    have e11 : farX ax ay = false := farX_false.2 (by omega)
    have e12 : farX (wx ax ux uy 0 0) (wy ay ux uy 0 0) = false := by
      rw [wx_id (by omega) b2 b3 (by omega) (by omega), wy_id (by omega) b2 b3 (by omega) (by omega), farX_false]; simp; omega
    have e13 : farX (wx ax ux uy (w - 1) 0) (wy ay ux uy (w - 1) 0) = false := by
      rw [wx_id (by omega) b2 b3 (by omega) (by omega), wy_id (by omega) b2 b3 (by omega) (by omega), farX_false, Int.zero_mul, Int.zero_mul]; omega
    have e14 : farX (wx ax ux uy 0 (h - 1)) (wy ay ux uy 0 (h - 1)) = false := by
      rw [wx_id (by omega) b2 b3 (by omega) (by omega), wy_id (by omega) b2 b3 (by omega) (by omega), farX_false, Int.zero_mul, Int.zero_mul]; omega
    have e15 : farX (wx ax ux uy (w - 1) (h - 1)) (wy ay ux uy (w - 1) (h - 1)) = false := by
      rw [wx_id (by omega) b2 b3 (by omega) (by omega), wy_id (by omega) b2 b3 (by omega) (by omega), farX_false]; omega
    rw [hw, hh, e1, bey_of (by omega) b2.1 b2.2, bey_of (by omega) b3.1 b3.2, e4, e5, e6, e7, e8, e9, e10, e11, e12, e13, e14, e15]
    rfl
theorem sq_bd {u v B : Int} (hu : -B ≤ u ∧ u ≤ B) (hv : -B ≤ v ∧ v ≤ B) : u * u + v * v ≤ B * B + B * B := by
  have m1 := (mul_bd hu.1 hu.2 hu.1 hu.2).2
  have m2 := (mul_bd hv.1 hv.2 hv.1 hv.2).2
  omega
theorem MadeOK.right {ax ay ux uy w h hr : Int} (m : MadeOK ax ay ux uy w h hr) : ck ax ay ux uy w h hr = 0 := by
  obtain ⟨h1, h2, h3, h4, h5, h6, h7, h8⟩ := m
  have m1 := mul_bd (a := w - 1) (b := ux) (A := 11) (B := 700) (by omega) (by omega) h3.1 h3.2
  have m2 := mul_bd (a := w - 1) (b := uy) (A := 11) (B := 700) (by omega) (by omega) h4.1 h4.2
  have m3 := mul_bd (a := h - 1) (b := ux) (A := 11) (B := 700) (by omega) (by omega) h3.1 h3.2
  have m4 := mul_bd (a := h - 1) (b := uy) (A := 11) (B := 700) (by omega) (by omega) h4.1 h4.2
  have s := sq_bd h3 h4
  refine ck_iff.2 ⟨⟨h5, by omega, by omega, by omega, by omega, by omega, by omega, by omega, by omega⟩, ?_, ?_, ?_⟩ <;> unfold nearP <;> omega
theorem mx4 (a b c d : Int) : (mxI (mxI (mxI (mxI a a) b) c) d = a ∨ mxI (mxI (mxI (mxI a a) b) c) d = b ∨ mxI (mxI (mxI (mxI a a) b) c) d = c ∨ mxI (mxI (mxI (mxI a a) b) c) d = d) ∧
    a ≤ mxI (mxI (mxI (mxI a a) b) c) d ∧ b ≤ mxI (mxI (mxI (mxI a a) b) c) d ∧ c ≤ mxI (mxI (mxI (mxI a a) b) c) d ∧ d ≤ mxI (mxI (mxI (mxI a a) b) c) d := by
  have s : ∀ x y, (mxI x y = x ∨ mxI x y = y) ∧ x ≤ mxI x y ∧ y ≤ mxI x y := by intro x y; unfold mxI; split <;> omega
  have h1 := s a a
  have h2 := s (mxI a a) b
  have h3 := s (mxI (mxI a a) b) c
  have h4 := s (mxI (mxI (mxI a a) b) c) d
  omega
theorem mn4 (a b c d : Int) : (mnI (mnI (mnI (mnI a a) b) c) d = a ∨ mnI (mnI (mnI (mnI a a) b) c) d = b ∨ mnI (mnI (mnI (mnI a a) b) c) d = c ∨ mnI (mnI (mnI (mnI a a) b) c) d = d) ∧
    mnI (mnI (mnI (mnI a a) b) c) d ≤ a ∧ mnI (mnI (mnI (mnI a a) b) c) d ≤ b ∧ mnI (mnI (mnI (mnI a a) b) c) d ≤ c ∧ mnI (mnI (mnI (mnI a a) b) c) d ≤ d := by
  have s : ∀ x y, (mnI x y = x ∨ mnI x y = y) ∧ mnI x y ≤ x ∧ mnI x y ≤ y := by intro x y; unfold mnI; split <;> omega
  have h1 := s a a
  have h2 := s (mnI a a) b
  have h3 := s (mnI (mnI a a) b) c
  have h4 := s (mnI (mnI (mnI a a) b) c) d
  omega
/-- The box's sides, plainly. -/
theorem bx1_id {ax ux uy w h : Int} (ha : -4194304 ≤ ax ∧ ax ≤ 4194304) (hu : -1024 ≤ ux ∧ ux ≤ 1024) (hv : -1024 ≤ uy ∧ uy ≤ 1024) (hw : 1 ≤ w ∧ w ≤ 64) (hh : 1 ≤ h ∧ h ≤ 64) :
    bx1 ax ux uy w h = mxI (mxI (mxI (mxI ax ax) (ax + (w - 1) * ux)) (ax - (h - 1) * uy)) (ax + (w - 1) * ux - (h - 1) * uy) := by
  have e1 : W (w - 1) = w - 1 := W_id (by omega) (by omega)
  have e2 : W (h - 1) = h - 1 := W_id (by omega) (by omega)
  unfold bx1
  rw [e1, e2, wx_id ha hu hv (i := 0) (j := 0) (by omega) (by omega), wx_id ha hu hv (i := w - 1) (j := 0) (by omega) (by omega), wx_id ha hu hv (i := 0) (j := h - 1) (by omega) (by omega), wx_id ha hu hv (i := w - 1) (j := h - 1) (by omega) (by omega)]
  simp only [Int.zero_mul, Int.add_zero, Int.sub_zero]
theorem bx0_id {ax ux uy w h : Int} (ha : -4194304 ≤ ax ∧ ax ≤ 4194304) (hu : -1024 ≤ ux ∧ ux ≤ 1024) (hv : -1024 ≤ uy ∧ uy ≤ 1024) (hw : 1 ≤ w ∧ w ≤ 64) (hh : 1 ≤ h ∧ h ≤ 64) :
    bx0 ax ux uy w h = mnI (mnI (mnI (mnI ax ax) (ax + (w - 1) * ux)) (ax - (h - 1) * uy)) (ax + (w - 1) * ux - (h - 1) * uy) := by
  have e1 : W (w - 1) = w - 1 := W_id (by omega) (by omega)
  have e2 : W (h - 1) = h - 1 := W_id (by omega) (by omega)
  unfold bx0
  rw [e1, e2, wx_id ha hu hv (i := 0) (j := 0) (by omega) (by omega), wx_id ha hu hv (i := w - 1) (j := 0) (by omega) (by omega), wx_id ha hu hv (i := 0) (j := h - 1) (by omega) (by omega), wx_id ha hu hv (i := w - 1) (j := h - 1) (by omega) (by omega)]
  simp only [Int.zero_mul, Int.add_zero, Int.sub_zero]
theorem by1_id {ay ux uy w h : Int} (ha : -4194304 ≤ ay ∧ ay ≤ 4194304) (hu : -1024 ≤ ux ∧ ux ≤ 1024) (hv : -1024 ≤ uy ∧ uy ≤ 1024) (hw : 1 ≤ w ∧ w ≤ 64) (hh : 1 ≤ h ∧ h ≤ 64) :
    by1 ay ux uy w h = mxI (mxI (mxI (mxI ay ay) (ay + (w - 1) * uy)) (ay + (h - 1) * ux)) (ay + (w - 1) * uy + (h - 1) * ux) := by
  have e1 : W (w - 1) = w - 1 := W_id (by omega) (by omega)
  have e2 : W (h - 1) = h - 1 := W_id (by omega) (by omega)
  unfold by1
  rw [e1, e2, wy_id ha hu hv (i := 0) (j := 0) (by omega) (by omega), wy_id ha hu hv (i := w - 1) (j := 0) (by omega) (by omega), wy_id ha hu hv (i := 0) (j := h - 1) (by omega) (by omega), wy_id ha hu hv (i := w - 1) (j := h - 1) (by omega) (by omega)]
  simp only [Int.zero_mul, Int.add_zero]
theorem by0_id {ay ux uy w h : Int} (ha : -4194304 ≤ ay ∧ ay ≤ 4194304) (hu : -1024 ≤ ux ∧ ux ≤ 1024) (hv : -1024 ≤ uy ∧ uy ≤ 1024) (hw : 1 ≤ w ∧ w ≤ 64) (hh : 1 ≤ h ∧ h ≤ 64) :
    by0 ay ux uy w h = mnI (mnI (mnI (mnI ay ay) (ay + (w - 1) * uy)) (ay + (h - 1) * ux)) (ay + (w - 1) * uy + (h - 1) * ux) := by
  have e1 : W (w - 1) = w - 1 := W_id (by omega) (by omega)
  have e2 : W (h - 1) = h - 1 := W_id (by omega) (by omega)
  unfold by0
  rw [e1, e2, wy_id ha hu hv (i := 0) (j := 0) (by omega) (by omega), wy_id ha hu hv (i := w - 1) (j := 0) (by omega) (by omega), wy_id ha hu hv (i := 0) (j := h - 1) (by omega) (by omega), wy_id ha hu hv (i := w - 1) (j := h - 1) (by omega) (by omega)]
  simp only [Int.zero_mul, Int.add_zero]
end Go.Hv
