/- The view: ViewLimits answers true. -/
import Derived.Test.YtmcbhfkaedchdaaHvM
namespace Go.Hv
open Go.Hx Go.Proofs
def BX0 (ax ay ux uy w h hr : Int) : Int := bif ok0 ax ay ux uy w h hr then bx0 ax ux uy w h else 0
def BY0 (ax ay ux uy w h hr : Int) : Int := bif ok0 ax ay ux uy w h hr then by0 ay ux uy w h else 0
def BX1 (ax ay ux uy w h hr : Int) : Int := bif ok0 ax ay ux uy w h hr then bx1 ax ux uy w h else 0
def BY1 (ax ay ux uy w h hr : Int) : Int := bif ok0 ax ay ux uy w h hr then by1 ay ux uy w h else 0
def fin8 (ax ay dx dy ux uy w h hr : Int) : Option PV :=
  bif ck ax ay ux uy w h hr == 0 then
    bif ck (addX ax dx) (addX ay dy) ux uy w h hr == 10 then
      some (bv ((BX0 (addX ax dx) (addX ay dy) ux uy w h hr == 0) && ((BY0 (addX ax dx) (addX ay dy) ux uy w h hr == 0) && ((BX1 (addX ax dx) (addX ay dy) ux uy w h hr == 0) && ((BY1 (addX ax dx) (addX ay dy) ux uy w h hr == 0) && true)))))
    else some (bv false)
  else some (bv false)
def lim (ax ay ux uy w h hr side : Int) : Option PV :=
  bif Int.tmod side 4 == 0 then fin8 (W (ax + W (1048576 - BX1 ax ay ux uy w h hr))) ay 1 0 ux uy w h hr
  else bif Int.tmod side 4 == 1 then fin8 (W (ax - W (1048576 + BX0 ax ay ux uy w h hr))) ay (-1) 0 ux uy w h hr
  else bif Int.tmod side 4 == 2 then fin8 ax (W (ay + W (1048576 - BY1 ax ay ux uy w h hr))) 0 1 ux uy w h hr
  else bif Int.tmod side 4 == 3 then fin8 ax (W (ay - W (1048576 + BY0 ax ay ux uy w h hr))) 0 (-1) ux uy w h hr
  else fin8 ax ay 0 0 ux uy w h hr
theorem q8 (f : Bool) (es : List PV) (side : Int) : runP Try.prog E5 60 8 [.lst f 3 es, .val (.int .u8 side)] = lim (mAx es) (mAy es) (mUx es) (mUy es) (mW es) (mH es) (mHr es) side := by kernel_rfl
theorem ok0_of {ax ay ux uy w h hr : Int} (hc : ck ax ay ux uy w h hr = 0) : ok0 ax ay ux uy w h hr = true := by unfold ok0; rw [hc]; rfl
theorem ok0_not {ax ay ux uy w h hr : Int} (hc : ck ax ay ux uy w h hr ≠ 0) : ok0 ax ay ux uy w h hr = false := by
  unfold ok0
  have : (ck ax ay ux uy w h hr != 0) = true := by simpa using hc
  rw [this]; rfl
/-- A view whose numbers are right, and which has a corner that is far. -/
theorem ck_ten {ax ay ux uy w h hr : Int} (r1 : ¬ (ux = 0 ∧ uy = 0)) (r2 : -1024 ≤ ux ∧ ux ≤ 1024) (r3 : -1024 ≤ uy ∧ uy ≤ 1024) (r4 : ux * ux + uy * uy ≤ 1048576) (r5 : 1 ≤ w ∧ w ≤ 64) (r6 : 1 ≤ h ∧ h ≤ 64) (r7 : 0 ≤ hr ∧ hr ≤ 23) (hc : ck ax ay ux uy w h hr ≠ 0) : ck ax ay ux uy w h hr = 10 := by
  unfold ck at hc ⊢
  have e1 : ((ux == 0) && ((uy == 0) && true)) = false := by
    cases hu : (ux == 0) with
    | false => rfl
    | true =>
      cases hv : (uy == 0) with
      | false => rfl
      | true => exact absurd ⟨by simpa using hu, by simpa using hv⟩ r1
  have e4 : decide (dotX ux uy ux uy > 1048576) = false := by rw [dotX_self r2.1 r2.2 r3.1 r3.2]; simp; omega
  have e5 : decide (w < 1) = false := by simp; omega
  have e6 : decide (w > 64) = false := by simp; omega
  have e7 : decide (h < 1) = false := by simp; omega
  have e8 : decide (h > 64) = false := by simp; omega
  have e9 : decide (hr < 0) = false := by simp; omega
  have e10 : decide (hr > 23) = false := by simp; omega
  rw [e1, bey_of (by omega) r2.1 r2.2, bey_of (by omega) r3.1 r3.2, e4, e5, e6, e7, e8, e9, e10] at hc ⊢
  simp only [cond_false] at hc ⊢
  revert hc
  cases farX ax ay <;> cases farX (wx ax ux uy 0 0) (wy ay ux uy 0 0) <;> cases farX (wx ax ux uy (W (w - 1)) 0) (wy ay ux uy (W (w - 1)) 0) <;> cases farX (wx ax ux uy 0 (W (h - 1))) (wy ay ux uy 0 (W (h - 1))) <;>
    cases farX (wx ax ux uy (W (w - 1)) (W (h - 1))) (wy ay ux uy (W (w - 1)) (W (h - 1))) <;> first | (intro _; rfl) | (intro hc; exact absurd rfl hc)
theorem fin8_true {ax ay dx dy ux uy w h hr : Int} (r1 : ¬ (ux = 0 ∧ uy = 0)) (r2 : -1024 ≤ ux ∧ ux ≤ 1024) (r3 : -1024 ≤ uy ∧ uy ≤ 1024) (r4 : ux * ux + uy * uy ≤ 1048576) (r5 : 1 ≤ w ∧ w ≤ 64) (r6 : 1 ≤ h ∧ h ≤ 64) (r7 : 0 ≤ hr ∧ hr ≤ 23)
    (h1 : ck ax ay ux uy w h hr = 0) (h2 : ck (addX ax dx) (addX ay dy) ux uy w h hr ≠ 0) : fin8 ax ay dx dy ux uy w h hr = some (bv true) := by
  unfold fin8 BX0 BX1 BY0 BY1
  rw [h1, ck_ten r1 r2 r3 r4 r5 r6 r7 h2, ok0_not h2]
  rfl
theorem key8 {ux uy w h hr a b dx dy : Int} (h5 : ¬ (ux = 0 ∧ uy = 0)) (r2 : -1024 ≤ ux ∧ ux ≤ 1024) (r3 : -1024 ≤ uy ∧ uy ≤ 1024) (r4 : ux * ux + uy * uy ≤ 1048576) (r5 : 1 ≤ w ∧ w ≤ 64) (r6 : 1 ≤ h ∧ h ≤ 64) (r7 : 0 ≤ hr ∧ hr ≤ 23)
    (ha : -1048576 ≤ a ∧ a ≤ 1048576) (hb : -1048576 ≤ b ∧ b ≤ 1048576)
    (n1 : nearP (a + (w - 1) * ux) (b + (w - 1) * uy)) (n2 : nearP (a - (h - 1) * uy) (b + (h - 1) * ux)) (n3 : nearP (a + (w - 1) * ux - (h - 1) * uy) (b + (w - 1) * uy + (h - 1) * ux)) (hdx : -1 ≤ dx ∧ dx ≤ 1) (hdy : -1 ≤ dy ∧ dy ≤ 1)
    (hn : ¬ ((-1048576 ≤ a + dx ∧ a + dx ≤ 1048576 ∧ -1048576 ≤ b + dy ∧ b + dy ≤ 1048576) ∧ nearP (a + dx + (w - 1) * ux) (b + dy + (w - 1) * uy) ∧ nearP (a + dx - (h - 1) * uy) (b + dy + (h - 1) * ux) ∧ nearP (a + dx + (w - 1) * ux - (h - 1) * uy) (b + dy + (w - 1) * uy + (h - 1) * ux))) :
    fin8 a b dx dy ux uy w h hr = some (bv true) := by
  have hR : Right a b ux uy w h hr := ⟨h5, r2, r3, r4, r5, r6, r7, ha, hb⟩
  refine fin8_true h5 r2 r3 r4 r5 r6 r7 (ck_iff.2 ⟨hR, n1, n2, n3⟩) fun hck => hn ?_
  have e1 : addX a dx = a + dx := W_id (by omega) (by omega)
  have e2 : addX b dy = b + dy := W_id (by omega) (by omega)
  rw [e1, e2] at hck
  obtain ⟨g, g1, g2, g3⟩ := ck_iff.1 hck
  exact ⟨⟨g.pax.1, g.pax.2, g.pay.1, g.pay.2⟩, g1, g2, g3⟩
/-- The corners' numbers of a made view. -/
structure Corn (ax ay p q r s : Int) : Prop where
  ha : 0 ≤ ax ∧ ax < 300
  hb : 0 ≤ ay ∧ ay < 200
  hp : -7700 ≤ p ∧ p ≤ 7700
  hq : -7700 ≤ q ∧ q ≤ 7700
  hr : -7700 ≤ r ∧ r ≤ 7700
  hs : -7700 ≤ s ∧ s ≤ 7700
theorem corn0 {ax ay p q r s X : Int} (c : Corn ax ay p q r s) (hX : (X = ax ∨ X = ax + p ∨ X = ax - q ∨ X = ax + p - q) ∧ ax ≤ X ∧ ax + p ≤ X ∧ ax - q ≤ X ∧ ax + p - q ≤ X) :
    (-1048576 ≤ ax + (1048576 - X) ∧ ax + (1048576 - X) ≤ 1048576) ∧ (-1048576 ≤ ay ∧ ay ≤ 1048576) ∧ nearP (ax + (1048576 - X) + p) (ay + r) ∧ nearP (ax + (1048576 - X) - q) (ay + s) ∧ nearP (ax + (1048576 - X) + p - q) (ay + r + s) ∧
    ¬ ((-1048576 ≤ ax + (1048576 - X) + 1 ∧ ax + (1048576 - X) + 1 ≤ 1048576 ∧ -1048576 ≤ ay + 0 ∧ ay + 0 ≤ 1048576) ∧ nearP (ax + (1048576 - X) + 1 + p) (ay + 0 + r) ∧ nearP (ax + (1048576 - X) + 1 - q) (ay + 0 + s) ∧ nearP (ax + (1048576 - X) + 1 + p - q) (ay + 0 + r + s)) := by
  obtain ⟨c1, c2, c3, c4, c5, c6⟩ := c
  unfold nearP
  refine ⟨by omega, by omega, by omega, by omega, by omega, ?_⟩
  rcases hX.1 with h | h | h | h <;> subst h <;> omega
theorem corn1 {ax ay p q r s X : Int} (c : Corn ax ay p q r s) (hX : (X = ax ∨ X = ax + p ∨ X = ax - q ∨ X = ax + p - q) ∧ X ≤ ax ∧ X ≤ ax + p ∧ X ≤ ax - q ∧ X ≤ ax + p - q) :
    (-1048576 ≤ ax - (1048576 + X) ∧ ax - (1048576 + X) ≤ 1048576) ∧ (-1048576 ≤ ay ∧ ay ≤ 1048576) ∧ nearP (ax - (1048576 + X) + p) (ay + r) ∧ nearP (ax - (1048576 + X) - q) (ay + s) ∧ nearP (ax - (1048576 + X) + p - q) (ay + r + s) ∧
    ¬ ((-1048576 ≤ ax - (1048576 + X) + -1 ∧ ax - (1048576 + X) + -1 ≤ 1048576 ∧ -1048576 ≤ ay + 0 ∧ ay + 0 ≤ 1048576) ∧ nearP (ax - (1048576 + X) + -1 + p) (ay + 0 + r) ∧ nearP (ax - (1048576 + X) + -1 - q) (ay + 0 + s) ∧ nearP (ax - (1048576 + X) + -1 + p - q) (ay + 0 + r + s)) := by
  obtain ⟨c1, c2, c3, c4, c5, c6⟩ := c
  unfold nearP
  refine ⟨by omega, by omega, by omega, by omega, by omega, ?_⟩
  rcases hX.1 with h | h | h | h <;> subst h <;> omega
theorem corn2 {ax ay p q r s Y : Int} (c : Corn ax ay p q r s) (hY : (Y = ay ∨ Y = ay + r ∨ Y = ay + s ∨ Y = ay + r + s) ∧ ay ≤ Y ∧ ay + r ≤ Y ∧ ay + s ≤ Y ∧ ay + r + s ≤ Y) :
    (-1048576 ≤ ax ∧ ax ≤ 1048576) ∧ (-1048576 ≤ ay + (1048576 - Y) ∧ ay + (1048576 - Y) ≤ 1048576) ∧ nearP (ax + p) (ay + (1048576 - Y) + r) ∧ nearP (ax - q) (ay + (1048576 - Y) + s) ∧ nearP (ax + p - q) (ay + (1048576 - Y) + r + s) ∧
    ¬ ((-1048576 ≤ ax + 0 ∧ ax + 0 ≤ 1048576 ∧ -1048576 ≤ ay + (1048576 - Y) + 1 ∧ ay + (1048576 - Y) + 1 ≤ 1048576) ∧ nearP (ax + 0 + p) (ay + (1048576 - Y) + 1 + r) ∧ nearP (ax + 0 - q) (ay + (1048576 - Y) + 1 + s) ∧ nearP (ax + 0 + p - q) (ay + (1048576 - Y) + 1 + r + s)) := by
  obtain ⟨c1, c2, c3, c4, c5, c6⟩ := c
  unfold nearP
  refine ⟨by omega, by omega, by omega, by omega, by omega, ?_⟩
  rcases hY.1 with h | h | h | h <;> subst h <;> omega
theorem corn3 {ax ay p q r s Y : Int} (c : Corn ax ay p q r s) (hY : (Y = ay ∨ Y = ay + r ∨ Y = ay + s ∨ Y = ay + r + s) ∧ Y ≤ ay ∧ Y ≤ ay + r ∧ Y ≤ ay + s ∧ Y ≤ ay + r + s) :
    (-1048576 ≤ ax ∧ ax ≤ 1048576) ∧ (-1048576 ≤ ay - (1048576 + Y) ∧ ay - (1048576 + Y) ≤ 1048576) ∧ nearP (ax + p) (ay - (1048576 + Y) + r) ∧ nearP (ax - q) (ay - (1048576 + Y) + s) ∧ nearP (ax + p - q) (ay - (1048576 + Y) + r + s) ∧
    ¬ ((-1048576 ≤ ax + 0 ∧ ax + 0 ≤ 1048576 ∧ -1048576 ≤ ay - (1048576 + Y) + -1 ∧ ay - (1048576 + Y) + -1 ≤ 1048576) ∧ nearP (ax + 0 + p) (ay - (1048576 + Y) + -1 + r) ∧ nearP (ax + 0 - q) (ay - (1048576 + Y) + -1 + s) ∧ nearP (ax + 0 + p - q) (ay - (1048576 + Y) + -1 + r + s)) := by
  obtain ⟨c1, c2, c3, c4, c5, c6⟩ := c
  unfold nearP
  refine ⟨by omega, by omega, by omega, by omega, by omega, ?_⟩
  rcases hY.1 with h | h | h | h <;> subst h <;> omega
theorem corn_bd {ax ay p q r s X Y : Int} (c : Corn ax ay p q r s) (hX : X = ax ∨ X = ax + p ∨ X = ax - q ∨ X = ax + p - q) (hY : Y = ay ∨ Y = ay + r ∨ Y = ay + s ∨ Y = ay + r + s) : -20000 ≤ X ∧ X ≤ 20000 ∧ -20000 ≤ Y ∧ Y ≤ 20000 := by
  obtain ⟨c1, c2, c3, c4, c5, c6⟩ := c
  have : -20000 ≤ X ∧ X ≤ 20000 := by omega
  have : -20000 ≤ Y ∧ Y ≤ 20000 := by omega
  omega
theorem MadeOK.corn {ax ay ux uy w h hr : Int} (m : MadeOK ax ay ux uy w h hr) : Corn ax ay ((w - 1) * ux) ((h - 1) * uy) ((w - 1) * uy) ((h - 1) * ux) := by
  obtain ⟨h1, h2, h3, h4, h5, h6, h7, h8⟩ := m
  have m1 := mul_bd (a := w - 1) (b := ux) (A := 11) (B := 700) (by omega) (by omega) h3.1 h3.2
  have m2 := mul_bd (a := w - 1) (b := uy) (A := 11) (B := 700) (by omega) (by omega) h4.1 h4.2
  have m3 := mul_bd (a := h - 1) (b := ux) (A := 11) (B := 700) (by omega) (by omega) h3.1 h3.2
  have m4 := mul_bd (a := h - 1) (b := uy) (A := 11) (B := 700) (by omega) (by omega) h4.1 h4.2
  exact ⟨h1, h2, by omega, by omega, by omega, by omega⟩
theorem lim_true {ax ay ux uy w h hr side : Int} (m : MadeOK ax ay ux uy w h hr) (hs : 0 ≤ side ∧ side < 256) : lim ax ay ux uy w h hr side = some (bv true) := by
  have hc := m.right
  have c := m.corn
  obtain ⟨h1, h2, h3, h4, h5, h6, h7, h8⟩ := m
  have s := sq_bd h3 h4
  have r2 : -1024 ≤ ux ∧ ux ≤ 1024 := by omega
  have r3 : -1024 ≤ uy ∧ uy ≤ 1024 := by omega
  have r4 : ux * ux + uy * uy ≤ 1048576 := by omega
  have r5 : 1 ≤ w ∧ w ≤ 64 := by omega
  have r6 : 1 ≤ h ∧ h ≤ 64 := by omega
  have fx1 := mx4 ax (ax + (w - 1) * ux) (ax - (h - 1) * uy) (ax + (w - 1) * ux - (h - 1) * uy)
  have fx0 := mn4 ax (ax + (w - 1) * ux) (ax - (h - 1) * uy) (ax + (w - 1) * ux - (h - 1) * uy)
  have fy1 := mx4 ay (ay + (w - 1) * uy) (ay + (h - 1) * ux) (ay + (w - 1) * uy + (h - 1) * ux)
  have fy0 := mn4 ay (ay + (w - 1) * uy) (ay + (h - 1) * ux) (ay + (w - 1) * uy + (h - 1) * ux)
  rw [← bx1_id (ax := ax) (h := h) (w := w) (by omega) r2 r3 r5 r6] at fx1
  rw [← bx0_id (ax := ax) (h := h) (w := w) (by omega) r2 r3 r5 r6] at fx0
  rw [← by1_id (ay := ay) (h := h) (w := w) (by omega) r2 r3 r5 r6] at fy1
  rw [← by0_id (ay := ay) (h := h) (w := w) (by omega) r2 r3 r5 r6] at fy0
  have hok := ok0_of hc
  unfold lim BX1 BX0 BY1 BY0
  rw [hok]
  simp only [cond_true]
  have ht : Int.tmod side 4 = side % 4 := Int.tmod_eq_emod_of_nonneg hs.1
  have h4c : side % 4 = 0 ∨ side % 4 = 1 ∨ side % 4 = 2 ∨ side % 4 = 3 := by omega
  have bd1 := corn_bd c fx1.1 fy1.1
  have bd0 := corn_bd c fx0.1 fy0.1
  generalize bx1 ax ux uy w h = X1 at *
  generalize bx0 ax ux uy w h = X0 at *
  generalize by1 ay ux uy w h = Y1 at *
  generalize by0 ay ux uy w h = Y0 at *
  rcases h4c with g | g | g | g
  · have k := corn0 c fx1
    clear fx0 fy0 fy1 fx1
    rw [ht, g, show ((0 : Int) == 0) = true from rfl, cond_true, W_id (n := 1048576 - X1) (by omega) (by omega), W_id (n := ax + (1048576 - X1)) (by omega) (by omega)]
    exact key8 h5 r2 r3 r4 r5 r6 h8 k.1 k.2.1 k.2.2.1 k.2.2.2.1 k.2.2.2.2.1 (by omega) (by omega) k.2.2.2.2.2
  · have k := corn1 c fx0
    clear fx0 fy0 fy1 fx1
    rw [ht, g, show ((1 : Int) == 0) = false from rfl, cond_false, show ((1 : Int) == 1) = true from rfl, cond_true, W_id (n := 1048576 + X0) (by omega) (by omega), W_id (n := ax - (1048576 + X0)) (by omega) (by omega)]
    exact key8 h5 r2 r3 r4 r5 r6 h8 k.1 k.2.1 k.2.2.1 k.2.2.2.1 k.2.2.2.2.1 (by omega) (by omega) k.2.2.2.2.2
  · have k := corn2 c fy1
    clear fx0 fy0 fy1 fx1
    rw [ht, g, show ((2 : Int) == 0) = false from rfl, cond_false, show ((2 : Int) == 1) = false from rfl, cond_false, show ((2 : Int) == 2) = true from rfl, cond_true, W_id (n := 1048576 - Y1) (by omega) (by omega), W_id (n := ay + (1048576 - Y1)) (by omega) (by omega)]
    exact key8 h5 r2 r3 r4 r5 r6 h8 k.1 k.2.1 k.2.2.1 k.2.2.2.1 k.2.2.2.2.1 (by omega) (by omega) k.2.2.2.2.2
  · have k := corn3 c fy0
    clear fx0 fy0 fy1 fx1
    rw [ht, g, show ((3 : Int) == 0) = false from rfl, cond_false, show ((3 : Int) == 1) = false from rfl, cond_false, show ((3 : Int) == 2) = false from rfl, cond_false, show ((3 : Int) == 3) = true from rfl, cond_true, W_id (n := 1048576 + Y0) (by omega) (by omega), W_id (n := ay - (1048576 + Y0)) (by omega) (by omega)]
    exact key8 h5 r2 r3 r4 r5 r6 h8 k.1 k.2.1 k.2.2.1 k.2.2.2.1 k.2.2.2.2.1 (by omega) (by omega) k.2.2.2.2.2
theorem law8 (f : Bool) (es : List PV) {side : Int} (hs : 0 ≤ side ∧ side < 256) : Enters Try.prog 8 ∧ PCall Try.prog 8 [.lst f 3 es, .val (.int .u8 side)] (bv true) :=
  runP_sound ok5 (n := 60) (by rw [q8, lim_true (made_ok es) hs])
end Go.Hv
