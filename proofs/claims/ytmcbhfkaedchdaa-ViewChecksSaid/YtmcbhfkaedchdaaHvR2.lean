/- The view's reference: Check is the view's; Pixel. -/
import Derived.Test.YtmcbhfkaedchdaaHvR
namespace Go.Hv
open Go.Hx Go.Proofs
theorem orJ_false {p : Int → Bool} : ∀ (n : Nat) (j : Int), (∀ k, j ≤ k → k < j + n → p k = false) → orJ p n j = false
  | 0, j, _ => rfl
  | n + 1, j, h => by
    simp only [orJ, Bool.or_eq_false_iff]
    exact ⟨h j (by omega) (by omega), orJ_false n (j + 1) fun k h1 h2 => h k (by omega) (by omega)⟩
theorem bey_btw (a m : Int) (hm : 0 ≤ m ∧ m ≤ 1048576) : bey a m = !btw a (-m) m := by
  unfold bey btw
  rw [W_id (by omega) (by omega)]
  have e1 : decide (a < 0 - m) = !decide (-m ≤ a) := by
    by_cases h : -m ≤ a
    · simp [h] <;> omega
    · simp [h] <;> omega
  have e2 : decide (a > m) = !decide (a ≤ m) := by
    by_cases h : a ≤ m
    · simp [h] <;> omega
    · simp [h] <;> omega
  rw [e1, e2]
  cases decide (-m ≤ a) <;> cases decide (a ≤ m) <;> rfl
theorem farX_btw (a b : Int) : farX a b = (!btw a (-1048576) 1048576 || !btw b (-1048576) 1048576) := by
  have h1 := bey_btw a 1048576 (by omega)
  have h2 := bey_btw b 1048576 (by omega)
  unfold bey at h1 h2
  rw [W_id (by omega) (by omega)] at h1 h2
  unfold farX
  rw [← h1, ← h2]; rfl
theorem out13_far (ax ay ux uy i j : Int) : out13 ax ay ux uy i j = farX (wx ax ux uy i j) (wy ay ux uy i j) := (farX_btw _ _).symm
/-- The reference's Check says what the view's does. -/
theorem ckr_eq (ax ay ux uy w h hr : Int) : ckr ax ay ux uy w h hr = ck ax ay ux uy w h hr := by
  have num : ∀ (x m M k : Int) (y : Int), (bif !btw x m M then k else y) = bif decide (x < m) then k else bif decide (x > M) then k else y := by
    intro x m M k y
    unfold btw
    by_cases h1 : m ≤ x
    · by_cases h2 : x ≤ M
      · have e1 : decide (x < m) = false := by simp; omega
        have e2 : decide (x > M) = false := by simp; omega
        rw [e1, e2]; simp [h1, h2]
      · have e1 : decide (x < m) = false := by simp; omega
        have e2 : decide (x > M) = true := by simp; omega
        rw [e1, e2]; simp [h1, h2]
    · have e1 : decide (x < m) = true := by simp; omega
      rw [e1]; simp [h1]
  have two : ∀ (b c : Bool) (k y : Int), (bif b then k else bif c then k else y) = bif b || c then k else y := by
    intro b c k y; cases b <;> cases c <;> rfl
  unfold ckr ck
  rw [bey_btw ux 1024 (by omega), bey_btw uy 1024 (by omega), num w, num h, num hr, two (!btw ax (-1048576) 1048576) (!btw ay (-1048576) 1048576), ← farX_btw]
  show _ = (bif ((ux == 0) && ((uy == 0) && true)) then 1 else bif !btw ux (-1024) 1024 then 3 else bif !btw uy (-1024) 1024 then 3 else bif decide (W (W (ux * ux) + W (uy * uy)) > 1048576) then 3 else _)
  cases hz : ((ux == 0) && ((uy == 0) && true))
  · cases hu : !btw ux (-1024) 1024
    · cases hv : !btw uy (-1024) 1024
      · cases hs : decide (W (W (ux * ux) + W (uy * uy)) > 1048576)
        · cases hw1 : decide (w < 1)
          · cases hw2 : decide (w > 64)
            · cases hh1 : decide (h < 1)
              · cases hh2 : decide (h > 64)
                · cases hr1 : decide (hr < 0)
                  · cases hr2 : decide (hr > 23)
                    · cases hf : farX ax ay
                      · -- the corners
                        simp only [cond_false]
                        simp only [decide_eq_false_iff_not] at hs hw1 hw2 hh1 hh2 hr1 hr2
                        unfold btw at hu hv
                        simp at hu hv
                        have hww : W (w - 1) = w - 1 := W_id (by omega) (by omega)
                        have hhh : W (h - 1) = h - 1 := W_id (by omega) (by omega)
                        rw [hww, hhh]
                        have pt : ∀ {i j : Int}, 0 ≤ i ∧ i < w → 0 ≤ j ∧ j < h → farX (wx ax ux uy i j) (wy ay ux uy i j) = true → orJ (Out13 ax ay ux uy h) (w - 0).toNat 0 = true := fun {i j} hi hj hfar =>
                          orJ_true _ 0 i (by omega) (by omega) (orJ_true _ 0 j (by omega) (by omega) (by rw [out13_far]; exact hfar))
                        cases c1 : farX (wx ax ux uy 0 0) (wy ay ux uy 0 0)
                        · cases c2 : farX (wx ax ux uy (w - 1) 0) (wy ay ux uy (w - 1) 0)
                          · cases c3 : farX (wx ax ux uy 0 (h - 1)) (wy ay ux uy 0 (h - 1))
                            · cases c4 : farX (wx ax ux uy (w - 1) (h - 1)) (wy ay ux uy (w - 1) (h - 1))
                              · have hck : ck ax ay ux uy w h hr = 0 := by
                                  unfold ck
                                  rw [hz, bey_of (m := 1024) (by omega) (by omega) (by omega), bey_of (m := 1024) (by omega) (by omega) (by omega), show decide (dotX ux uy ux uy > 1048576) = false by simpa [dotX] using hs]
                                  rw [hww, hhh, hf, c1, c2, c3, c4]
                                  simp only [cond_false, show decide (w < 1) = false by simp; omega, show decide (w > 64) = false by simp; omega, show decide (h < 1) = false by simp; omega, show decide (h > 64) = false by simp; omega, show decide (hr < 0) = false by simp; omega, show decide (hr > 23) = false by simp; omega]
                                have : orJ (Out13 ax ay ux uy h) (w - 0).toNat 0 = false := orJ_false _ 0 fun i h1 h2 => orJ_false _ 0 fun j h3 h4 => by
                                  rw [out13_far]
                                  obtain ⟨e1, e2⟩ := wx_in hck (i := i) (j := j) (by omega) (by omega)
                                  rw [e1, e2]
                                  exact farX_false.2 (right_near hck (by omega) (by omega))
                                rw [this]; rfl
                              · rw [pt (by omega) (by omega) c4]; rfl
                            · rw [pt (by omega) (by omega) c3]; rfl
                          · rw [pt (by omega) (by omega) c2]; rfl
                        · rw [pt (by omega) (by omega) c1]; rfl
                      · rfl
                    · rfl
                  · rfl
                · rfl
              · rfl
            · rfl
          · rfl
        · rfl
      · rfl
    · rfl
  · rfl
def c13' : List PV → Option PV
  | [.agg [.val (.int .i64 ax), .val (.int .i64 ay), .val (.int .i64 ux), .val (.int .i64 uy), .val (.int .i64 w), .val (.int .i64 h), .val (.int .i64 hr)]] => some (iv (ck ax ay ux uy w h hr))
  | _ => none
theorem o13' (args : List PV) (r : PV) (h : c13' args = some r) : Enters Try.prog 13 ∧ PCall Try.prog 13 args r := by
  unfold c13' at h; split at h
  · cases h; exact o13 _ _ (by simp only [c13, ckr_eq])
  · cases h
def E9 : EnvK := E5 |>.addO 13 c13'
theorem ok9 : EnvOK Try.prog E9.env := ok5.addO o13'
end Go.Hv
