/- The view's reference: Part; another view (odd). -/
import Derived.Test.YtmcbhfkaedchdaaHvR3
namespace Go.Hv
open Go.Hx Go.Proofs
theorem q24 (ax ay ux uy w h hr i j n m : Int) : runP Try.prog E9 60 24 [vwv ax ay ux uy w h hr, iv i, iv j, iv n, iv m] =
  bif ck ax ay ux uy w h hr != 0 then some (pwv 0 0 0 0 0 0 0 false) else bif !btw i 0 (W (w - 1)) then some (pwv 0 0 0 0 0 0 0 false) else bif !btw j 0 (W (h - 1)) then some (pwv 0 0 0 0 0 0 0 false)
  else bif !btw n 1 (W (w - i)) then some (pwv 0 0 0 0 0 0 0 false) else bif !btw m 1 (W (h - j)) then some (pwv 0 0 0 0 0 0 0 false)
  else some (pwv (wx ax ux uy i j) (wy ay ux uy i j) ux uy n m hr true) := by kernel_rfl
theorem part_eq (ax ay ux uy w h hr i j n m : Int) : runP Try.prog E9 60 24 [vwv ax ay ux uy w h hr, iv i, iv j, iv n, iv m] = c23 [vwv ax ay ux uy w h hr, iv i, iv j, iv n, iv m] := by
  rw [q24]
  simp only [c23, pok, ok0]
  by_cases hc : ck ax ay ux uy w h hr = 0
  · have hR := (ck_iff.1 hc).1
    have hw := hR.pw
    have hh := hR.ph
    have e0 : (ck ax ay ux uy w h hr != 0) = false := by simp [hc]
    have w1 : W (w - 1) = w - 1 := W_id (by omega) (by omega)
    have w2 : W (h - 1) = h - 1 := W_id (by omega) (by omega)
    have b1 : btw i 0 (w - 1) = (!decide (i < 0) && !decide (i ≥ w)) := by
      unfold btw
      by_cases a : 0 ≤ i
      · by_cases b : i < w
        · simp [show decide (i ≤ w - 1) = true by simp; omega, a, show ¬ (i < 0) by omega, show ¬ (w ≤ i) by omega]
        · simp [show decide (i ≤ w - 1) = false by simp; omega, show w ≤ i by omega]
      · simp [a, show i < 0 by omega]
    have b2 : btw j 0 (h - 1) = (!decide (j < 0) && !decide (j ≥ h)) := by
      unfold btw
      by_cases a : 0 ≤ j
      · by_cases b : j < h
        · simp [show decide (j ≤ h - 1) = true by simp; omega, a, show ¬ (j < 0) by omega, show ¬ (h ≤ j) by omega]
        · simp [show decide (j ≤ h - 1) = false by simp; omega, show h ≤ j by omega]
      · simp [a, show j < 0 by omega]
    have b3 : ∀ (x M : Int), btw x 1 M = (!decide (x < 1) && !decide (x > M)) := by
      intro x M
      unfold btw
      by_cases a : 1 ≤ x
      · by_cases b : x ≤ M
        · simp [a, b, show ¬ (x < 1) by omega, show ¬ (M < x) by omega]
        · simp [b, show M < x by omega]
      · simp [a, show x < 1 by omega]
    rw [e0, w1, w2, b1, b2, b3, b3]
    cases decide (i < 0) <;> cases decide (i ≥ w) <;> cases decide (j < 0) <;> cases decide (j ≥ h) <;> cases decide (n < 1) <;> cases decide (n > W (w - i)) <;> cases decide (m < 1) <;> cases decide (m > W (h - j)) <;> rfl
  · have e0 : (ck ax ay ux uy w h hr != 0) = true := by simp [hc]
    rw [e0]; rfl
theorem o24 (args : List PV) (r : PV) (h : c23 args = some r) : Enters Try.prog 24 ∧ PCall Try.prog 24 args r := by
  unfold c23 at h; split at h
  · rename_i ax ay ux uy w h' hr i j n m
    refine runP_sound ok9 (n := 60) ?_
    rw [part_eq]; exact h
  · cases h
end Go.Hv
