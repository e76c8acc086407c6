/- The view: Box, Pixel, Part, sanity. -/
import Derived.Test.YtmcbhfkaedchdaaHvC
namespace Go.Hv
open Go.Hx Go.Proofs
def bx0 (ax ux uy w h : Int) : Int := mnI (mnI (mnI (mnI (wx ax ux uy 0 0) (wx ax ux uy 0 0)) (wx ax ux uy (W (w - 1)) 0)) (wx ax ux uy 0 (W (h - 1)))) (wx ax ux uy (W (w - 1)) (W (h - 1)))
def by0 (ay ux uy w h : Int) : Int := mnI (mnI (mnI (mnI (wy ay ux uy 0 0) (wy ay ux uy 0 0)) (wy ay ux uy (W (w - 1)) 0)) (wy ay ux uy 0 (W (h - 1)))) (wy ay ux uy (W (w - 1)) (W (h - 1)))
def bx1 (ax ux uy w h : Int) : Int := mxI (mxI (mxI (mxI (wx ax ux uy 0 0) (wx ax ux uy 0 0)) (wx ax ux uy (W (w - 1)) 0)) (wx ax ux uy 0 (W (h - 1)))) (wx ax ux uy (W (w - 1)) (W (h - 1)))
def by1 (ay ux uy w h : Int) : Int := mxI (mxI (mxI (mxI (wy ay ux uy 0 0) (wy ay ux uy 0 0)) (wy ay ux uy (W (w - 1)) 0)) (wy ay ux uy 0 (W (h - 1)))) (wy ay ux uy (W (w - 1)) (W (h - 1)))
abbrev rcv (a b c d : Int) : PV := .agg [iv a, iv b, iv c, iv d]
def ok0 (ax ay ux uy w h hr : Int) : Bool := !(ck ax ay ux uy w h hr != 0)
def c16 : List PV → Option PV
  | [.agg [.val (.int .i64 ax), .val (.int .i64 ay), .val (.int .i64 ux), .val (.int .i64 uy), .val (.int .i64 w), .val (.int .i64 h), .val (.int .i64 hr)]] =>
    some (rcv (bif ok0 ax ay ux uy w h hr then bx0 ax ux uy w h else 0) (bif ok0 ax ay ux uy w h hr then by0 ay ux uy w h else 0) (bif ok0 ax ay ux uy w h hr then bx1 ax ux uy w h else 0) (bif ok0 ax ay ux uy w h hr then by1 ay ux uy w h else 0))
  | _ => none
theorem q16 (ax ay ux uy w h hr : Int) : runP Try.prog E2 60 16 [vwv ax ay ux uy w h hr] =
  bif ck ax ay ux uy w h hr != 0 then some (rcv 0 0 0 0) else some (rcv (bx0 ax ux uy w h) (by0 ay ux uy w h) (bx1 ax ux uy w h) (by1 ay ux uy w h)) := by kernel_rfl
theorem o16 (args : List PV) (r : PV) (h : c16 args = some r) : Enters Try.prog 16 ∧ PCall Try.prog 16 args r := by
  unfold c16 at h; split at h
  · rename_i ax ay ux uy w h' hr
    cases h
    refine runP_sound ok2 (n := 60) ?_
    rw [q16]; unfold ok0
    cases (ck ax ay ux uy w h' hr != 0) <;> rfl
  · cases h

abbrev t3 (a b : Int) (c : Bool) : PV := .tup [iv a, iv b, bv c]
def px0 (ax ay ux uy a b : Int) : Int := W (Int.tdiv (dotX (subX a ax) (subX b ay) ux uy) (dotX ux uy ux uy))
def px1 (ax ay ux uy a b : Int) : Int := W (Int.tdiv (crsX ux uy (subX a ax) (subX b ay)) (dotX ux uy ux uy))
def pin (ax ay ux uy w h hr a b : Int) : Bool :=
  ok0 ax ay ux uy w h hr && !farX a b && decide (0 ≤ px0 ax ay ux uy a b) && decide (0 ≤ px1 ax ay ux uy a b) && decide (px0 ax ay ux uy a b < w) && decide (px1 ax ay ux uy a b < h) &&
    (wx ax ux uy (px0 ax ay ux uy a b) (px1 ax ay ux uy a b) == a) && (wy ay ux uy (px0 ax ay ux uy a b) (px1 ax ay ux uy a b) == b)
def c21 : List PV → Option PV
  | [.agg [.val (.int .i64 ax), .val (.int .i64 ay), .val (.int .i64 ux), .val (.int .i64 uy), .val (.int .i64 w), .val (.int .i64 h), .val (.int .i64 hr)], .agg [.val (.int .i64 a), .val (.int .i64 b)]] =>
    some (t3 (bif pin ax ay ux uy w h hr a b then px0 ax ay ux uy a b else 0) (bif pin ax ay ux uy w h hr a b then px1 ax ay ux uy a b else 0) (pin ax ay ux uy w h hr a b))
  | _ => none
theorem q21 (ax ay ux uy w h hr a b : Int) : runP Try.prog E2 60 21 [vwv ax ay ux uy w h hr, ptv a b] =
  bif ck ax ay ux uy w h hr != 0 then some (t3 0 0 false) else bif farX a b then some (t3 0 0 false) else
  bif !decide (dotX ux uy ux uy = 0) then bif !decide (dotX ux uy ux uy = 0) then
    bif decide (0 ≤ px0 ax ay ux uy a b) then
      bif decide (0 ≤ px1 ax ay ux uy a b) then
        bif !((decide (px0 ax ay ux uy a b < w) == true) && ((decide (px1 ax ay ux uy a b < h) == true) && true)) then some (t3 0 0 false)
        else bif !((wx ax ux uy (px0 ax ay ux uy a b) (px1 ax ay ux uy a b) == a) && ((wy ay ux uy (px0 ax ay ux uy a b) (px1 ax ay ux uy a b) == b) && true)) then some (t3 0 0 false)
        else some (t3 (px0 ax ay ux uy a b) (px1 ax ay ux uy a b) true)
      else
        bif !((decide (px0 ax ay ux uy a b < w) == true) && false) then some (t3 0 0 false)
        else bif !((wx ax ux uy (px0 ax ay ux uy a b) (px1 ax ay ux uy a b) == a) && ((wy ay ux uy (px0 ax ay ux uy a b) (px1 ax ay ux uy a b) == b) && true)) then some (t3 0 0 false)
        else some (t3 (px0 ax ay ux uy a b) (px1 ax ay ux uy a b) true)
    else
      bif decide (0 ≤ px1 ax ay ux uy a b) then some (t3 0 0 false) else some (t3 0 0 false)
  else none else none := by kernel_rfl
/-- What it means that a view is right. -/
theorem ck_zero {ax ay ux uy w h hr : Int} (hc : ck ax ay ux uy w h hr = 0) : ¬ (ux = 0 ∧ uy = 0) ∧ bey ux 1024 = false ∧ bey uy 1024 = false ∧ dotX ux uy ux uy ≤ 1048576 ∧ 1 ≤ w ∧ w ≤ 64 ∧ 1 ≤ h ∧ h ≤ 64 ∧ 0 ≤ hr ∧ hr ≤ 23 ∧ farX ax ay = false ∧
    farX (wx ax ux uy 0 0) (wy ay ux uy 0 0) = false ∧ farX (wx ax ux uy (W (w - 1)) 0) (wy ay ux uy (W (w - 1)) 0) = false ∧ farX (wx ax ux uy 0 (W (h - 1))) (wy ay ux uy 0 (W (h - 1))) = false ∧
    farX (wx ax ux uy (W (w - 1)) (W (h - 1))) (wy ay ux uy (W (w - 1)) (W (h - 1))) = false := by
  unfold ck at hc
  have step : ∀ {b : Bool} {k x : Int}, k ≠ 0 → (bif b then k else x) = 0 → b = false ∧ x = 0 := by
    intro b k x hk h
    cases b
    · exact ⟨rfl, h⟩
    · exact absurd h hk
  obtain ⟨h1, hc⟩ := step (by decide) hc
  obtain ⟨h2, hc⟩ := step (by decide) hc
  obtain ⟨h3, hc⟩ := step (by decide) hc
  obtain ⟨h4, hc⟩ := step (by decide) hc
  obtain ⟨h5, hc⟩ := step (by decide) hc
  obtain ⟨h6, hc⟩ := step (by decide) hc
  obtain ⟨h7, hc⟩ := step (by decide) hc
  obtain ⟨h8, hc⟩ := step (by decide) hc
  obtain ⟨h9, hc⟩ := step (by decide) hc
  obtain ⟨h10, hc⟩ := step (by decide) hc
  obtain ⟨h11, hc⟩ := step (by decide) hc
  obtain ⟨h12, hc⟩ := step (by decide) hc
  obtain ⟨h13, hc⟩ := step (by decide) hc
  obtain ⟨h14, hc⟩ := step (by decide) hc
  obtain ⟨h15, hc⟩ := step (by decide) hc
  simp only [decide_eq_false_iff_not] at h4 h5 h6 h7 h8 h9 h10
  refine ⟨fun ⟨e1, e2⟩ => by subst e1; subst e2; simp at h1, h2, h3, by omega, by omega, by omega, by omega, by omega, by omega, by omega, h11, h12, h13, h14, h15⟩
theorem bey_false {a m : Int} (hm : 0 ≤ m ∧ m ≤ 1048576) (h : bey a m = false) : -m ≤ a ∧ a ≤ m := by
  unfold bey at h
  rw [W_id (by omega) (by omega)] at h
  simp only [Bool.or_eq_false_iff, decide_eq_false_iff_not] at h
  omega
theorem bey_of {a m : Int} (hm : 0 ≤ m ∧ m ≤ 1048576) (h1 : -m ≤ a) (h2 : a ≤ m) : bey a m = false := by
  unfold bey
  rw [W_id (by omega) (by omega)]
  simp only [Bool.or_eq_false_iff, decide_eq_false_iff_not]
  omega
theorem farX_false {a b : Int} : farX a b = false ↔ -1048576 ≤ a ∧ a ≤ 1048576 ∧ -1048576 ≤ b ∧ b ≤ 1048576 := by
  unfold farX
  simp only [Bool.or_eq_false_iff, decide_eq_false_iff_not]
  omega
/-- Products of bounded numbers. -/
theorem mul_bd {a b A B : Int} (h1 : -A ≤ a) (h2 : a ≤ A) (h3 : -B ≤ b) (h4 : b ≤ B) : -(A * B) ≤ a * b ∧ a * b ≤ A * B := by
  have hA : 0 ≤ A := by omega
  have hB : 0 ≤ B := by omega
  have e1 : 0 ≤ (A - a) * (B - b) := Int.mul_nonneg (by omega) (by omega)
  have e2 : 0 ≤ (A + a) * (B + b) := Int.mul_nonneg (by omega) (by omega)
  have e3 : 0 ≤ (A - a) * (B + b) := Int.mul_nonneg (by omega) (by omega)
  have e4 : 0 ≤ (A + a) * (B - b) := Int.mul_nonneg (by omega) (by omega)
  have f1 : (A - a) * (B - b) = A * B - A * b - a * B + a * b := by rw [Int.sub_mul, Int.mul_sub, Int.mul_sub]; omega
  have f2 : (A + a) * (B + b) = A * B + A * b + a * B + a * b := by rw [Int.add_mul, Int.mul_add, Int.mul_add]; omega
  have f3 : (A - a) * (B + b) = A * B + A * b - a * B - a * b := by rw [Int.sub_mul, Int.mul_add, Int.mul_add]; omega
  have f4 : (A + a) * (B - b) = A * B - A * b + a * B - a * b := by rw [Int.add_mul, Int.mul_sub, Int.mul_sub]; omega
  constructor <;> omega
theorem dotX_self {ux uy : Int} (h1 : -1024 ≤ ux) (h2 : ux ≤ 1024) (h3 : -1024 ≤ uy) (h4 : uy ≤ 1024) : dotX ux uy ux uy = ux * ux + uy * uy := by
  have m1 := mul_bd h1 h2 h1 h2
  have m2 := mul_bd h3 h4 h3 h4
  unfold dotX
  rw [W_id (n := ux * ux) (by omega) (by omega), W_id (n := uy * uy) (by omega) (by omega), W_id (by omega) (by omega)]
theorem sq_pos {a : Int} (h : a ≠ 0) : 0 < a * a := by
  rcases Int.lt_or_gt_of_ne h with h | h
  · exact Int.mul_pos_of_neg_of_neg h h
  · exact Int.mul_pos h h
theorem sq_nonneg (a : Int) : 0 ≤ a * a := by
  by_cases h : a = 0
  · subst h; simp
  · exact Int.le_of_lt (sq_pos h)
theorem dot_pos {ux uy : Int} (h : ¬ (ux = 0 ∧ uy = 0)) : 0 < ux * ux + uy * uy := by
  have := sq_nonneg ux
  have := sq_nonneg uy
  by_cases h1 : ux = 0
  · have := sq_pos (a := uy) (fun h2 => h ⟨h1, h2⟩); omega
  · have := sq_pos h1; omega
theorem o21 (args : List PV) (r : PV) (h : c21 args = some r) : Enters Try.prog 21 ∧ PCall Try.prog 21 args r := by
  unfold c21 at h; split at h
  · rename_i ax ay ux uy w h' hr a b
    cases h
    refine runP_sound ok2 (n := 60) ?_
    rw [q21]; unfold pin ok0
    by_cases hc : ck ax ay ux uy w h' hr = 0
    · obtain ⟨g1, g2, g3, _⟩ := ck_zero hc
      have b2 := bey_false (by omega) g2
      have b3 := bey_false (by omega) g3
      have hd : decide (dotX ux uy ux uy = 0) = false := by
        rw [dotX_self b2.1 b2.2 b3.1 b3.2]
        have := dot_pos g1
        simp; omega
      have hc' : (ck ax ay ux uy w h' hr != 0) = false := by simp [hc]
      rw [hd, hc']
      cases farX a b
      · cases decide (0 ≤ px0 ax ay ux uy a b)
        · cases decide (0 ≤ px1 ax ay ux uy a b) <;> rfl
        · cases decide (0 ≤ px1 ax ay ux uy a b)
          · cases decide (px0 ax ay ux uy a b < w) <;> rfl
          · cases decide (px0 ax ay ux uy a b < w)
            · rfl
            · cases decide (px1 ax ay ux uy a b < h')
              · rfl
              · cases (wx ax ux uy (px0 ax ay ux uy a b) (px1 ax ay ux uy a b) == a)
                · rfl
                · cases (wy ay ux uy (px0 ax ay ux uy a b) (px1 ax ay ux uy a b) == b) <;> rfl
      · rfl
    · have hc' : (ck ax ay ux uy w h' hr != 0) = true := by simp [hc]
      rw [hc']; rfl
  · cases h

/-- Part. -/
def pok (ax ay ux uy w h hr i j n m : Int) : Bool :=
  ok0 ax ay ux uy w h hr && !decide (i < 0) && !decide (j < 0) && !decide (n < 1) && !decide (m < 1) && !decide (i ≥ w) && !decide (j ≥ h) && !decide (n > W (w - i)) && !decide (m > W (h - j))
abbrev pwv (ax ay ux uy w h hr : Int) (b : Bool) : PV := .tup [vwv ax ay ux uy w h hr, bv b]
def c23 : List PV → Option PV
  | [.agg [.val (.int .i64 ax), .val (.int .i64 ay), .val (.int .i64 ux), .val (.int .i64 uy), .val (.int .i64 w), .val (.int .i64 h), .val (.int .i64 hr)], .val (.int .i64 i), .val (.int .i64 j), .val (.int .i64 n), .val (.int .i64 m)] =>
    let b := pok ax ay ux uy w h hr i j n m
    some (pwv (bif b then wx ax ux uy i j else 0) (bif b then wy ay ux uy i j else 0) (bif b then ux else 0) (bif b then uy else 0) (bif b then n else 0) (bif b then m else 0) (bif b then hr else 0) b)
  | _ => none
theorem q23 (ax ay ux uy w h hr i j n m : Int) : runP Try.prog E2 60 23 [vwv ax ay ux uy w h hr, iv i, iv j, iv n, iv m] =
  bif ck ax ay ux uy w h hr != 0 then some (pwv 0 0 0 0 0 0 0 false) else bif decide (i < 0) then some (pwv 0 0 0 0 0 0 0 false) else bif decide (j < 0) then some (pwv 0 0 0 0 0 0 0 false)
  else bif decide (n < 1) then some (pwv 0 0 0 0 0 0 0 false) else bif decide (m < 1) then some (pwv 0 0 0 0 0 0 0 false) else bif decide (i ≥ w) then some (pwv 0 0 0 0 0 0 0 false)
  else bif decide (j ≥ h) then some (pwv 0 0 0 0 0 0 0 false) else bif decide (n > W (w - i)) then some (pwv 0 0 0 0 0 0 0 false) else bif decide (m > W (h - j)) then some (pwv 0 0 0 0 0 0 0 false)
  else some (pwv (wx ax ux uy i j) (wy ay ux uy i j) ux uy n m hr true) := by kernel_rfl
theorem o23 (args : List PV) (r : PV) (h : c23 args = some r) : Enters Try.prog 23 ∧ PCall Try.prog 23 args r := by
  unfold c23 at h; split at h
  · rename_i ax ay ux uy w h' hr i j n m
    cases h
    refine runP_sound ok2 (n := 60) ?_
    rw [q23]; unfold pok ok0
    cases (ck ax ay ux uy w h' hr != 0)
    · cases decide (i < 0)
      · cases decide (j < 0)
        · cases decide (n < 1)
          · cases decide (m < 1)
            · cases decide (i ≥ w)
              · cases decide (j ≥ h')
                · cases decide (n > W (w - i))
                  · cases decide (m > W (h' - j)) <;> rfl
                  · rfl
                · rfl
              · rfl
            · rfl
          · rfl
        · rfl
      · rfl
    · rfl
  · cases h
def c9 : List PV → Option PV | [] => some (bv true) | _ => none
theorem o9 (args : List PV) (r : PV) (h : c9 args = some r) : Enters Try.prog 9 ∧ PCall Try.prog 9 args r := by
  unfold c9 at h; split at h
  · cases h; exact runP_sound ok2 (n := 60) (by kernel_rfl)
  · cases h
def E5 : EnvK := E3 |>.addO 16 c16 |>.addO 21 c21 |>.addO 23 c23 |>.addO 9 c9 |>.addO 10 c10
theorem ok5 : EnvOK Try.prog E5.env := ((((ok3.addO o16).addO o21).addO o23).addO o9).addO o10
end Go.Hv
