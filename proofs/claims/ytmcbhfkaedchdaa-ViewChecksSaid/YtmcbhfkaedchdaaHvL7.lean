/- The view: ViewTurns answers true. -/
import Derived.Test.YtmcbhfkaedchdaaHvP
namespace Go.Hv
open Go.Hx Go.Proofs
abbrev S7 (n : Int) (hd : Bool) (i j : Int) : List PV := tm 129 [(1, iv n), (5, bv hd), (6, .ptr 0 1 0 0), (7, .ptr 1 1 0 0), (8, .ptr 2 1 0 0), (9, .ptr 3 1 0 0), (10, iv i), (11, iv j)]
abbrev T7 (n : Int) (hd : Bool) (i : Int) : List PV := tm 129 [(1, iv n), (5, bv hd), (6, .ptr 0 1 0 0), (7, .ptr 1 1 0 0), (8, .ptr 2 1 0 0), (9, .ptr 3 1 0 0), (10, iv i)]
abbrev U7 (n : Int) (hd : Bool) : List PV := tm 129 [(1, iv n), (5, bv hd), (6, .ptr 0 1 0 0), (7, .ptr 1 1 0 0), (8, .ptr 2 1 0 0), (9, .ptr 3 1 0 0)]
abbrev H7 (ax ay ux uy w h hr tx ty tu tv tw th tr X0 Y0 X1 Y1 : Int) (s0 s1 s2 s3 : Bool) : List Row :=
  [r1 28 7 (vwv ax ay ux uy w h hr), r1 28 7 (vwv tx ty tu tv tw th tr), r1 37 4 (.agg [iv X0, iv Y0, iv X1, iv Y1]), r1 56 4 (.agg [bv s0, bv s1, bv s2, bv s3])]
theorem q7i (n : Int) (hd : Bool) (i j ax ay ux uy w h hr tx ty tu tv tw th tr X0 Y0 X1 Y1 : Int) (s0 s1 s2 s3 : Bool) :
    runB Try.prog E5 60 7 (lpb Try.f7 10) [1, 5, 6, 7, 8, 9, 10, 11] [1, 5, 6, 7, 8, 9, 10] (S7 n hd i j) (H7 ax ay ux uy w h hr tx ty tu tv tw th tr X0 Y0 X1 Y1 s0 s1 s2 s3) =
  bif decide (j < h) then
    bif !((wx tx tu tv i j == addX ax (tpx (subX (wx ax ux uy i j) ax) (subX (wy ay ux uy i j) ay) n)) && ((wy ty tu tv i j == addX ay (tpy (subX (wx ax ux uy i j) ax) (subX (wy ay ux uy i j) ay) n)) && true)) then some (.ret, T7 n hd i, H7 ax ay ux uy w h hr tx ty tu tv tw th tr X0 Y0 X1 Y1 s0 s1 s2 s3)
    else bif decide (wx ax ux uy i j < X0) then some (.ret, T7 n hd i, H7 ax ay ux uy w h hr tx ty tu tv tw th tr X0 Y0 X1 Y1 s0 s1 s2 s3)
    else bif decide (wx ax ux uy i j > X1) then some (.ret, T7 n hd i, H7 ax ay ux uy w h hr tx ty tu tv tw th tr X0 Y0 X1 Y1 s0 s1 s2 s3)
    else bif decide (wy ay ux uy i j < Y0) then some (.ret, T7 n hd i, H7 ax ay ux uy w h hr tx ty tu tv tw th tr X0 Y0 X1 Y1 s0 s1 s2 s3)
    else bif decide (wy ay ux uy i j > Y1) then some (.ret, T7 n hd i, H7 ax ay ux uy w h hr tx ty tu tv tw th tr X0 Y0 X1 Y1 s0 s1 s2 s3)
    else some (.normal, S7 n hd i (W (j + 1)), H7 ax ay ux uy w h hr tx ty tu tv tw th tr X0 Y0 X1 Y1 (s0 || (wx ax ux uy i j == X0)) (s1 || (wx ax ux uy i j == X1)) (s2 || (wy ay ux uy i j == Y0)) (s3 || (wy ay ux uy i j == Y1)))
  else some (.exit 2, T7 n hd i, H7 ax ay ux uy w h hr tx ty tu tv tw th tr X0 Y0 X1 Y1 s0 s1 s2 s3) := by
  cases s0 <;> cases s1 <;> cases s2 <;> cases s3 <;> kernel_rfl
/-- Some of n, from j on. -/
def orJ (p : Int → Bool) : Nat → Int → Bool
  | 0, _ => false
  | n + 1, j => p j || orJ p n (j + 1)
theorem orJ_true {p : Int → Bool} : ∀ (n : Nat) (j k : Int), j ≤ k → k < j + n → p k = true → orJ p n j = true
  | 0, j, k, h1, h2, _ => by omega
  | n + 1, j, k, h1, h2, h => by
    simp only [orJ, Bool.or_eq_true]
    by_cases hk : k = j
    · exact .inl (hk ▸ h)
    · exact .inr (orJ_true n (j + 1) k (by omega) (by omega) h)
/-- The turned view, and the box. -/
def rel7 (n ax ay ux uy w h tx ty tu tv X0 Y0 X1 Y1 : Int) : Bool :=
  decide (tx = ax) && decide (ty = ay) && decide (tu = tpx ux uy n) && decide (tv = tpy ux uy n) && decide (X0 = bx0 ax ux uy w h) && decide (Y0 = by0 ay ux uy w h) && decide (X1 = bx1 ax ux uy w h) && decide (Y1 = by1 ay ux uy w h)
def g0 (ax ux uy X0 i : Int) (j : Int) : Bool := wx ax ux uy i j == X0
def g2 (ay ux uy Y0 i : Int) (j : Int) : Bool := wy ay ux uy i j == Y0
def s7i : St := ⟨129, [(1, i64), (5, .cell .bool), (6, .ptr 0 1 0 0), (7, .ptr 1 1 0 0), (8, .ptr 2 1 0 0), (9, .ptr 3 1 0 0), (10, i64), (11, i64)], [.one 28 7 (i64s 7), .one 28 7 (i64s 7), .one 37 4 (i64s 4), .one 56 4 (.agg [.bool, .bool, .bool, .bool])]⟩
def c7i : List Lf → List Lf → Option (DT (PX × List PV × List Row))
  | [.i n, .b hd, .i i, .i j], [.i ax, .i ay, .i ux, .i uy, .i w, .i h, .i hr, .i tx, .i ty, .i tu, .i tv, .i tw, .i th, .i tr, .i X0, .i Y0, .i X1, .i Y1, .b s0, .b s1, .b s2, .b s3] =>
    some (.br (madeB ax ay ux uy w h hr && rel7 n ax ay ux uy w h tx ty tu tv X0 Y0 X1 Y1 && decide (0 ≤ i) && decide (i < w) && decide (0 ≤ j) && decide (j ≤ h))
      (.leaf (.exit 2, T7 n hd i, H7 ax ay ux uy w h hr tx ty tu tv tw th tr X0 Y0 X1 Y1 (s0 || orJ (g0 ax ux uy X0 i) (h - j).toNat j) (s1 || orJ (g0 ax ux uy X1 i) (h - j).toNat j) (s2 || orJ (g2 ay ux uy Y0 i) (h - j).toNat j) (s3 || orJ (g2 ay ux uy Y1 i) (h - j).toNat j))) .no)
  | _, _ => none
theorem g7i (n : Int) (hd : Bool) (i j ax ay ux uy w h hr tx ty tu tv tw th tr X0 Y0 X1 Y1 : Int) (s0 s1 s2 s3 : Bool) : s7i.get (S7 n hd i j) (H7 ax ay ux uy w h hr tx ty tu tv tw th tr X0 Y0 X1 Y1 s0 s1 s2 s3) =
  some ([.i n, .b hd, .i i, .i j], [.i ax, .i ay, .i ux, .i uy, .i w, .i h, .i hr, .i tx, .i ty, .i tu, .i tv, .i tw, .i th, .i tr, .i X0, .i Y0, .i X1, .i Y1, .b s0, .b s1, .b s2, .b s3]) := by kernel_rfl

/-- The box has every pixel's point. -/
theorem box_in {ax ay ux uy w h hr i j : Int} (hc : ck ax ay ux uy w h hr = 0) (hi : 0 ≤ i ∧ i < w) (hj : 0 ≤ j ∧ j < h) : bx0 ax ux uy w h ≤ wx ax ux uy i j ∧ wx ax ux uy i j ≤ bx1 ax ux uy w h ∧ by0 ay ux uy w h ≤ wy ay ux uy i j ∧ wy ay ux uy i j ≤ by1 ay ux uy w h := by
  obtain ⟨⟨h1, h2, h3, h4, h5, h6, h7, h8, h9⟩, _⟩ := ck_iff.1 hc
  obtain ⟨ex, ey⟩ := wx_in hc hi hj
  have a1 := mul_btw (u := ux) hi.1 (show i ≤ w - 1 by omega)
  have a2 := mul_btw (u := uy) hi.1 (show i ≤ w - 1 by omega)
  have a3 := mul_btw (u := ux) hj.1 (show j ≤ h - 1 by omega)
  have a4 := mul_btw (u := uy) hj.1 (show j ≤ h - 1 by omega)
  rw [ex, ey, bx0_id (by omega) h2 h3 h5 h6, bx1_id (by omega) h2 h3 h5 h6, by0_id (by omega) h2 h3 h5 h6, by1_id (by omega) h2 h3 h5 h6]
  have f1 := (mx4 ax (ax + (w - 1) * ux) (ax - (h - 1) * uy) (ax + (w - 1) * ux - (h - 1) * uy)).2
  have f0 := (mn4 ax (ax + (w - 1) * ux) (ax - (h - 1) * uy) (ax + (w - 1) * ux - (h - 1) * uy)).2
  have e1 := (mx4 ay (ay + (w - 1) * uy) (ay + (h - 1) * ux) (ay + (w - 1) * uy + (h - 1) * ux)).2
  have e0 := (mn4 ay (ay + (w - 1) * uy) (ay + (h - 1) * ux) (ay + (w - 1) * uy + (h - 1) * ux)).2
  have cx : _ ∧ _ := ⟨f0, f1⟩
  have cy : _ ∧ _ := ⟨e0, e1⟩
  clear f0 f1 e0 e1 h1 h2 h3 h4 h5 h6 h7 h8 h9
  refine ⟨?_, ?_, ?_, ?_⟩
  · rcases a1 with a | a <;> rcases a4 with b | b <;> omega
  · rcases a1 with a | a <;> rcases a4 with b | b <;> omega
  · rcases a2 with a | a <;> rcases a3 with b | b <;> omega
  · rcases a2 with a | a <;> rcases a3 with b | b <;> omega
/-- A turned view shows the points turned around At. -/
theorem turn_pt {ax ay ux uy w h hr i j n : Int} (m : MadeOK ax ay ux uy w h hr) (hi : 0 ≤ i ∧ i < w) (hj : 0 ≤ j ∧ j < h) :
    wx ax (tpx ux uy n) (tpy ux uy n) i j = addX ax (tpx (subX (wx ax ux uy i j) ax) (subX (wy ay ux uy i j) ay) n) ∧ wy ay (tpx ux uy n) (tpy ux uy n) i j = addX ay (tpy (subX (wx ax ux uy i j) ax) (subX (wy ay ux uy i j) ay) n) := by
  obtain ⟨ex, ey⟩ := wx_in m.right hi hj
  obtain ⟨h1, h2, h3, h4, h5, h6, h7, h8⟩ := m
  have p1 := mul_bd (a := i) (b := ux) (A := 11) (B := 700) (by omega) (by omega) h3.1 h3.2
  have p2 := mul_bd (a := i) (b := uy) (A := 11) (B := 700) (by omega) (by omega) h4.1 h4.2
  have p3 := mul_bd (a := j) (b := ux) (A := 11) (B := 700) (by omega) (by omega) h3.1 h3.2
  have p4 := mul_bd (a := j) (b := uy) (A := 11) (B := 700) (by omega) (by omega) h4.1 h4.2
  have e1 : subX (wx ax ux uy i j) ax = i * ux - j * uy := by unfold subX; rw [ex, W_id (by omega) (by omega)]; omega
  have e2 : subX (wy ay ux uy i j) ay = i * uy + j * ux := by unfold subX; rw [ey, W_id (by omega) (by omega)]; omega
  rw [e1, e2]
  have n1 : W (0 - uy) = 0 - uy := W_id (by omega) (by omega)
  have n2 : W (0 - ux) = 0 - ux := W_id (by omega) (by omega)
  have n3 : W (0 - (i * uy + j * ux)) = 0 - (i * uy + j * ux) := W_id (by omega) (by omega)
  have n4 : W (0 - (i * ux - j * uy)) = 0 - (i * ux - j * uy) := W_id (by omega) (by omega)
  have k1 : i * (0 - uy) = 0 - i * uy := by grind
  have k2 : i * (0 - ux) = 0 - i * ux := by grind
  have k3 : j * (0 - uy) = 0 - j * uy := by grind
  have k4 : j * (0 - ux) = 0 - j * ux := by grind
  have h4c : n % 4 = 0 ∨ n % 4 = 1 ∨ n % 4 = 2 ∨ n % 4 = 3 := by omega
  unfold tpx tpy addX
  rw [n1, n2, n3, n4]
  rcases h4c with g | g | g | g <;> rw [g] <;> simp only [show ¬ ((0 : Int) = 1) by omega, show ¬ ((0 : Int) = 2) by omega, show ¬ ((0 : Int) = 3) by omega, show ¬ ((2 : Int) = 1) by omega, show ¬ ((3 : Int) = 1) by omega, show ¬ ((3 : Int) = 2) by omega, if_true, if_false] <;>
    rw [wx_id (by omega) (by omega) (by omega) (by omega) (by omega), wy_id (by omega) (by omega) (by omega) (by omega) (by omega), W_id (by omega) (by omega), W_id (by omega) (by omega)] <;> (try simp only [k1, k2, k3, k4]) <;> constructor <;> omega
end Go.Hv
