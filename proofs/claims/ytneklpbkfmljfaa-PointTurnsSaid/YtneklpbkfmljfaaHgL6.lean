/- Geometry: PointTurns answers true. -/
import Derived.Test.YtneklpbkfmljfaaHgT2
namespace Go.Hg
open Go.Hx Go.Proofs
noncomputable def E23 : EnvK := E21.addL 6 5 [1, 3, 5, 7, 8, 9, 22, 23] (fun _ _ _ => none)
theorem ok23 : EnvOK Try.prog E23.env :=
  ok21.addL Try.func6 (show Try.f6.body = some (bod Try.f6) by kernel_rfl) (show (loops (bod Try.f6)).filter (fun b => rid b == 5) = [lpb Try.f6 5] by kernel_rfl) (fun _ => noL)
def no6 : Option PV := some (bv false)
def tail6 (a b c d e f g h A B C D E F G H : Int) : Option PV :=
  bif sd A B C D E F != sd a b c d e f then no6 else bif sd c d a b e f != W (0 - sd a b c d e f) then no6 else bif sd c d e f a b != sd a b c d e f then no6 else bif !(onX A B C D E F == onX a b c d e f) then no6 else
  bif mt A B C D E F G H == mt a b c d e f g h then bif mt e f g h a b c d == mt a b c d e f g h then bif mt c d a b e f g h == mt a b c d e f g h then some (bv (mt a b c d g h e f == mt a b c d e f g h)) else no6 else no6 else no6
def t6x (a b n u : Int) : Int := W (tpx (sm a) (sm b) (W n) + Int.tmod u 10000)
def t6y (a b n v : Int) : Int := W (tpy (sm a) (sm b) (W n) + Int.tmod v 10000)
theorem q6 (a b c d e f g h n u v : Int) : runP Try.prog E23 60 6 [.agg [iv a, iv b, iv c, iv d, iv e, iv f, iv g, iv h], .val (.int .u8 n), ptv u v] =
  tail6 (sm a) (sm b) (sm c) (sm d) (sm e) (sm f) (sm g) (sm h) (t6x a b n u) (t6y a b n v) (t6x c d n u) (t6y c d n v) (t6x e f n u) (t6y e f n v) (t6x g h n u) (t6y g h n v) := by kernel_rfl
theorem small_bd (a b : Int) : bd (sm a) (sm b) := by have := sm_range a; have := sm_range b; unfold bd; omega
theorem turn_keeps (n u v : Int) (hu : -10000 ≤ u ∧ u ≤ 10000) (hv : -10000 ≤ v ∧ v ≤ 10000) : ∃ X Y : Int → Int → Int, Keeps X Y ∧ ∀ a b : Int, W (tpx (sm a) (sm b) n + u) = X (sm a) (sm b) ∧ W (tpy (sm a) (sm b) n + v) = Y (sm a) (sm b) ∧ bd (X (sm a) (sm b)) (Y (sm a) (sm b)) := by
  have n4 : n % 4 = 0 ∨ n % 4 = 1 ∨ n % 4 = 2 ∨ n % 4 = 3 := by omega
  have w1 : ∀ x : Int, W (0 - sm x) = 0 - sm x := fun x => W_id (by have := sm_range x; omega) (by have := sm_range x; omega)
  rcases n4 with g | g | g | g
  · refine ⟨_, _, keeps_id.comp (keeps_shift u v), fun a b => ?_⟩
    have := sm_range a; have := sm_range b
    unfold tpx tpy; rw [g]
    refine ⟨W_id (by simp; omega) (by simp; omega), W_id (by simp; omega) (by simp; omega), ?_⟩
    show bd _ _; unfold bd; omega
  · refine ⟨_, _, keeps_q1.comp (keeps_shift u v), fun a b => ?_⟩
    have := sm_range a; have := sm_range b
    unfold tpx tpy; rw [g, w1 b]
    refine ⟨W_id (by simp; omega) (by simp; omega), W_id (by simp; omega) (by simp; omega), ?_⟩
    show bd _ _; unfold bd; omega
  · refine ⟨_, _, keeps_q2.comp (keeps_shift u v), fun a b => ?_⟩
    have := sm_range a; have := sm_range b
    unfold tpx tpy; rw [g, w1 b, w1 a]
    refine ⟨W_id (by simp; omega) (by simp; omega), W_id (by simp; omega) (by simp; omega), ?_⟩
    show bd _ _; unfold bd; omega
  · refine ⟨_, _, keeps_q3.comp (keeps_shift u v), fun a b => ?_⟩
    have := sm_range a; have := sm_range b
    unfold tpx tpy; rw [g, w1 a]
    refine ⟨W_id (by simp; omega) (by simp; omega), W_id (by simp; omega) (by simp; omega), ?_⟩
    show bd _ _; unfold bd; omega
theorem law6 (a b c d e f g h n u v : Int) : Enters Try.prog 6 ∧ PCall Try.prog 6 [.agg [iv a, iv b, iv c, iv d, iv e, iv f, iv g, iv h], .val (.int .u8 n), ptv u v] (bv true) := by
  refine runP_sound ok23 (n := 60) ?_
  rw [q6]
  have hu := Int.lt_tmod_of_pos u (show (0 : Int) < 10000 by omega)
  have hu2 := Int.tmod_lt_of_pos u (show (0 : Int) < 10000 by omega)
  have hv := Int.lt_tmod_of_pos v (show (0 : Int) < 10000 by omega)
  have hv2 := Int.tmod_lt_of_pos v (show (0 : Int) < 10000 by omega)
  obtain ⟨X, Y, hK, hXY⟩ := turn_keeps (W n) (Int.tmod u 10000) (Int.tmod v 10000) (by omega) (by omega)
  obtain ⟨x1, y1, b1⟩ := hXY a b
  obtain ⟨x2, y2, b2⟩ := hXY c d
  obtain ⟨x3, y3, b3⟩ := hXY e f
  obtain ⟨x4, y4, b4⟩ := hXY g h
  have s1 := small_bd a b
  have s2 := small_bd c d
  have s3 := small_bd e f
  have s4 := small_bd g h
  unfold t6x t6y
  rw [x1, y1, x2, y2, x3, y3, x4, y4]
  unfold tail6
  rw [hK.sd s1 s2 s3 b1 b2 b3, hK.on s1 s2 s3 b1 b2 b3, hK.mt s1 s2 s3 s4 b1 b2 b3 b4, mt_swap3 s1 s2 s3 s4, mt_swap1 s1 s2 s3 s4, mt_swap2 s1 s2 s3 s4, sd_swap (sm a) (sm b) (sm c) (sm d) (sm e) (sm f), sd_turn (sm a) (sm b) (sm c) (sm d) (sm e) (sm f)]
  have r := sd_range (sm a) (sm b) (sm c) (sm d) (sm e) (sm f)
  rw [W_id (n := 0 - sd (sm a) (sm b) (sm c) (sm d) (sm e) (sm f)) (by omega) (by omega), show -sd (sm a) (sm b) (sm c) (sm d) (sm e) (sm f) = 0 - sd (sm a) (sm b) (sm c) (sm d) (sm e) (sm f) by omega]
  simp
end Go.Hg
