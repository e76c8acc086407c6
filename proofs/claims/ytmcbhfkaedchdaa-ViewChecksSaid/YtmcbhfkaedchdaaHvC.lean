/- The view: numbers that are drawn from a list; made views. -/
import Derived.Test.YtmcbhfkaedchdaaHvB
import Derived.Test.YtmcbhfkaedchdaaHxPick
namespace Go.Hv
open Go.Hx Go.Proofs
/-- The number at a place. -/
def dv (es : List PV) (k : Nat) : Int := ((es.getD k .any).cellAt 0).getI
def dn (es : List PV) (k : Nat) (n : Int) : Int := if es.length ≤ k then 0 else dv es k % n
def da (es : List PV) (k : Nat) : Nat := if es.length ≤ k then k else k + 1
abbrev drw (f : Bool) (es : List PV) (k : Nat) : Row := r1 64 2 (.agg [.lst f 3 es, .val (.int .i64 (Int.ofNat k))])
def c31 : List PV → List Row → Option (DT (PV × List Row))
  | [.ptr 0 1 0 0, .val (.int .i64 n)], [⟨[.agg [.lst f 3 es, .val (.int .i64 (.ofNat k))]], 2, 64, true, true, false, none⟩] =>
    some (.br (decide (0 < n) && decide (n ≤ 4611686018427387904) && decide (k < 4611686018427387904)) (.leaf (iv (dn es k n), [drw f es (da es k)])) .no)
  | _, _ => none
theorem q31 (es : List PV) (k : Nat) (f : Bool) (n : Int) : runR Try.prog E2 60 0 31 [.ptr 0 1 0 0, iv n] [drw f es k] =
  bif decide (((k : Nat) : Int) ≥ ((es.length : Nat) : Int)) then some (iv 0, [drw f es k])
  else bif decide (0 ≤ W (W ((k : Int) + 1) - 1)) && decide (W (W ((k : Int) + 1) - 1) < ((es.length : Nat) : Int)) then
    bif decide (0 < n) && decide (n ≤ 4611686018427387904) then some (iv (dv es (W (W ((k : Int) + 1) - 1)).toNat % n), [r1 64 2 (.agg [.lst f 3 es, iv (W ((k : Int) + 1))])]) else none
  else none := by kernel_rfl
theorem e31 : Enters Try.prog 31 := (runR_sound ok2 (n := 60) (ro := 0) (args := [.ptr 0 1 0 0, iv 1]) (H := [drw true [] 0]) (p := iv 0) (H' := [drw true [] 0]) (by kernel_rfl)).1
theorem o31 (args : List PV) (H : List Row) (d : DT (PV × List Row)) (p : PV) (H' : List Row) (h : c31 args H = some d) (hd : d.run = some (p, H')) : RCall Try.prog 0 31 args H p H' := by
  unfold c31 at h; split at h
  · rename_i n f es k
    cases h
    simp only [DT.run] at hd
    by_cases h0 : 0 < n ∧ n ≤ 4611686018427387904 ∧ k < 4611686018427387904
    · obtain ⟨h1, h2, h3⟩ := h0
      simp only [h1, h2, h3, decide_true, Bool.and_true, cond_true] at hd
      cases hd
      refine (runR_sound ok2 (n := 60) ?_).2
      rw [q31]
      have hw : W (W ((k : Int) + 1) - 1) = k := by rw [W_id (n := (k : Int) + 1) (by omega) (by omega), W_id (by omega) (by omega)]; omega
      have hw1 : W ((k : Int) + 1) = Int.ofNat (k + 1) := by rw [W_id (by omega) (by omega)]; rfl
      unfold dn da
      rcases Nat.lt_or_ge k es.length with hk | hk
      · have g1 : decide (((k : Nat) : Int) ≥ ((es.length : Nat) : Int)) = false := by simp; omega
        have g2 : (decide (0 ≤ (k : Int)) && decide ((k : Int) < ((es.length : Nat) : Int))) = true := by simp; omega
        rw [g1, hw, g2, hw1, if_neg (by omega), if_neg (by omega)]
        simp only [h1, h2, decide_true, Bool.and_true, cond_true, cond_false, Int.toNat_natCast]
      · have g1 : decide (((k : Nat) : Int) ≥ ((es.length : Nat) : Int)) = true := by simp; omega
        rw [g1, if_pos hk, if_pos hk]; rfl
    · exfalso
      have : (decide (0 < n) && decide (n ≤ 4611686018427387904) && decide (k < 4611686018427387904)) = false := by
        simp only [Bool.and_eq_false_iff, decide_eq_false_iff_not]
        omega
      rw [this] at hd
      cases hd
  · cases h
def E3 : EnvK := E2.addR 31 c31
theorem ok3 : EnvOK Try.prog E3.env := ok2.addR e31 o31
def pos (es : List PV) : Nat → Nat | 0 => 0 | j + 1 => da es (pos es j)
theorem pos_le (es : List PV) : ∀ j, pos es j ≤ j
  | 0 => Nat.le_refl _
  | j + 1 => by simp only [pos, da]; have := pos_le es j; split <;> omega
theorem pos_ok (es : List PV) (j : Nat) (h : j < 4611686018427387904) : decide (pos es j < 4611686018427387904) = true := by have := pos_le es j; simp; omega
theorem dn_ge (es : List PV) (k : Nat) {n : Int} (h : 0 < n) : 0 ≤ dn es k n := by unfold dn; split; exact Int.le_refl _; exact Int.emod_nonneg _ (by omega)
theorem dn_lt (es : List PV) (k : Nat) {n : Int} (h : 0 < n) : dn es k n < n := by unfold dn; split; exact h; exact Int.emod_lt_of_pos _ h
def l8 (z : Int) : Int := ((([iv 31, iv 32, iv 33, iv 64, iv 128, iv 300, iv 512, iv 700] : List PV).getD (0 + z.toNat) .any).cellAt 0).getI
def mx0 (es : List PV) : Int := dn es (pos es 5) 40
def my0 (es : List PV) : Int := W (dn es (pos es 6) 4 * dn es (pos es 7) 10)
def big (es : List PV) : Bool := dn es (pos es 8) 6 == 0
def mx1 (es : List PV) : Int := bif big es then l8 (dn es (pos es 9) 8) else mx0 es
def my1 (es : List PV) : Int := bif big es then dn es (pos es 10) 3 else my0 es
def mx2 (es : List PV) : Int := bif (mx1 es == 0) && (my1 es == 0) then 1 else mx1 es
def mt (es : List PV) : Int := dn es (bif big es then pos es 11 else pos es 9) 4
/-- The made view. -/
def mAx (es : List PV) : Int := dn es (pos es 0) 300
def mAy (es : List PV) : Int := dn es (pos es 1) 200
def mUx (es : List PV) : Int := trx (mx2 es) (my1 es) (mt es)
def mUy (es : List PV) : Int := tryy (mx2 es) (my1 es) (mt es)
def mW (es : List PV) : Int := W (1 + dn es (pos es 2) 12)
def mH (es : List PV) : Int := W (1 + dn es (pos es 3) 12)
def mHr (es : List PV) : Int := dn es (pos es 4) 24
def c10 : List PV → Option PV | [.lst _ 3 es] => some (vwv (mAx es) (mAy es) (mUx es) (mUy es) (mW es) (mH es) (mHr es)) | _ => none
def fin10 (es : List PV) (ux uy : Int) (k : Nat) : Option PV := some (vwv (mAx es) (mAy es) (trx ux uy (dn es k 4)) (tryy ux uy (dn es k 4)) (mW es) (mH es) (mHr es))
theorem q10 (f : Bool) (es : List PV) : runP Try.prog E3 60 10 [.lst f 3 es] =
  bif decide (pos es 1 < 4611686018427387904) then bif decide (pos es 2 < 4611686018427387904) then bif decide (pos es 3 < 4611686018427387904) then bif decide (pos es 4 < 4611686018427387904) then
  bif decide (pos es 5 < 4611686018427387904) then bif decide (pos es 6 < 4611686018427387904) then bif decide (pos es 7 < 4611686018427387904) then bif decide (pos es 8 < 4611686018427387904) then
  bif dn es (pos es 8) 6 == 0 then
    bif decide (pos es 9 < 4611686018427387904) then bif decide (0 ≤ dn es (pos es 9) 8) && decide (dn es (pos es 9) 8 < 8) then bif decide (pos es 10 < 4611686018427387904) then
    bif (l8 (dn es (pos es 9) 8) == 0) && ((dn es (pos es 10) 3 == 0) && true) then
      bif decide (pos es 11 < 4611686018427387904) then fin10 es 1 (dn es (pos es 10) 3) (pos es 11) else none
    else bif decide (pos es 11 < 4611686018427387904) then fin10 es (l8 (dn es (pos es 9) 8)) (dn es (pos es 10) 3) (pos es 11) else none
    else none else none else none
  else
    bif (mx0 es == 0) && ((my0 es == 0) && true) then
      bif decide (pos es 9 < 4611686018427387904) then fin10 es 1 (my0 es) (pos es 9) else none
    else bif decide (pos es 9 < 4611686018427387904) then fin10 es (mx0 es) (my0 es) (pos es 9) else none
  else none else none else none else none else none else none else none else none := by kernel_rfl
theorem o10 (args : List PV) (r : PV) (h : c10 args = some r) : Enters Try.prog 10 ∧ PCall Try.prog 10 args r := by
  unfold c10 at h; split at h
  · rename_i f es
    cases h
    refine runP_sound ok3 (n := 60) ?_
    have hz : (decide (0 ≤ dn es (pos es 9) 8) && decide (dn es (pos es 9) 8 < 8)) = true := by simp [dn_ge es (pos es 9) (n := 8) (by omega), dn_lt es (pos es 9) (n := 8) (by omega)]
    rw [q10]
    simp only [pos_ok es _ (show 1 < 4611686018427387904 by decide), pos_ok es _ (show 2 < 4611686018427387904 by decide), pos_ok es _ (show 3 < 4611686018427387904 by decide), pos_ok es _ (show 4 < 4611686018427387904 by decide),
      pos_ok es _ (show 5 < 4611686018427387904 by decide), pos_ok es _ (show 6 < 4611686018427387904 by decide), pos_ok es _ (show 7 < 4611686018427387904 by decide), pos_ok es _ (show 8 < 4611686018427387904 by decide),
      pos_ok es _ (show 9 < 4611686018427387904 by decide), pos_ok es _ (show 10 < 4611686018427387904 by decide), pos_ok es _ (show 11 < 4611686018427387904 by decide), hz, cond_true, Bool.and_true, fin10, mUx, mUy, mx2, mx1, my1, mt, big]
    cases (dn es (pos es 8) 6 == 0)
    · simp only [cond_false]
      cases (mx0 es == 0) && (my0 es == 0) <;> rfl
    · simp only [cond_true]
      cases (l8 (dn es (pos es 9) 8) == 0) && (dn es (pos es 10) 3 == 0) <;> rfl
  · cases h
end Go.Hv
