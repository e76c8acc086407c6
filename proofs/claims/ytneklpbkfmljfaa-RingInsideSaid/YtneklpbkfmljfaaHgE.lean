/- Geometry: contracts: Side, the order of points. -/
import Derived.Test.YtneklpbkfmljfaaHgD
namespace Go.Hg
open Go.Hx Go.Proofs
/-- P4.3: the side of the line from (a, b) to (c, d) on which (e, f) lies. -/
def crs (a b c d e f : Int) : Int := (c - a) * (f - b) - (d - b) * (e - a)
def sd (a b c d e f : Int) : Int := bif bdd a b && bdd c d && bdd e f then sgn (crs a b c d e f) else 0
theorem inB_iff {n a : Int} : inB n a = true ↔ -n ≤ a ∧ a ≤ n := by unfold inB; simp
theorem inB2_iff {n a b : Int} : inB2 n a b = true ↔ (-n ≤ a ∧ a ≤ n) ∧ (-n ≤ b ∧ b ≤ n) := by unfold inB2; simp [inB_iff]
theorem sg2_side {a b c d e f : Int} (h1 : bdd a b = true) (h2 : bdd c d = true) (h3 : bdd e f = true) : sg2 (W (c - a)) (W (f - b)) (W (d - b)) (W (e - a)) = sgn (crs a b c d e f) := by
  have k1 := inB2_iff.1 h1
  have k2 := inB2_iff.1 h2
  have k3 := inB2_iff.1 h3
  rw [W_id (n := c - a) (by omega) (by omega), W_id (n := f - b) (by omega) (by omega), W_id (n := d - b) (by omega) (by omega), W_id (n := e - a) (by omega) (by omega)]
  exact sg2_eq (by omega) (by omega) (by omega) (by omega)
def cSide : List PV → Option PV
  | [.agg [.val (.int .i64 a), .val (.int .i64 b)], .agg [.val (.int .i64 c), .val (.int .i64 d)], .agg [.val (.int .i64 e), .val (.int .i64 f)]] => some (iv (sd a b c d e f))
  | _ => none
theorem sd_tree (a b c d e f : Int) : (bif !bdd a b then some (iv 0) else bif !bdd c d then some (iv 0) else bif !bdd e f then some (iv 0) else some (iv (sg2 (W (c - a)) (W (f - b)) (W (d - b)) (W (e - a))))) = some (iv (sd a b c d e f)) := by
  unfold sd
  cases h1 : bdd a b
  · rfl
  · cases h2 : bdd c d
    · rfl
    · cases h3 : bdd e f
      · rfl
      · rw [sg2_side h1 h2 h3]; rfl
theorem oRSide (args : List PV) (r : PV) (h : cSide args = some r) : Enters Try.prog 24 ∧ PCall Try.prog 24 args r := by
  unfold cSide at h; split at h
  · cases h; refine runP_sound ok5 (n := 60) (Eq.trans ?_ (sd_tree _ _ _ _ _ _)); kernel_rfl
  · cases h
theorem oSide (args : List PV) (r : PV) (h : cSide args = some r) : Enters Try.prog 23 ∧ PCall Try.prog 23 args r := by
  unfold cSide at h; split at h
  · rename_i a b c d e f; cases h
    have q : (bif (a == c) && ((b == d) && true) then some (iv 0) else bif !bdd a b then some (iv 0) else bif !bdd c d then some (iv 0) else bif !bdd e f then some (iv 0) else some (iv (sg2 (W (c - a)) (W (f - b)) (W (d - b)) (W (e - a))))) = some (iv (sd a b c d e f)) := by
      rw [sd_tree]
      by_cases h : a = c ∧ b = d
      · obtain ⟨rfl, rfl⟩ := h
        have : crs a b a b e f = 0 := by unfold crs; rw [Int.sub_self, Int.sub_self, Int.zero_mul, Int.zero_mul]; rfl
        have : sd a b a b e f = 0 := by unfold sd; rw [this]; cases bdd a b && bdd a b && bdd e f <;> rfl
        rw [this]; simp
      · have : ((a == c) && ((b == d) && true)) = false := by
          rw [Bool.and_true, Bool.and_eq_false_iff]
          by_cases ha : a = c
          · exact .inr (by simp; exact fun hb => h ⟨ha, hb⟩)
          · exact .inl (by simpa using ha)
        rw [this]; rfl
    refine runP_sound ok5 (n := 60) (Eq.trans ?_ q); kernel_rfl
  · cases h
def cCmpP : List PV → Option PV | [.agg [.val (.int .i64 a), .val (.int .i64 b)], .agg [.val (.int .i64 c), .val (.int .i64 d)]] => some (iv (cmp2 a b c d)) | _ => none
/-- (a, b) comes before (c, d). -/
def lessP (a b c d : Int) : Bool := decide (a < c) || (a == c) && decide (b < d)
def cLess : List PV → Option PV | [.agg [.val (.int .i64 a), .val (.int .i64 b)], .agg [.val (.int .i64 c), .val (.int .i64 d)]] => some (bv (lessP a b c d)) | _ => none
def E6 : EnvK := E5 |>.addO 23 cSide |>.addO 24 cSide
theorem ok6 : EnvOK Try.prog E6.env := (ok5.addO oSide).addO oRSide
theorem oCmpP (args : List PV) (r : PV) (h : cCmpP args = some r) : Enters Try.prog 84 ∧ PCall Try.prog 84 args r := by
  unfold cCmpP at h; split at h
  · rename_i a b c d; cases h
    have q : (bif sgn (a - c) != 0 then some (iv (sgn (a - c))) else bif sgn (b - d) != 0 then some (iv (sgn (b - d))) else some (iv 0)) = some (iv (cmp2 a b c d)) := by
      unfold cmp2
      by_cases h : sgn (a - c) = 0
      · rw [if_pos h, h]
        by_cases h2 : sgn (b - d) = 0
        · rw [h2]; rfl
        · rw [show (sgn (b - d) != 0) = true by simpa using h2]; rfl
      · rw [if_neg h, show (sgn (a - c) != 0) = true by simpa using h]; rfl
    refine runP_sound ok6 (n := 60) (Eq.trans ?_ q); kernel_rfl
  · cases h
theorem oLess (args : List PV) (r : PV) (h : cLess args = some r) : Enters Try.prog 88 ∧ PCall Try.prog 88 args r := by
  unfold cLess at h; split at h
  · rename_i a b c d; cases h
    have q : (bif decide (a < c) then some (bv true) else bif a == c then some (bv (decide (b < d))) else some (bv false)) = some (bv (lessP a b c d)) := by
      unfold lessP
      cases decide (a < c) <;> cases a == c <;> rfl
    refine runP_sound ok6 (n := 60) (Eq.trans ?_ q); kernel_rfl
  · cases h
/-- P4.4: a point of a segment. -/
def btwn (a c e : Int) : Bool := decide ((if c < a then c else a) ≤ e) && decide (e ≤ (if c > a then c else a))
def onX (a b c d e f : Int) : Bool := bdd a b && bdd c d && bdd e f && (btwn a c e && btwn b d f && (sd a b c d e f == 0))
def cOn : List PV → Option PV
  | [.agg [.val (.int .i64 a), .val (.int .i64 b)], .agg [.val (.int .i64 c), .val (.int .i64 d)], .agg [.val (.int .i64 e), .val (.int .i64 f)]] => some (bv (onX a b c d e f))
  | _ => none
theorem oROn (args : List PV) (r : PV) (h : cOn args = some r) : Enters Try.prog 26 ∧ PCall Try.prog 26 args r := by
  unfold cOn at h; split at h
  · rename_i a b c d e f; cases h
    have q : (bif !bdd a b then some (bv false) else bif !bdd c d then some (bv false) else bif !bdd e f then some (bv false) else
        bif decide ((if c < a then c else a) ≤ e) then bif decide (e ≤ (if c > a then c else a)) then bif decide ((if d < b then d else b) ≤ f) then bif decide (f ≤ (if d > b then d else b)) then some (bv (sd a b c d e f == 0))
          else some (bv false) else some (bv false) else some (bv false) else some (bv false)) = some (bv (onX a b c d e f)) := by
      unfold onX btwn
      cases bdd a b <;> cases bdd c d <;> cases bdd e f <;> cases decide ((if c < a then c else a) ≤ e) <;> cases decide (e ≤ (if c > a then c else a)) <;> cases decide ((if d < b then d else b) ≤ f) <;> cases decide (f ≤ (if d > b then d else b)) <;> rfl
    refine runP_sound ok6 (n := 60) (Eq.trans ?_ q); kernel_rfl
  · cases h
def E7 : EnvK := E6 |>.addO 84 cCmpP |>.addO 88 cLess |>.addO 26 cOn
theorem ok7 : EnvOK Try.prog E7.env := ((ok6.addO oCmpP).addO oLess).addO oROn
end Go.Hg
