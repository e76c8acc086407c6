/- Geometry: contracts: Move. -/
import Derived.Test.YtneklpbkfmljfaaHgL
namespace Go.Hg
open Go.Hx Go.Proofs
/-- Can a spot be moved? -/
def mvOK (x y d : Int) : Bool := decide (1 ≤ d) && decide (d ≤ 2048) && inB2 (16384 * d) x y
theorem mvOK_iff {x y d : Int} : mvOK x y d = true ↔ (1 ≤ d ∧ d ≤ 2048) ∧ ((-(16384 * d) ≤ x ∧ x ≤ 16384 * d) ∧ (-(16384 * d) ≤ y ∧ y ≤ 16384 * d)) := by
  unfold mvOK
  rw [Bool.and_eq_true, Bool.and_eq_true, decide_eq_true_iff, decide_eq_true_iff, inB2_iff]
theorem mvOK_wi (x y d : Int) : mvOK x y d = (decide (d ≥ 1) && decide (d ≤ 2048) && wi2 (W (16384 * d)) x y) := by
  unfold mvOK
  by_cases h1 : d ≥ 1
  · by_cases h2 : d ≤ 2048
    · rw [W_id (n := 16384 * d) (by omega) (by omega), wi2_eq (by omega)]; rfl
    · rw [decide_eq_false h2]; simp
  · rw [decide_eq_false (show ¬ 1 ≤ d from h1)]; rfl
def cMov : List PV → Option PV | [.agg [.val (.int .i64 a), .val (.int .i64 b), .val (.int .i64 c)]] => some (bv (mvOK a b c)) | _ => none
theorem oMovable (args : List PV) (r : PV) (h : cMov args = some r) : Enters Try.prog 89 ∧ PCall Try.prog 89 args r := by
  unfold cMov at h; split at h
  · rename_i a b c; cases h
    have q : (bif decide (c ≥ 1) then bif decide (c ≤ 2048) then some (bv (wi2 (W (16384 * c)) a b)) else some (bv false) else some (bv false)) = some (bv (mvOK a b c)) := by
      rw [mvOK_wi]; cases decide (c ≥ 1) <;> cases decide (c ≤ 2048) <;> rfl
    refine runP_sound ok16 (n := 60) (Eq.trans ?_ q); kernel_rfl
  · cases h
theorem oRSpot (args : List PV) (r : PV) (h : cMov args = some r) : Enters Try.prog 92 ∧ PCall Try.prog 92 args r := by
  unfold cMov at h; split at h
  · rename_i a b c; cases h
    have q : (bif decide (1 ≤ c) then bif decide (c ≤ 2048) then bif decide (W (-16384 * c) ≤ a) then bif decide (a ≤ W (16384 * c)) then bif decide (W (-16384 * c) ≤ b) then some (bv (decide (b ≤ W (16384 * c)))) else some (bv false) else some (bv false) else some (bv false) else some (bv false) else some (bv false)) = some (bv (mvOK a b c)) := by
      unfold mvOK inB2 inB
      by_cases h1 : 1 ≤ c
      · by_cases h2 : c ≤ 2048
        · rw [W_id (n := 16384 * c) (by omega) (by omega), W_id (n := -16384 * c) (by omega) (by omega), show -16384 * c = -(16384 * c) by omega, decide_eq_true h1, decide_eq_true h2]
          cases decide (-(16384 * c) ≤ a) <;> cases decide (a ≤ 16384 * c) <;> cases decide (-(16384 * c) ≤ b) <;> rfl
        · rw [decide_eq_false h2]; cases decide (1 ≤ c) <;> rfl
      · rw [decide_eq_false h1]; rfl
    refine runP_sound ok16 (n := 60) (Eq.trans ?_ q); kernel_rfl
  · cases h
noncomputable def E17 : EnvK := (E16.addO 89 cMov).addO 92 cMov
theorem ok17 : EnvOK Try.prog E17.env := (ok16.addO oMovable).addO oRSpot
/-- P4.6: numbers of the moved spot, before they are divided. -/
def mvX (x y xd yd n m : Int) : Int := W (W (W (x * yd) * W (m - n)) + W (W (y * xd) * n))
def mvD (xd yd m : Int) : Int := W (W (xd * yd) * m)
def mvG (a b c d e f n m : Int) : Int := gcdX (gcdX (mvX a d c f n m) (mvX b e c f n m)) (mvD c f m)
def mvP (a b c d e f n m : Int) : Bool := mvOK a b c && mvOK d e f && (decide (1 ≤ m) && decide (m ≤ 1048576) && (decide (0 ≤ n) && decide (n ≤ m)))
def cMove : List PV → Option PV
  | [.agg [.val (.int .i64 a), .val (.int .i64 b), .val (.int .i64 c)], .agg [.val (.int .i64 d), .val (.int .i64 e), .val (.int .i64 f)], .agg [.val (.int .i64 n), .val (.int .i64 m)]] =>
    some (.tup [spv (bif mvP a b c d e f n m then W (Int.tdiv (mvX a d c f n m) (mvG a b c d e f n m)) else 0) (bif mvP a b c d e f n m then W (Int.tdiv (mvX b e c f n m) (mvG a b c d e f n m)) else 0)
      (bif mvP a b c d e f n m then W (Int.tdiv (mvD c f m) (mvG a b c d e f n m)) else 0), bv (mvP a b c d e f n m)])
  | _ => none
theorem gcdX_pos {a b : Int} (hb : 1 ≤ b ∧ b < 9223372036854775808) : 1 ≤ gcdX a b := by
  unfold gcdX
  split
  · omega
  · unfold gN
    have hz : (sz b).toNat = b.toNat := by rw [sz_id (by omega) (by omega)]; omega
    have : 0 < Nat.gcd (sz a).toNat (sz b).toNat := Nat.gcd_pos_of_pos_right _ (by rw [hz]; omega)
    omega
theorem mvD_id {c f m : Int} (hc : 1 ≤ c ∧ c ≤ 2048) (hf : 1 ≤ f ∧ f ≤ 2048) (hm : 1 ≤ m ∧ m ≤ 1048576) : mvD c f m = c * f * m ∧ 1 ≤ c * f * m ∧ c * f * m ≤ 4398046511104 := by
  have p1 := mul_bd (a := c) (b := f) (A := 2048) (B := 2048) (by omega) (by omega)
  have p2 := Int.mul_pos (show 0 < c by omega) (show 0 < f by omega)
  have p3 := mul_bd (a := c * f) (b := m) (A := 4194304) (B := 1048576) (by omega) (by omega)
  have p4 := Int.mul_pos p2 (show 0 < m by omega)
  unfold mvD
  rw [W_id (n := c * f) (by omega) (by omega), W_id (by omega) (by omega)]
  exact ⟨rfl, by omega, by omega⟩
abbrev no3 : Option PV := some (.tup [spv 0 0 0, bv false])
def yes3 (a b c d e f n m : Int) : Option PV :=
  bif !decide (mvG a b c d e f n m = 0) then bif !decide (mvG a b c d e f n m = 0) then bif !decide (mvG a b c d e f n m = 0) then
    some (.tup [spv (W (Int.tdiv (mvX a d c f n m) (mvG a b c d e f n m))) (W (Int.tdiv (mvX b e c f n m) (mvG a b c d e f n m))) (W (Int.tdiv (mvD c f m) (mvG a b c d e f n m))), bv true]) else none else none else none
theorem mv_value (a b c d e f n m : Int) (hp : mvP a b c d e f n m = true) : yes3 a b c d e f n m = cMove [spv a b c, spv d e f, ptv n m] := by
  have hp' := hp
  unfold mvP at hp
  simp only [Bool.and_eq_true, decide_eq_true_eq] at hp
  obtain ⟨⟨h1, h2⟩, ⟨h3, h4⟩, h5, h6⟩ := hp
  have k1 := (mvOK_iff.1 h1).1
  have k2 := (mvOK_iff.1 h2).1
  obtain ⟨e1, e2, e3⟩ := mvD_id k1 k2 ⟨h3, h4⟩
  have hg : 1 ≤ mvG a b c d e f n m := by unfold mvG; exact gcdX_pos (by rw [e1]; omega)
  unfold yes3
  rw [show (!decide (mvG a b c d e f n m = 0)) = true by simp; omega]
  simp only [cMove, hp', cond_true]
theorem oMove (args : List PV) (r : PV) (h : cMove args = some r) : Enters Try.prog 31 ∧ PCall Try.prog 31 args r := by
  have h0 := h
  unfold cMove at h; split at h
  · rename_i a b c d e f n m
    have q : (bif !mvOK a b c then no3 else bif !mvOK d e f then no3 else bif decide (m < 1) then no3 else bif decide (m > 1048576) then no3 else bif decide (n < 0) then no3 else bif decide (n > m) then no3 else yes3 a b c d e f n m) = some r := by
      rw [← h0]
      cases hp : mvP a b c d e f n m with
      | true =>
        rw [mv_value a b c d e f n m hp]
        unfold mvP at hp
        simp only [Bool.and_eq_true, decide_eq_true_eq] at hp
        obtain ⟨⟨h1, h2⟩, ⟨h3, h4⟩, h5, h6⟩ := hp
        rw [h1, h2, decide_eq_false (show ¬ m < 1 by omega), decide_eq_false (show ¬ m > 1048576 by omega), decide_eq_false (show ¬ n < 0 by omega), decide_eq_false (show ¬ n > m by omega)]
        rfl
      | false =>
        have hr : cMove [spv a b c, spv d e f, ptv n m] = no3 := by simp only [cMove, hp, cond_false]
        rw [hr]
        unfold mvP at hp
        rw [show decide (1 ≤ m) = !decide (m < 1) by rw [Bool.eq_iff_iff]; simp, show decide (m ≤ 1048576) = !decide (m > 1048576) by rw [Bool.eq_iff_iff]; simp,
          show decide (0 ≤ n) = !decide (n < 0) by rw [Bool.eq_iff_iff]; simp, show decide (n ≤ m) = !decide (n > m) by rw [Bool.eq_iff_iff]; simp] at hp
        revert hp
        cases mvOK a b c <;> cases mvOK d e f <;> cases decide (m < 1) <;> cases decide (m > 1048576) <;> cases decide (n < 0) <;> cases decide (n > m) <;> intro hp <;> first | rfl | cases hp
    refine runP_sound ok17 (n := 60) (Eq.trans ?_ q); kernel_rfl
  · cases h
theorem oRMove (args : List PV) (r : PV) (h : cMove args = some r) : Enters Try.prog 32 ∧ PCall Try.prog 32 args r := by
  have h0 := h
  unfold cMove at h; split at h
  · rename_i a b c d e f n m
    have q : (bif !mvOK a b c then no3 else bif !mvOK d e f then no3 else bif decide (1 ≤ m) then bif !decide (m ≤ 1048576) then no3 else bif decide (0 ≤ n) then bif !decide (n ≤ m) then no3 else yes3 a b c d e f n m else no3 else no3) = some r := by
      rw [← h0]
      cases hp : mvP a b c d e f n m with
      | true =>
        rw [mv_value a b c d e f n m hp]
        unfold mvP at hp
        simp only [Bool.and_eq_true, decide_eq_true_eq] at hp
        obtain ⟨⟨h1, h2⟩, ⟨h3, h4⟩, h5, h6⟩ := hp
        rw [h1, h2, decide_eq_true h3, decide_eq_true h4, decide_eq_true h5, decide_eq_true h6]
        rfl
      | false =>
        have hr : cMove [spv a b c, spv d e f, ptv n m] = no3 := by simp only [cMove, hp, cond_false]
        rw [hr]
        unfold mvP at hp
        revert hp
        cases mvOK a b c <;> cases mvOK d e f <;> cases decide (1 ≤ m) <;> cases decide (m ≤ 1048576) <;> cases decide (0 ≤ n) <;> cases decide (n ≤ m) <;> intro hp <;> first | rfl | cases hp
    refine runP_sound ok17 (n := 60) (Eq.trans ?_ q); kernel_rfl
  · cases h
noncomputable def E18 : EnvK := (E17.addO 31 cMove).addO 32 cMove
theorem ok18 : EnvOK Try.prog E18.env := (ok17.addO oMove).addO oRMove
/-- The chapter's examples. -/
theorem qSan : runP Try.prog E18 60 20 [] = some (bv true) := by kernel_rfl
def cSan : List PV → Option PV | [] => some (bv true) | _ => none
theorem oSan (args : List PV) (r : PV) (h : cSan args = some r) : Enters Try.prog 20 ∧ PCall Try.prog 20 args r := by
  unfold cSan at h; split at h
  · cases h; exact runP_sound ok18 (n := 60) qSan
  · cases h
noncomputable def E19 : EnvK := E18.addO 20 cSan
theorem ok19 : EnvOK Try.prog E19.env := ok18.addO oSan
end Go.Hg
