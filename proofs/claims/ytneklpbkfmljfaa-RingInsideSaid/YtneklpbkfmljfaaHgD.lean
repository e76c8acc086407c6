/- Geometry: contracts: bounds, Cmp. -/
import Derived.Test.YtneklpbkfmljfaaHgC
namespace Go.Hg
open Go.Hx Go.Proofs
/-- Both are from -n to n, as the code asks. -/
def wi2 (n a b : Int) : Bool := !(decide (a < W (0 - n)) || decide (a > n) || decide (b < W (0 - n)) || decide (b > n))
def cWithin : List PV → Option PV | [.val (.int .i64 n), .lst _ 3 [.val (.int .i64 a), .val (.int .i64 b)]] => some (bv (wi2 n a b)) | _ => none
theorem oWithin (args : List PV) (r : PV) (h : cWithin args = some r) : Enters Try.prog 93 ∧ PCall Try.prog 93 args r := by
  unfold cWithin at h; split at h
  · rename_i n f a b; cases h
    have e : (bif decide (a < W (0 - n)) then some (bv false) else bif decide (a > n) then some (bv false) else bif decide (b < W (0 - n)) then some (bv false) else bif decide (b > n) then some (bv false) else some (bv true)) = some (bv (wi2 n a b)) := by
      unfold wi2
      cases decide (a < W (0 - n)) <;> cases decide (a > n) <;> cases decide (b < W (0 - n)) <;> cases decide (b > n) <;> rfl
    refine runP_sound ok3 (n := 60) (Eq.trans ?_ e); kernel_rfl
  · cases h
def inB (n a : Int) : Bool := decide (-n ≤ a) && decide (a ≤ n)
theorem wi2_eq {n : Int} (h : 0 ≤ n ∧ n < 9223372036854775808) (a b : Int) : wi2 n a b = (inB n a && inB n b) := by
  unfold wi2 inB
  rw [W_id (n := 0 - n) (by omega) (by omega)]
  by_cases h1 : a < 0 - n
  · rw [decide_eq_true h1, decide_eq_false (show ¬ -n ≤ a by omega)]; rfl
  · rw [decide_eq_false h1, decide_eq_true (show -n ≤ a by omega)]
    by_cases h2 : a > n
    · rw [decide_eq_true h2, decide_eq_false (show ¬ a ≤ n by omega)]; rfl
    · rw [decide_eq_false h2, decide_eq_true (show a ≤ n by omega)]
      by_cases h3 : b < 0 - n
      · rw [decide_eq_true h3, decide_eq_false (show ¬ -n ≤ b by omega)]; rfl
      · rw [decide_eq_false h3, decide_eq_true (show -n ≤ b by omega)]
        by_cases h4 : b > n
        · rw [decide_eq_true h4, decide_eq_false (show ¬ b ≤ n by omega)]; rfl
        · rw [decide_eq_false h4, decide_eq_true (show b ≤ n by omega)]; rfl
def inB2 (n a b : Int) : Bool := inB n a && inB n b
/-- Is a point bounded? -/
abbrev bdd (a b : Int) : Bool := inB2 1152921504606846976 a b
abbrev right (a b : Int) : Bool := inB2 16384 a b
theorem tree4 (p q r s : Bool) : (bif p then bif q then bif r then some (bv s) else some (bv false) else some (bv false) else some (bv false)) = some (bv (p && q && (r && s))) := by
  cases p <;> cases q <;> cases r <;> rfl
def cPt2 (g : Int → Int → Bool) : List PV → Option PV | [.agg [.val (.int .i64 a), .val (.int .i64 b)]] => some (bv (g a b)) | _ => none
theorem oRBdd (args : List PV) (r : PV) (h : cPt2 bdd args = some r) : Enters Try.prog 80 ∧ PCall Try.prog 80 args r := by
  unfold cPt2 at h; split at h
  · rename_i a b; cases h
    refine runP_sound ok3 (n := 60) (Eq.trans ?_ (tree4 (decide (-1152921504606846976 ≤ a)) (decide (a ≤ 1152921504606846976)) (decide (-1152921504606846976 ≤ b)) (decide (b ≤ 1152921504606846976)))); kernel_rfl
  · cases h
theorem oRRight (args : List PV) (r : PV) (h : cPt2 right args = some r) : Enters Try.prog 40 ∧ PCall Try.prog 40 args r := by
  unfold cPt2 at h; split at h
  · rename_i a b; cases h
    refine runP_sound ok3 (n := 60) (Eq.trans ?_ (tree4 (decide (-16384 ≤ a)) (decide (a ≤ 16384)) (decide (-16384 ≤ b)) (decide (b ≤ 16384)))); kernel_rfl
  · cases h
def E4 : EnvK := E3 |>.addO 93 cWithin |>.addO 80 (cPt2 bdd) |>.addO 40 (cPt2 right)
theorem ok4 : EnvOK Try.prog E4.env := ((ok3.addO oWithin).addO oRBdd).addO oRRight
theorem oRight (args : List PV) (r : PV) (h : cPt2 right args = some r) : Enters Try.prog 39 ∧ PCall Try.prog 39 args r := by
  unfold cPt2 at h; split at h
  · rename_i a b; cases h
    rw [show right a b = wi2 16384 a b from (wi2_eq (by omega) a b).symm]
    exact runP_sound ok4 (n := 60) (by kernel_rfl)
  · cases h
theorem oBdd1 (args : List PV) (r : PV) (h : cPt2 bdd args = some r) : Enters Try.prog 129 ∧ PCall Try.prog 129 args (.val (.bool (!r.getB))) := by
  unfold cPt2 at h; split at h
  · rename_i a b; cases h
    rw [show bdd a b = wi2 1152921504606846976 a b from (wi2_eq (by omega) a b).symm]
    exact runP_sound ok4 (n := 60) (by kernel_rfl)
  · cases h
def cCmp : List PV → Option PV | [.agg [.val (.int .i64 a), .val (.int .i64 b)], .agg [.val (.int .i64 c), .val (.int .i64 d)]] => some (iv (bif decide (b < 1) || decide (d < 1) then 0 else sg2 a d c b)) | _ => none
theorem cmp_tree2 (a b c d : Int) : (bif decide (b < 1) then some (iv 0) else bif decide (d < 1) then some (iv 0) else some (iv (sg2 a d c b))) = some (iv (bif decide (b < 1) || decide (d < 1) then 0 else sg2 a d c b)) := by
  cases decide (b < 1) <;> cases decide (d < 1) <;> rfl
theorem oCmp (args : List PV) (r : PV) (h : cCmp args = some r) : Enters Try.prog 110 ∧ PCall Try.prog 110 args r := by
  unfold cCmp at h; split at h
  · cases h; refine runP_sound ok4 (n := 60) (Eq.trans ?_ (cmp_tree2 _ _ _ _)); kernel_rfl
  · cases h
theorem oRCmp (args : List PV) (r : PV) (h : cCmp args = some r) : Enters Try.prog 146 ∧ PCall Try.prog 146 args r := by
  unfold cCmp at h; split at h
  · cases h; refine runP_sound ok4 (n := 60) (Eq.trans ?_ (cmp_tree2 _ _ _ _)); kernel_rfl
  · cases h
def cBdd1 : List PV → Option PV | [.agg [.val (.int .i64 a), .val (.int .i64 b)]] => some (bv (!bdd a b)) | _ => none
def E5 : EnvK := E4 |>.addO 39 (cPt2 right) |>.addO 129 cBdd1 |>.addO 110 cCmp |>.addO 146 cCmp
theorem ok5 : EnvOK Try.prog E5.env := (((ok4.addO oRight).addO (fun args r h => by
  unfold cBdd1 at h; split at h
  · rename_i a b; cases h; exact oBdd1 [ptv a b] (bv (bdd a b)) rfl
  · cases h)).addO oCmp).addO oRCmp
end Go.Hg
