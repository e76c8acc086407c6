/- Geometry: contracts of the functions of exact numbers. -/
import Derived.Test.YtneklpbkfmljfaaHgA
namespace Go.Hg
open Go.Hx Go.Proofs
def cCmpI : List PV → Option PV | [.val (.int .i64 a), .val (.int .i64 b)] => some (iv (sgn (a - b))) | _ => none
def cCmpU : List PV → Option PV | [.val (.int .u64 a), .val (.int .u64 b)] => some (iv (sgn (a - b))) | _ => none
theorem cmp_tree (a b : Int) : (bif a != a then (bif b != b then some (iv 0) else some (iv (-1))) else bif b != b then some (iv 1) else bif decide (a < b) then some (iv (-1)) else bif decide (a > b) then some (iv 1) else some (iv 0)) = some (iv (sgn (a - b))) := by
  simp only [bne_self_eq_false, cond_false]
  unfold sgn
  by_cases h : a < b
  · rw [decide_eq_true h, if_pos (by omega)]; rfl
  · rw [decide_eq_false h, if_neg (by omega)]
    by_cases h2 : a > b
    · rw [decide_eq_true h2, if_pos (by omega)]; rfl
    · rw [decide_eq_false h2, if_neg (by omega)]; rfl
theorem oCmpI (args : List PV) (r : PV) (h : cCmpI args = some r) : Enters Try.prog 138 ∧ PCall Try.prog 138 args r := by
  unfold cCmpI at h; split at h
  · rename_i a b; cases h
    refine runP_sound envOK_zero (n := 60) (Eq.trans ?_ (cmp_tree a b)); kernel_rfl
  · cases h
theorem oCmpU (args : List PV) (r : PV) (h : cCmpU args = some r) : Enters Try.prog 157 ∧ PCall Try.prog 157 args r := by
  unfold cCmpU at h; split at h
  · rename_i a b; cases h
    refine runP_sound envOK_zero (n := 60) (Eq.trans ?_ (cmp_tree a b)); kernel_rfl
  · cases h
def cSgn : List PV → Option PV | [.val (.int .i64 a)] => some (iv (sgn a)) | _ => none
theorem oRSign (args : List PV) (r : PV) (h : cSgn args = some r) : Enters Try.prog 133 ∧ PCall Try.prog 133 args r := by
  unfold cSgn at h; split at h
  · rename_i a; cases h
    have e : (bif decide (a > 0) then some (iv 1) else bif decide (a < 0) then some (iv (-1)) else some (iv 0)) = some (iv (sgn a)) := by
      unfold sgn
      by_cases h : a < 0
      · rw [decide_eq_false (show ¬ a > 0 by omega), decide_eq_true h, if_pos h]; rfl
      · rw [if_neg h, decide_eq_false h]
        by_cases h2 : a > 0
        · rw [decide_eq_true h2, if_pos h2]; rfl
        · rw [decide_eq_false h2, if_neg h2]; rfl
    refine runP_sound envOK_zero (n := 60) (Eq.trans ?_ e); kernel_rfl
  · cases h
def cSz : List PV → Option PV | [.val (.int .i64 a)] => some (uv (sz a)) | _ => none
theorem sz_tree (a : Int) : (bif decide (a < 0) then some (uv (U (0 - U a))) else some (uv (U a))) = some (uv (sz a)) := by
  unfold sz
  by_cases h : a < 0
  · rw [decide_eq_true h, if_pos h]; rfl
  · rw [decide_eq_false h, if_neg h]; rfl
theorem oSize (args : List PV) (r : PV) (h : cSz args = some r) : Enters Try.prog 139 ∧ PCall Try.prog 139 args r := by
  unfold cSz at h; split at h
  · rename_i a; cases h
    refine runP_sound envOK_zero (n := 60) (Eq.trans ?_ (sz_tree a)); kernel_rfl
  · cases h
theorem oRSize (args : List PV) (r : PV) (h : cSz args = some r) : Enters Try.prog 96 ∧ PCall Try.prog 96 args r := by
  unfold cSz at h; split at h
  · rename_i a; cases h
    refine runP_sound envOK_zero (n := 60) (Eq.trans ?_ (sz_tree a)); kernel_rfl
  · cases h
def cMul : List PV → Option PV | [.val (.int .u64 a), .val (.int .u64 b)] => some (.tup [uv (mulhi a b), uv (U (a * b))]) | _ => none
theorem oMul (args : List PV) (r : PV) (h : cMul args = some r) : Enters Try.prog 156 ∧ PCall Try.prog 156 args r := by
  unfold cMul at h; split at h
  · cases h; exact runP_sound envOK_zero (n := 60) (by kernel_rfl)
  · cases h
def cProd : List PV → Option PV | [.val (.int .u64 a), .val (.int .u64 b)] => some (.agg [uv (mulhi2 a b), uv (U (a * b))]) | _ => none
theorem oProd (args : List PV) (r : PV) (h : cProd args = some r) : Enters Try.prog 134 ∧ PCall Try.prog 134 args r := by
  unfold cProd at h; split at h
  · cases h; exact runP_sound envOK_zero (n := 60) (by kernel_rfl)
  · cases h
def E1 : EnvK := ({} : EnvK) |>.addO 138 cCmpI |>.addO 157 cCmpU |>.addO 133 cSgn |>.addO 139 cSz |>.addO 96 cSz |>.addO 156 cMul |>.addO 134 cProd
theorem ok1 : EnvOK Try.prog E1.env := ((((((envOK_zero.addO oCmpI).addO oCmpU).addO oRSign).addO oSize).addO oRSize).addO oMul).addO oProd
theorem sgn_sub0 (a : Int) : sgn (a - 0) = sgn a := by rw [Int.sub_zero]
theorem oSign (args : List PV) (r : PV) (h : cSgn args = some r) : Enters Try.prog 130 ∧ PCall Try.prog 130 args r := by
  unfold cSgn at h; split at h
  · rename_i a; cases h
    rw [← sgn_sub0]
    exact runP_sound ok1 (n := 60) (by kernel_rfl)
  · cases h
/-- The comparison of products of two words. -/
def cmp2 (a b c d : Int) : Int := if sgn (a - c) = 0 then sgn (b - d) else sgn (a - c)
def cCmp2 : List PV → Option PV | [.agg [.val (.int .u64 a), .val (.int .u64 b)], .agg [.val (.int .u64 c), .val (.int .u64 d)]] => some (iv (cmp2 a b c d)) | _ => none
theorem oCmp2 (args : List PV) (r : PV) (h : cCmp2 args = some r) : Enters Try.prog 132 ∧ PCall Try.prog 132 args r := by
  unfold cCmp2 at h; split at h
  · rename_i a b c d; cases h
    have e : (bif sgn (a - c) != 0 then some (iv (sgn (a - c))) else some (iv (sgn (b - d)))) = some (iv (cmp2 a b c d)) := by
      unfold cmp2
      by_cases h : sgn (a - c) = 0
      · rw [if_pos h, h]; rfl
      · rw [if_neg h, show (sgn (a - c) != 0) = true by simpa using h]; rfl
    refine runP_sound ok1 (n := 60) (Eq.trans ?_ e); kernel_rfl
  · cases h
theorem cmp2_eq (p q : Int) : cmp2 (hiP p) (U p) (hiP q) (U q) = sgn (p - q) := by
  unfold cmp2 hiP
  rw [U_eq, U_eq]
  unfold sgn
  (repeat' split) <;> omega
def cTimes : List PV → Option PV | [.val (.int .i64 a), .val (.int .i64 b)] => some (.agg [uv (hiP (sz a * sz b)), uv (U (sz a * sz b))]) | _ => none
theorem oTimes (args : List PV) (r : PV) (h : cTimes args = some r) : Enters Try.prog 131 ∧ PCall Try.prog 131 args r := by
  unfold cTimes at h; split at h
  · rename_i a b; cases h
    rw [← (mulhi_eq (sz_range a) (sz_range b)).1]
    exact runP_sound ok1 (n := 60) (by kernel_rfl)
  · cases h
def E2 : EnvK := E1 |>.addO 130 cSgn |>.addO 132 cCmp2 |>.addO 131 cTimes
theorem ok2 : EnvOK Try.prog E2.env := ((ok1.addO oSign).addO oCmp2).addO oTimes
end Go.Hg
