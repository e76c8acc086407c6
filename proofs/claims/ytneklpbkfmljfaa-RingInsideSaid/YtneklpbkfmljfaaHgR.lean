/- Geometry: contracts: rays. -/
import Derived.Test.YtneklpbkfmljfaaHgM
namespace Go.Hg
open Go.Hx Go.Proofs
def rayV (u v : Bool) (s1 s2 : Int) : Int := bif !u && v && decide (s1 < 0) then 1 else bif u && !v && decide (s2 < 0) then -1 else 0
/-- P6.3. -/
def ray (a b c d e f : Int) : Int := rayV (decide (b > f)) (decide (d > f)) (sd a b c d e f) (sd c d a b e f)
def upS (y d h : Int) : Bool := decide ((bif decide (d < 1) || false then 0 else sg2 y 1 h d) > 0)
/-- P6.4. -/
def rsp (a b c d e f g h : Int) : Int := bif decide (c < 1) || decide (f < 1) then 0 else rayV (upS b c h) (upS e f h) (ssd a b c d e f g h 1) (ssd d e f a b c g h 1)
def dn5 (u v k2 : Bool) : Option PV := bif u then bif !v then bif k2 then some (iv (-1)) else some (iv 0) else some (iv 0) else some (iv 0)
def rayT (u v k1 k2 : Bool) : Option PV := bif !u then bif v then bif k1 then some (iv 1) else dn5 u v k2 else dn5 u v k2 else dn5 u v k2
theorem rayT_eq (u v : Bool) (s1 s2 : Int) : rayT u v (decide (s1 < 0)) (decide (s2 < 0)) = some (iv (rayV u v s1 s2)) := by
  unfold rayT dn5 rayV
  cases u <;> cases v <;> cases decide (s1 < 0) <;> cases decide (s2 < 0) <;> rfl
def dn6 (r t k2 : Bool) : Option PV := bif r then bif t then bif k2 then some (iv (-1)) else some (iv 0) else some (iv 0) else some (iv 0)
def rayT2 (p q r t k1 k2 : Bool) : Option PV := bif p then bif q then bif k1 then some (iv 1) else dn6 r t k2 else dn6 r t k2 else dn6 r t k2
theorem rayT2_eq (u v : Bool) (s1 s2 : Int) : rayT2 (!u) v (!v) u (decide (s1 < 0)) (decide (s2 < 0)) = some (iv (rayV u v s1 s2)) := by
  unfold rayT2 dn6 rayV
  cases u <;> cases v <;> cases decide (s1 < 0) <;> cases decide (s2 < 0) <;> rfl
def cRay : List PV → Option PV
  | [.agg [.val (.int .i64 a), .val (.int .i64 b)], .agg [.val (.int .i64 c), .val (.int .i64 d)], .agg [.val (.int .i64 e), .val (.int .i64 f)]] => some (iv (ray a b c d e f))
  | _ => none
theorem oRay (args : List PV) (r : PV) (h : cRay args = some r) : Enters Try.prog 64 ∧ PCall Try.prog 64 args r := by
  unfold cRay at h; split at h
  · cases h; refine runP_sound ok19 (n := 60) (Eq.trans ?_ (rayT_eq _ _ _ _)); kernel_rfl
  · cases h
theorem oRRay (args : List PV) (r : PV) (h : cRay args = some r) : Enters Try.prog 65 ∧ PCall Try.prog 65 args r := by
  unfold cRay at h; split at h
  · rename_i a b c d e f; cases h
    have q : rayT2 (decide (b ≤ f)) (decide (f < d)) (decide (d ≤ f)) (decide (f < b)) (decide (sd a b c d e f < 0)) (decide (sd c d a b e f < 0)) = some (iv (ray a b c d e f)) := by
      unfold ray
      rw [show decide (b ≤ f) = !decide (b > f) by rw [Bool.eq_iff_iff]; simp, show decide (d ≤ f) = !decide (d > f) by rw [Bool.eq_iff_iff]; simp]
      exact rayT2_eq _ _ _ _
    refine runP_sound ok19 (n := 60) (Eq.trans ?_ q); kernel_rfl
  · cases h
def cRsp : List PV → Option PV
  | [.agg [.val (.int .i64 a), .val (.int .i64 b), .val (.int .i64 c)], .agg [.val (.int .i64 d), .val (.int .i64 e), .val (.int .i64 f)], .agg [.val (.int .i64 g), .val (.int .i64 h)]] => some (iv (rsp a b c d e f g h))
  | _ => none
theorem rsp_tree (a b c d e f g h : Int) : (bif decide (c < 1) then some (iv 0) else bif decide (f < 1) then some (iv 0) else rayT (upS b c h) (upS e f h) (decide (ssd a b c d e f g h 1 < 0)) (decide (ssd d e f a b c g h 1 < 0))) = some (iv (rsp a b c d e f g h)) := by
  rw [rayT_eq]; unfold rsp
  cases decide (c < 1) <;> cases decide (f < 1) <;> rfl
theorem oRsp (args : List PV) (r : PV) (h : cRsp args = some r) : Enters Try.prog 66 ∧ PCall Try.prog 66 args r := by
  unfold cRsp at h; split at h
  · cases h; refine runP_sound ok19 (n := 60) (Eq.trans ?_ (rsp_tree _ _ _ _ _ _ _ _)); kernel_rfl
  · cases h
theorem oRRsp (args : List PV) (r : PV) (h : cRsp args = some r) : Enters Try.prog 67 ∧ PCall Try.prog 67 args r := by
  unfold cRsp at h; split at h
  · cases h; refine runP_sound ok19 (n := 60) (Eq.trans ?_ (rsp_tree _ _ _ _ _ _ _ _)); kernel_rfl
  · cases h
noncomputable def E30 : EnvK := (((E19.addO 64 cRay).addO 65 cRay).addO 66 cRsp).addO 67 cRsp
theorem ok30 : EnvOK Try.prog E30.env := (((ok19.addO oRay).addO oRRay).addO oRsp).addO oRRsp
end Go.Hg
