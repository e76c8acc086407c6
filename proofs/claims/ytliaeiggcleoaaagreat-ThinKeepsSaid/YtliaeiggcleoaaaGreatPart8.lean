/- Geometry: contracts of the functions of exact numbers. -/
import Derived.Test.YtliaeiggcleoaaaGreatHgA
import Derived.Test.YtliaeiggcleoaaaGreatPart5
namespace Go.Hg
open Go.Hx Go.Proofs
def cCmpI:List PV -> Option PV | [.val (.int .i64 a),.val (.int .i64 b)] => some (iv (sgn (a - b))) | _ => none
def cCmpU:List PV -> Option PV | [.val (.int .u64 a),.val (.int .u64 b)] => some (iv (sgn (a - b))) | _ => none
theorem cmp_tree (a b:Int):(bif a != a then (bif b != b then some (iv 0) else some (iv (-1))) else bif b != b then some (iv 1) else bif decide (a < b) then some (iv (-1)) else bif decide (a > b) then some (iv 1) else some (iv 0)) = some (iv (sgn (a - b))):=by
 simp only [bne_self_eq_false,cond_false]
 unfold sgn
 by_cases h:a < b
 ·rw [decide_eq_true h,if_pos (by omega)]; rfl
 ·rw [decide_eq_false h,if_neg (by omega)]
  by_cases h2:a > b
  ·rw [decide_eq_true h2,if_pos (by omega)]; rfl
  ·rw [decide_eq_false h2,if_neg (by omega)]; rfl
theorem oCmpI (args:List PV) (r:PV) (h:cCmpI args = some r):Hx.Enters Tryz.prog 107 /\ PCall Tryz.prog 107 args r:=by
 unfold cCmpI at h; split at h
 ·rename_i a b; cases h
  refine runP_sound envOK_zero (n:=60) (Eq.trans ?_ (cmp_tree a b)); kernel_rfl
 ·cases h
theorem oCmpU (args:List PV) (r:PV) (h:cCmpU args = some r):Hx.Enters Tryz.prog 190 /\ PCall Tryz.prog 190 args r:=by
 unfold cCmpU at h; split at h
 ·rename_i a b; cases h
  refine runP_sound envOK_zero (n:=60) (Eq.trans ?_ (cmp_tree a b)); kernel_rfl
 ·cases h
def cSgn:List PV -> Option PV | [.val (.int .i64 a)] => some (iv (sgn a)) | _ => none
theorem oRSign (args:List PV) (r:PV) (h:cSgn args = some r):Hx.Enters Tryz.prog 182 /\ PCall Tryz.prog 182 args r:=by
 unfold cSgn at h; split at h
 ·rename_i a; cases h
  have e:(bif decide (a > 0) then some (iv 1) else bif decide (a < 0) then some (iv (-1)) else some (iv 0)) = some (iv (sgn a)):=by
   unfold sgn
   by_cases h:a < 0
   ·rw [decide_eq_false (show ¬ a > 0 by omega),decide_eq_true h,if_pos h]; rfl
   ·rw [if_neg h,decide_eq_false h]
    by_cases h2:a > 0
    ·rw [decide_eq_true h2,if_pos h2]; rfl
    ·rw [decide_eq_false h2,if_neg h2]; rfl
  refine runP_sound envOK_zero (n:=60) (Eq.trans ?_ e); kernel_rfl
 ·cases h
def cSz:List PV -> Option PV | [.val (.int .i64 a)] => some (uv (sz a)) | _ => none
theorem sz_tree (a:Int):(bif decide (a < 0) then some (uv (U (0 - U a))) else some (uv (U a))) = some (uv (sz a)):=by
 unfold sz
 by_cases h:a < 0
 ·rw [decide_eq_true h,if_pos h]; rfl
 ·rw [decide_eq_false h,if_neg h]; rfl
theorem oSize (args:List PV) (r:PV) (h:cSz args = some r):Hx.Enters Tryz.prog 189 /\ PCall Tryz.prog 189 args r:=by
 unfold cSz at h; split at h
 ·rename_i a; cases h
  refine runP_sound envOK_zero (n:=60) (Eq.trans ?_ (sz_tree a)); kernel_rfl
 ·cases h
theorem oRSize (args:List PV) (r:PV) (h:cSz args = some r):Hx.Enters Tryz.prog 184 /\ PCall Tryz.prog 184 args r:=by
 unfold cSz at h; split at h
 ·rename_i a; cases h
  refine runP_sound envOK_zero (n:=60) (Eq.trans ?_ (sz_tree a)); kernel_rfl
 ·cases h
def cMul:List PV -> Option PV | [.val (.int .u64 a),.val (.int .u64 b)] => some (.tup [uv (mulhi a b),uv (U (a * b))]) | _ => none
theorem oMul (args:List PV) (r:PV) (h:cMul args = some r):Hx.Enters Tryz.prog 188 /\ PCall Tryz.prog 188 args r:=by
 unfold cMul at h; split at h
 ·cases h; exact runP_sound envOK_zero (n:=60) (by kernel_rfl)
 ·cases h
def cProd:List PV -> Option PV | [.val (.int .u64 a),.val (.int .u64 b)] => some (.agg [uv (mulhi2 a b),uv (U (a * b))]) | _ => none
theorem oProd (args:List PV) (r:PV) (h:cProd args = some r):Hx.Enters Tryz.prog 183 /\ PCall Tryz.prog 183 args r:=by
 unfold cProd at h; split at h
 ·cases h; exact runP_sound envOK_zero (n:=60) (by kernel_rfl)
 ·cases h
def E1:EnvK:=({}:EnvK) |>.addO 107 cCmpI |>.addO 190 cCmpU |>.addO 182 cSgn |>.addO 189 cSz |>.addO 184 cSz |>.addO 188 cMul |>.addO 183 cProd
theorem ok1:EnvOK Tryz.prog E1.env:=((((((envOK_zero.addO oCmpI).addO oCmpU).addO oRSign).addO oSize).addO oRSize).addO oMul).addO oProd
theorem sgn_sub0 (a:Int):sgn (a - 0) = sgn a:=by rw [Int.sub_zero]
theorem oSign (args:List PV) (r:PV) (h:cSgn args = some r):Hx.Enters Tryz.prog 171 /\ PCall Tryz.prog 171 args r:=by
 unfold cSgn at h; split at h
 ·rename_i a; cases h
  rw [<- sgn_sub0]
  exact runP_sound ok1 (n:=60) (by kernel_rfl)
 ·cases h
def cmp2 (a b c d:Int):Int:=if sgn (a - c) = 0 then sgn (b - d) else sgn (a - c)
def cCmp2:List PV -> Option PV | [.agg [.val (.int .u64 a),.val (.int .u64 b)],.agg [.val (.int .u64 c),.val (.int .u64 d)]] => some (iv (cmp2 a b c d)) | _ => none
theorem oCmp2 (args:List PV) (r:PV) (h:cCmp2 args = some r):Hx.Enters Tryz.prog 173 /\ PCall Tryz.prog 173 args r:=by
 unfold cCmp2 at h; split at h
 ·rename_i a b c d; cases h
  have e:(bif sgn (a - c) != 0 then some (iv (sgn (a - c))) else some (iv (sgn (b - d)))) = some (iv (cmp2 a b c d)):=by
   unfold cmp2
   by_cases h:sgn (a - c) = 0
   ·rw [if_pos h,h]; rfl
   ·rw [if_neg h,show (sgn (a - c) != 0) = true by simpa using h]; rfl
  refine runP_sound ok1 (n:=60) (Eq.trans ?_ e); kernel_rfl
 ·cases h
theorem cmp2_eq (p q:Int):cmp2 (hiP p) (U p) (hiP q) (U q) = sgn (p - q):=by
 unfold cmp2 hiP
 rw [U_eq,U_eq]
 unfold sgn
 (repeat' split) <;> omega
def cTimes:List PV -> Option PV | [.val (.int .i64 a),.val (.int .i64 b)] => some (.agg [uv (hiP (sz a * sz b)),uv (U (sz a * sz b))]) | _ => none
theorem oTimes (args:List PV) (r:PV) (h:cTimes args = some r):Hx.Enters Tryz.prog 172 /\ PCall Tryz.prog 172 args r:=by
 unfold cTimes at h; split at h
 ·rename_i a b; cases h
  rw [<- (mulhi_eq (sz_range a) (sz_range b)).1]
  exact runP_sound ok1 (n:=60) (by kernel_rfl)
 ·cases h
def E2:EnvK:=E1 |>.addO 171 cSgn |>.addO 173 cCmp2 |>.addO 172 cTimes
theorem ok2:EnvOK Tryz.prog E2.env:=((ok1.addO oSign).addO oCmp2).addO oTimes
end Go.Hg
/- Geometry: contracts: the sign of a difference of products. -/
namespace Go.Hg
open Go.Hx Go.Proofs
def cSg2:List PV -> Option PV | [.val (.int .i64 a),.val (.int .i64 b),.val (.int .i64 c),.val (.int .i64 d)] => some (iv (sg2 a b c d)) | _ => none
theorem sgn_mul (a b:Int):W (sgn a * sgn b) = sgn a * sgn b /\ -1 <= sgn a * sgn b /\ sgn a * sgn b <= 1:=by
 have h1:=sgn_range a
 have h2:=sgn_range b
 have h:-1 <= sgn a * sgn b /\ sgn a * sgn b <= 1:=by
  have:sgn a = -1 \/ sgn a = 0 \/ sgn a = 1:=by omega
  rcases this with e | e | e <;> rw [e] <;> omega
 exact ⟨W_id (by omega) (by omega),h⟩
theorem W_sub1 {s t:Int} (h1:-1 <= s /\ s <= 1) (h2:-1 <= t /\ t <= 1):W (s - t) = s - t:=W_id (by omega) (by omega)
theorem oSg2 (args:List PV) (r:PV) (h:cSg2 args = some r):Hx.Enters Tryz.prog 154 /\ PCall Tryz.prog 154 args r:=by
 unfold cSg2 at h; split at h
 ·rename_i a b c d; cases h
  have e:(bif W (sgn a * sgn b) != W (sgn c * sgn d) then some (iv (sgn (W (W (sgn a * sgn b) - W (sgn c * sgn d))))) else some (iv (W (W (sgn a * sgn b) * cmp2 (hiP (sz a * sz b)) (U (sz a * sz b)) (hiP (sz c * sz d)) (U (sz c * sz d)))))) = some (iv (sg2 a b c d)):=by
   obtain ⟨e1,h1⟩:=sgn_mul a b
   obtain ⟨e2,h2⟩:=sgn_mul c d
   rw [e1,e2,cmp2_eq,W_sub1 h1 h2]
   unfold sg2
   generalize sgn a * sgn b = s at *
   generalize sgn c * sgn d = t at *
   by_cases hst:s = t
   ·rw [if_pos hst,show (s != t) = false by simpa using hst]
    have hm:W (s * sgn (sz a * sz b - sz c * sz d)) = s * sgn (sz a * sz b - sz c * sz d):=by
     have h3:=sgn_range (sz a * sz b - sz c * sz d)
     generalize sgn (sz a * sz b - sz c * sz d) = q at *
     have hs:s = -1 \/ s = 0 \/ s = 1:=by omega
     rcases hs with e | e | e <;> rw [e] <;> exact W_id (by omega) (by omega)
    rw [hm]; rfl
   ·rw [if_neg hst,show (s != t) = true by simpa using hst]; rfl
  refine runP_sound ok2 (n:=60) (Eq.trans ?_ e); kernel_rfl
 ·cases h
theorem oRSg2 (args:List PV) (r:PV) (h:cSg2 args = some r):Hx.Enters Tryz.prog 159 /\ PCall Tryz.prog 159 args r:=by
 unfold cSg2 at h; split at h
 ·rename_i a b c d; cases h
  have e:(bif W (sgn a * sgn b) != W (sgn c * sgn d) then some (iv (sgn (W (W (sgn a * sgn b) - W (sgn c * sgn d))))) else
    bif decide (mulhi2 (sz a) (sz b) > mulhi2 (sz c) (sz d)) then some (iv (W (sgn a * sgn b))) else bif decide (mulhi2 (sz a) (sz b) < mulhi2 (sz c) (sz d)) then some (iv (W (0 - W (sgn a * sgn b)))) else
    bif decide (U (sz a * sz b) > U (sz c * sz d)) then some (iv (W (sgn a * sgn b))) else bif decide (U (sz a * sz b) < U (sz c * sz d)) then some (iv (W (0 - W (sgn a * sgn b)))) else some (iv 0)) = some (iv (sg2 a b c d)):=by
   obtain ⟨e1,h1⟩:=sgn_mul a b
   obtain ⟨e2,h2⟩:=sgn_mul c d
   rw [e1,e2,W_sub1 h1 h2,(mulhi_eq (sz_range a) (sz_range b)).2,(mulhi_eq (sz_range c) (sz_range d)).2]
   unfold sg2
   generalize sgn a * sgn b = s at *
   generalize sgn c * sgn d = t at *
   have hp:∀ x y:Int,0 <= sz x * sz y:=fun x y => Int.mul_nonneg (sz_range x).1 (sz_range y).1
   have p1:=hp a b
   have p2:=hp c d
   generalize sz a * sz b = p at *
   generalize sz c * sz d = q at *
   by_cases hst:s = t
   ·rw [if_pos hst,show (s != t) = false by simpa using hst,W_id (n:=0 - s) (by omega) (by omega)]
    have d1:hiP p > hiP q \/ hiP p < hiP q \/ hiP p = hiP q:=by omega
    have c0:∀ {b:Bool} {x y:Option PV},b = true -> (bif b then x else y) = x:=fun h => by rw [h]; rfl
    have c1:∀ {b:Bool} {x y:Option PV},b = false -> (bif b then x else y) = y:=fun h => by rw [h]; rfl
    rw [c1 rfl]
    have sp:∀ z:Int,0 < z -> s * sgn z = s:=fun z h => by unfold sgn; rw [if_neg (by omega),if_pos h]; omega
    have sn:∀ z:Int,z < 0 -> s * sgn z = 0 - s:=fun z h => by unfold sgn; rw [if_pos h]; omega
    have hh1:hiP p > hiP q -> 0 < p - q:=by unfold hiP; omega
    have hh2:hiP p < hiP q -> p - q < 0:=by unfold hiP; omega
    rcases d1 with g | g | g
    ·rw [c0 (decide_eq_true g),sp _ (hh1 g)]
    ·rw [c1 (decide_eq_false (by omega)),c0 (decide_eq_true g),sn _ (hh2 g)]
    ·rw [c1 (decide_eq_false (by omega)),c1 (decide_eq_false (by omega))]
     have d2:U p > U q \/ U p < U q \/ U p = U q:=by omega
     have k1:U p > U q -> 0 < p - q:=by rw [U_eq,U_eq]; unfold hiP at g; omega
     have k2:U p < U q -> p - q < 0:=by rw [U_eq,U_eq]; unfold hiP at g; omega
     have k3:U p = U q -> p - q = 0:=by rw [U_eq,U_eq]; unfold hiP at g; omega
     rcases d2 with g2 | g2 | g2
     ·rw [c0 (decide_eq_true g2),sp _ (k1 g2)]
     ·rw [c1 (decide_eq_false (by omega)),c0 (decide_eq_true g2),sn _ (k2 g2)]
     ·rw [c1 (decide_eq_false (by omega)),c1 (decide_eq_false (by omega)),k3 g2]
      show some (iv 0) = some (iv (s * 0)); rw [Int.mul_zero]
   ·rw [if_neg hst,show (s != t) = true by simpa using hst]; rfl
  refine runP_sound ok2 (n:=60) (Eq.trans ?_ e); kernel_rfl
 ·cases h
def E3:EnvK:=E2 |>.addO 154 cSg2 |>.addO 159 cSg2
theorem ok3:EnvOK Tryz.prog E3.env:=(ok2.addO oSg2).addO oRSg2
end Go.Hg
/- Geometry: contracts: bounds, Cmp. -/
namespace Go.Hg
open Go.Hx Go.Proofs
def wi2 (n a b:Int):Bool:=!(decide (a < W (0 - n)) || decide (a > n) || decide (b < W (0 - n)) || decide (b > n))
def cWithin:List PV -> Option PV | [.val (.int .i64 n),.lst _ 3 [.val (.int .i64 a),.val (.int .i64 b)]] => some (bv (wi2 n a b)) | _ => none
theorem oWithin (args:List PV) (r:PV) (h:cWithin args = some r):Hx.Enters Tryz.prog 152 /\ PCall Tryz.prog 152 args r:=by
 unfold cWithin at h; split at h
 ·rename_i n f a b; cases h
  have e:(bif decide (a < W (0 - n)) then some (bv false) else bif decide (a > n) then some (bv false) else bif decide (b < W (0 - n)) then some (bv false) else bif decide (b > n) then some (bv false) else some (bv true)) = some (bv (wi2 n a b)):=by
   unfold wi2
   cases decide (a < W (0 - n)) <;> cases decide (a > n) <;> cases decide (b < W (0 - n)) <;> cases decide (b > n) <;> rfl
  refine runP_sound ok3 (n:=60) (Eq.trans ?_ e); kernel_rfl
 ·cases h
def inB (n a:Int):Bool:=decide (-n <= a) && decide (a <= n)
theorem wi2_eq {n:Int} (h:0 <= n /\ n < 9223372036854775808) (a b:Int):wi2 n a b = (inB n a && inB n b):=by
 unfold wi2 inB
 rw [W_id (n:=0 - n) (by omega) (by omega)]
 by_cases h1:a < 0 - n
 ·rw [decide_eq_true h1,decide_eq_false (show ¬ -n <= a by omega)]; rfl
 ·rw [decide_eq_false h1,decide_eq_true (show -n <= a by omega)]
  by_cases h2:a > n
  ·rw [decide_eq_true h2,decide_eq_false (show ¬ a <= n by omega)]; rfl
  ·rw [decide_eq_false h2,decide_eq_true (show a <= n by omega)]
   by_cases h3:b < 0 - n
   ·rw [decide_eq_true h3,decide_eq_false (show ¬ -n <= b by omega)]; rfl
   ·rw [decide_eq_false h3,decide_eq_true (show -n <= b by omega)]
    by_cases h4:b > n
    ·rw [decide_eq_true h4,decide_eq_false (show ¬ b <= n by omega)]; rfl
    ·rw [decide_eq_false h4,decide_eq_true (show b <= n by omega)]; rfl
def inB2 (n a b:Int):Bool:=inB n a && inB n b
abbrev bdd (a b:Int):Bool:=inB2 1152921504606846976 a b
abbrev right (a b:Int):Bool:=inB2 16384 a b
theorem tree4 (p q r s:Bool):(bif p then bif q then bif r then some (bv s) else some (bv false) else some (bv false) else some (bv false)) = some (bv (p && q && (r && s))):=by
 cases p <;> cases q <;> cases r <;> rfl
def cPt2 (g:Int -> Int -> Bool):List PV -> Option PV | [.agg [.val (.int .i64 a),.val (.int .i64 b)]] => some (bv (g a b)) | _ => none
theorem oRBdd (args:List PV) (r:PV) (h:cPt2 bdd args = some r):Hx.Enters Tryz.prog 116 /\ PCall Tryz.prog 116 args r:=by
 unfold cPt2 at h; split at h
 ·rename_i a b; cases h
  refine runP_sound ok3 (n:=60) (Eq.trans ?_ (tree4 (decide (-1152921504606846976 <= a)) (decide (a <= 1152921504606846976)) (decide (-1152921504606846976 <= b)) (decide (b <= 1152921504606846976)))); kernel_rfl
 ·cases h
theorem oRRight (args:List PV) (r:PV) (h:cPt2 right args = some r):Hx.Enters Tryz.prog 130 /\ PCall Tryz.prog 130 args r:=by
 unfold cPt2 at h; split at h
 ·rename_i a b; cases h
  refine runP_sound ok3 (n:=60) (Eq.trans ?_ (tree4 (decide (-16384 <= a)) (decide (a <= 16384)) (decide (-16384 <= b)) (decide (b <= 16384)))); kernel_rfl
 ·cases h
def E4:EnvK:=E3 |>.addO 152 cWithin |>.addO 116 (cPt2 bdd) |>.addO 130 (cPt2 right)
theorem ok4:EnvOK Tryz.prog E4.env:=((ok3.addO oWithin).addO oRBdd).addO oRRight
theorem oRight (args:List PV) (r:PV) (h:cPt2 right args = some r):Hx.Enters Tryz.prog 127 /\ PCall Tryz.prog 127 args r:=by
 unfold cPt2 at h; split at h
 ·rename_i a b; cases h
  rw [show right a b = wi2 16384 a b from (wi2_eq (by omega) a b).symm]
  exact runP_sound ok4 (n:=60) (by kernel_rfl)
 ·cases h
theorem oBdd1 (args:List PV) (r:PV) (h:cPt2 bdd args = some r):Hx.Enters Tryz.prog 151 /\ PCall Tryz.prog 151 args (.val (.bool (!r.getB))):=by
 unfold cPt2 at h; split at h
 ·rename_i a b; cases h
  rw [show bdd a b = wi2 1152921504606846976 a b from (wi2_eq (by omega) a b).symm]
  exact runP_sound ok4 (n:=60) (by kernel_rfl)
 ·cases h
def cCmp:List PV -> Option PV | [.agg [.val (.int .i64 a),.val (.int .i64 b)],.agg [.val (.int .i64 c),.val (.int .i64 d)]] => some (iv (bif decide (b < 1) || decide (d < 1) then 0 else sg2 a d c b)) | _ => none
def cBdd1:List PV -> Option PV | [.agg [.val (.int .i64 a),.val (.int .i64 b)]] => some (bv (!bdd a b)) | _ => none
def E5:EnvK:=E4 |>.addO 127 (cPt2 right) |>.addO 151 cBdd1
theorem ok5:EnvOK Tryz.prog E5.env:=(ok4.addO oRight).addO (fun args r h => by
 unfold cBdd1 at h; split at h
 ·rename_i a b; cases h; exact oBdd1 [ptv a b] (bv (bdd a b)) rfl
 ·cases h)
end Go.Hg
/- Geometry: contracts: Side, the order of points. -/
namespace Go.Hg
open Go.Hx Go.Proofs
def crs (a b c d e f:Int):Int:=(c - a) * (f - b) - (d - b) * (e - a)
def sd (a b c d e f:Int):Int:=bif bdd a b && bdd c d && bdd e f then sgn (crs a b c d e f) else 0
theorem inB_iff {n a:Int}:inB n a = true ↔ -n <= a /\ a <= n:=by unfold inB; simp
theorem inB2_iff {n a b:Int}:inB2 n a b = true ↔ (-n <= a /\ a <= n) /\ (-n <= b /\ b <= n):=by unfold inB2; simp [inB_iff]
theorem sg2_side {a b c d e f:Int} (h1:bdd a b = true) (h2:bdd c d = true) (h3:bdd e f = true):sg2 (W (c - a)) (W (f - b)) (W (d - b)) (W (e - a)) = sgn (crs a b c d e f):=by
 have k1:=inB2_iff.1 h1
 have k2:=inB2_iff.1 h2
 have k3:=inB2_iff.1 h3
 rw [W_id (n:=c - a) (by omega) (by omega),W_id (n:=f - b) (by omega) (by omega),W_id (n:=d - b) (by omega) (by omega),W_id (n:=e - a) (by omega) (by omega)]
 exact sg2_eq (by omega) (by omega) (by omega) (by omega)
def cSide:List PV -> Option PV
 | [.agg [.val (.int .i64 a),.val (.int .i64 b)],.agg [.val (.int .i64 c),.val (.int .i64 d)],.agg [.val (.int .i64 e),.val (.int .i64 f)]] => some (iv (sd a b c d e f))
 | _ => none
theorem sd_tree (a b c d e f:Int):(bif !bdd a b then some (iv 0) else bif !bdd c d then some (iv 0) else bif !bdd e f then some (iv 0) else some (iv (sg2 (W (c - a)) (W (f - b)) (W (d - b)) (W (e - a))))) = some (iv (sd a b c d e f)):=by
 unfold sd
 cases h1:bdd a b
 ·rfl
 ·cases h2:bdd c d
  ·rfl
  ·cases h3:bdd e f
   ·rfl
   ·rw [sg2_side h1 h2 h3]; rfl
theorem oRSide (args:List PV) (r:PV) (h:cSide args = some r):Hx.Enters Tryz.prog 117 /\ PCall Tryz.prog 117 args r:=by
 unfold cSide at h; split at h
 ·cases h; refine runP_sound ok5 (n:=60) (Eq.trans ?_ (sd_tree _ _ _ _ _ _)); kernel_rfl
 ·cases h
theorem oSide (args:List PV) (r:PV) (h:cSide args = some r):Hx.Enters Tryz.prog 111 /\ PCall Tryz.prog 111 args r:=by
 unfold cSide at h; split at h
 ·rename_i a b c d e f; cases h
  have q:(bif (a == c) && ((b == d) && true) then some (iv 0) else bif !bdd a b then some (iv 0) else bif !bdd c d then some (iv 0) else bif !bdd e f then some (iv 0) else some (iv (sg2 (W (c - a)) (W (f - b)) (W (d - b)) (W (e - a))))) = some (iv (sd a b c d e f)):=by
   rw [sd_tree]
   by_cases h:a = c /\ b = d
   ·obtain ⟨rfl,rfl⟩:=h
    have:crs a b a b e f = 0:=by unfold crs; rw [Int.sub_self,Int.sub_self,Int.zero_mul,Int.zero_mul]; rfl
    have:sd a b a b e f = 0:=by unfold sd; rw [this]; cases bdd a b && bdd a b && bdd e f <;> rfl
    rw [this]; simp
   ·have:((a == c) && ((b == d) && true)) = false:=by
     rw [Bool.and_true,Bool.and_eq_false_iff]
     by_cases ha:a = c
     ·exact .inr (by simp; exact fun hb => h ⟨ha,hb⟩)
     ·exact .inl (by simpa using ha)
    rw [this]; rfl
  refine runP_sound ok5 (n:=60) (Eq.trans ?_ q); kernel_rfl
 ·cases h
def cCmpP:List PV -> Option PV | [.agg [.val (.int .i64 a),.val (.int .i64 b)],.agg [.val (.int .i64 c),.val (.int .i64 d)]] => some (iv (cmp2 a b c d)) | _ => none
def lessP (a b c d:Int):Bool:=decide (a < c) || (a == c) && decide (b < d)
def cLess:List PV -> Option PV | [.agg [.val (.int .i64 a),.val (.int .i64 b)],.agg [.val (.int .i64 c),.val (.int .i64 d)]] => some (bv (lessP a b c d)) | _ => none
def E6:EnvK:=E5 |>.addO 111 cSide |>.addO 117 cSide
theorem ok6:EnvOK Tryz.prog E6.env:=(ok5.addO oSide).addO oRSide
theorem oCmpP (args:List PV) (r:PV) (h:cCmpP args = some r):Hx.Enters Tryz.prog 113 /\ PCall Tryz.prog 113 args r:=by
 unfold cCmpP at h; split at h
 ·rename_i a b c d; cases h
  have q:(bif sgn (a - c) != 0 then some (iv (sgn (a - c))) else bif sgn (b - d) != 0 then some (iv (sgn (b - d))) else some (iv 0)) = some (iv (cmp2 a b c d)):=by
   unfold cmp2
   by_cases h:sgn (a - c) = 0
   ·rw [if_pos h,h]
    by_cases h2:sgn (b - d) = 0
    ·rw [h2]; rfl
    ·rw [show (sgn (b - d) != 0) = true by simpa using h2]; rfl
   ·rw [if_neg h,show (sgn (a - c) != 0) = true by simpa using h]; rfl
  refine runP_sound ok6 (n:=60) (Eq.trans ?_ q); kernel_rfl
 ·cases h
theorem oLess (args:List PV) (r:PV) (h:cLess args = some r):Hx.Enters Tryz.prog 120 /\ PCall Tryz.prog 120 args r:=by
 unfold cLess at h; split at h
 ·rename_i a b c d; cases h
  have q:(bif decide (a < c) then some (bv true) else bif a == c then some (bv (decide (b < d))) else some (bv false)) = some (bv (lessP a b c d)):=by
   unfold lessP
   cases decide (a < c) <;> cases a == c <;> rfl
  refine runP_sound ok6 (n:=60) (Eq.trans ?_ q); kernel_rfl
 ·cases h
def btwn (a c e:Int):Bool:=decide ((if c < a then c else a) <= e) && decide (e <= (if c > a then c else a))
def onX (a b c d e f:Int):Bool:=bdd a b && bdd c d && bdd e f && (btwn a c e && btwn b d f && (sd a b c d e f == 0))
def cOn:List PV -> Option PV
 | [.agg [.val (.int .i64 a),.val (.int .i64 b)],.agg [.val (.int .i64 c),.val (.int .i64 d)],.agg [.val (.int .i64 e),.val (.int .i64 f)]] => some (bv (onX a b c d e f))
 | _ => none
theorem oROn (args:List PV) (r:PV) (h:cOn args = some r):Hx.Enters Tryz.prog 118 /\ PCall Tryz.prog 118 args r:=by
 unfold cOn at h; split at h
 ·rename_i a b c d e f; cases h
  have q:(bif !bdd a b then some (bv false) else bif !bdd c d then some (bv false) else bif !bdd e f then some (bv false) else
    bif decide ((if c < a then c else a) <= e) then bif decide (e <= (if c > a then c else a)) then bif decide ((if d < b then d else b) <= f) then bif decide (f <= (if d > b then d else b)) then some (bv (sd a b c d e f == 0))
     else some (bv false) else some (bv false) else some (bv false) else some (bv false)) = some (bv (onX a b c d e f)):=by
   unfold onX btwn
   cases bdd a b <;> cases bdd c d <;> cases bdd e f <;> cases decide ((if c < a then c else a) <= e) <;> cases decide (e <= (if c > a then c else a)) <;> cases decide ((if d < b then d else b) <= f) <;> cases decide (f <= (if d > b then d else b)) <;> rfl
  refine runP_sound ok6 (n:=60) (Eq.trans ?_ q); kernel_rfl
 ·cases h
def E7:EnvK:=E6 |>.addO 113 cCmpP |>.addO 120 cLess |>.addO 118 cOn
theorem ok7:EnvOK Tryz.prog E7.env:=((ok6.addO oCmpP).addO oLess).addO oROn
end Go.Hg
/- Geometry: contracts: two points sorted; the greater, the lesser. -/
namespace Go.Hg
open Go.Hx Go.Proofs
def swp (a b c d:Int):Bool:=decide (cmp2 c d a b < 0)
def ifI (t:Bool) (x y:Int):Int:=bif t then x else y
abbrev sRow (es:List PV):Row:={ es,s:=2,t:=37,bv:=true }
def cSort:List PV -> List Row -> Option (DT (PV × List Row))
 | [.sl 0 2 0 2,.fn (.func 113) [] []],[⟨[.agg [.val (.int .i64 a),.val (.int .i64 b)],.agg [.val (.int .i64 c),.val (.int .i64 d)]],2,37,true,true,false,none,false⟩] =>
  some (.leaf (.tup [],[sRow [ptv (ifI (swp a b c d) c a) (ifI (swp a b c d) d b),ptv (ifI (swp a b c d) a c) (ifI (swp a b c d) b d)]]))
 | _,_ => none
theorem qSort (a b c d:Int):runR Tryz.prog E7 60 0 112 [.sl 0 2 0 2,.fn (.func 113) [] []] [sRow [ptv a b,ptv c d]] =
  bif swp a b c d then some (.tup [],[sRow [ptv c d,ptv a b]]) else some (.tup [],[sRow [ptv a b,ptv c d]]):=by kernel_rfl
theorem qSort2 (a b c d:Int):runR Tryz.prog E7 60 0 112 [.sl 0 2 0 2,.fn (.func 113) [] []] [sRow [ptv a b,ptv c d]] =
  some (.tup [],[sRow [ptv (ifI (swp a b c d) c a) (ifI (swp a b c d) d b),ptv (ifI (swp a b c d) a c) (ifI (swp a b c d) b d)]]):=by
 rw [qSort]; cases swp a b c d <;> rfl
theorem eSort:Hx.Enters Tryz.prog 112:=(runR_sound ok7 (qSort2 0 0 0 0)).1
theorem oSort (args:List PV) (H:List Row) (d:DT (PV × List Row)) (p:PV) (H':List Row) (h:cSort args H = some d) (hd:d.run = some (p,H')):RCall Tryz.prog 0 112 args H p H':=by
 unfold cSort at h; split at h
 ·rename_i a b c d
  cases h
  cases hd
  exact (runR_sound ok7 (qSort2 a b c d)).2
 ·cases h
def cMaxF:List PV -> Option PV
 | [.lst _ 37 [.agg [.val (.int .i64 a),.val (.int .i64 b)],.agg [.val (.int .i64 c),.val (.int .i64 d)]],.fn (.func 113) [] []] =>
  some (ptv (ifI (decide (cmp2 c d a b > 0)) c a) (ifI (decide (cmp2 c d a b > 0)) d b))
 | _ => none
def cMinF:List PV -> Option PV
 | [.lst _ 37 [.agg [.val (.int .i64 a),.val (.int .i64 b)],.agg [.val (.int .i64 c),.val (.int .i64 d)]],.fn (.func 113) [] []] =>
  some (ptv (ifI (swp a b c d) c a) (ifI (swp a b c d) d b))
 | _ => none
theorem oMaxF (args:List PV) (r:PV) (h:cMaxF args = some r):Hx.Enters Tryz.prog 114 /\ PCall Tryz.prog 114 args r:=by
 unfold cMaxF at h; split at h
 ·rename_i f a b c d; cases h
  have q:(bif decide (cmp2 c d a b > 0) then some (ptv c d) else some (ptv a b)) = some (ptv (ifI (decide (cmp2 c d a b > 0)) c a) (ifI (decide (cmp2 c d a b > 0)) d b)):=by cases decide (cmp2 c d a b > 0) <;> rfl
  refine runP_sound ok7 (n:=60) (Eq.trans ?_ q); kernel_rfl
 ·cases h
theorem oMinF (args:List PV) (r:PV) (h:cMinF args = some r):Hx.Enters Tryz.prog 115 /\ PCall Tryz.prog 115 args r:=by
 unfold cMinF at h; split at h
 ·rename_i f a b c d; cases h
  have q:(bif swp a b c d then some (ptv c d) else some (ptv a b)) = some (ptv (ifI (swp a b c d) c a) (ifI (swp a b c d) d b)):=by cases swp a b c d <;> rfl
  refine runP_sound ok7 (n:=60) (Eq.trans ?_ q); kernel_rfl
 ·cases h
def E8:EnvK:=((E7.addO 114 cMaxF).addO 115 cMinF).addR 112 cSort
theorem ok8:EnvOK Tryz.prog E8.env:=((ok7.addO oMaxF).addO oMinF).addR eSort oSort
end Go.Hg
/- Geometry: Meet. -/
namespace Go.Hg
open Go.Hx Go.Proofs
def cOrd:List PV -> Option PV
 | [.agg [.val (.int .i64 a),.val (.int .i64 b)],.agg [.val (.int .i64 c),.val (.int .i64 d)]] =>
  some (.tup [ptv (ifI (lessP c d a b) c a) (ifI (lessP c d a b) d b),ptv (ifI (lessP c d a b) a c) (ifI (lessP c d a b) b d)])
 | _ => none
theorem oOrd (args:List PV) (r:PV) (h:cOrd args = some r):Hx.Enters Tryz.prog 119 /\ PCall Tryz.prog 119 args r:=by
 unfold cOrd at h; split at h
 ·rename_i a b c d; cases h
  have q:(bif lessP c d a b then some (.tup [ptv c d,ptv a b]) else some (.tup [ptv a b,ptv c d])) = some (PV.tup [ptv (ifI (lessP c d a b) c a) (ifI (lessP c d a b) d b),ptv (ifI (lessP c d a b) a c) (ifI (lessP c d a b) b d)]):=by cases lessP c d a b <;> rfl
  refine runP_sound ok8 (n:=60) (Eq.trans ?_ q); kernel_rfl
 ·cases h
def E9:EnvK:=E8.addO 119 cOrd
theorem ok9:EnvOK Tryz.prog E9.env:=ok8.addO oOrd

theorem sgn_lt {n:Int}:sgn n < 0 ↔ n < 0:=by unfold sgn; (repeat' split) <;> omega
theorem sgn_gt {n:Int}:0 < sgn n ↔ 0 < n:=by unfold sgn; (repeat' split) <;> omega
theorem sgn_zero {n:Int}:sgn n = 0 ↔ n = 0:=by unfold sgn; (repeat' split) <;> omega
theorem cmp2_range (a b c d:Int):-1 <= cmp2 a b c d /\ cmp2 a b c d <= 1:=by unfold cmp2; split <;> exact sgn_range _
theorem cmp2_lt_iff (a b c d:Int):cmp2 a b c d < 0 ↔ a < c \/ a = c /\ b < d:=by
 unfold cmp2
 split
 ·rename_i h; have:=sgn_zero.1 h; rw [sgn_lt]; omega
 ·rename_i h; have:a - c ≠ 0:=fun e => h (sgn_zero.2 e); rw [sgn_lt]; omega
theorem cmp2_gt_iff (a b c d:Int):0 < cmp2 a b c d ↔ c < a \/ c = a /\ d < b:=by
 unfold cmp2
 split
 ·rename_i h; have:=sgn_zero.1 h; rw [sgn_gt]; omega
 ·rename_i h; have:a - c ≠ 0:=fun e => h (sgn_zero.2 e); rw [sgn_gt]; omega
theorem lessP_iff {a b c d:Int}:lessP a b c d = true ↔ a < c \/ a = c /\ b < d:=by unfold lessP; simp
theorem swp_eq (a b c d:Int):swp a b c d = lessP c d a b:=by
 unfold swp
 rw [Bool.eq_iff_iff,decide_eq_true_iff,cmp2_lt_iff,lessP_iff]
theorem cmpgt_eq (a b c d:Int):decide (cmp2 a b c d > 0) = lessP c d a b:=by
 rw [Bool.eq_iff_iff,decide_eq_true_iff,lessP_iff]
 exact cmp2_gt_iff a b c d
theorem sd_range (a b c d e f:Int):-1 <= sd a b c d e f /\ sd a b c d e f <= 1:=by
 unfold sd
 cases bdd a b && bdd c d && bdd e f
 ·exact ⟨by simp,by simp⟩
 ·exact sgn_range _
def nfl (s1 s2 s3 s4:Int):Int:=bif decide (s1 * s2 > 0) || decide (s3 * s4 > 0) then 0 else 1
def fl (a b c d e f g h:Int):Int:=
 let lx:=ifI (lessP c d a b) c a; let ly:=ifI (lessP c d a b) d b; let hx:=ifI (lessP c d a b) a c; let hy:=ifI (lessP c d a b) b d
 let mx:=ifI (lessP g h e f) g e; let my:=ifI (lessP g h e f) h f; let nx:=ifI (lessP g h e f) e g; let ny:=ifI (lessP g h e f) f h
 1 + cmp2 (ifI (lessP nx ny hx hy) nx hx) (ifI (lessP nx ny hx hy) ny hy) (ifI (lessP lx ly mx my) mx lx) (ifI (lessP lx ly mx my) my ly)
def mt (a b c d e f g h:Int):Int:=
 bif bdd a b && bdd c d && bdd e f && bdd g h then
  bif (sd a b c d e f == 0) && (sd a b c d g h == 0) && (sd e f g h a b == 0) && (sd e f g h c d == 0) then fl a b c d e f g h
  else nfl (sd a b c d e f) (sd a b c d g h) (sd e f g h a b) (sd e f g h c d)
 else 0
def cMeet:List PV -> Option PV
 | [.agg [.val (.int .i64 a),.val (.int .i64 b)],.agg [.val (.int .i64 c),.val (.int .i64 d)],.agg [.val (.int .i64 e),.val (.int .i64 f)],.agg [.val (.int .i64 g),.val (.int .i64 h)]] => some (iv (mt a b c d e f g h))
 | _ => none
def nfI (s1 s2 s3 s4:Int):Option PV:=bif decide (W (s1 * s2) > 0) then some (iv 0) else bif decide (W (s3 * s4) > 0) then some (iv 0) else some (iv 1)
def flI (a b c d e f g h:Int):Option PV:=
 let lx:=ifI (swp a b c d) c a; let ly:=ifI (swp a b c d) d b; let hx:=ifI (swp a b c d) a c; let hy:=ifI (swp a b c d) b d
 let mx:=ifI (swp e f g h) g e; let my:=ifI (swp e f g h) h f; let nx:=ifI (swp e f g h) e g; let ny:=ifI (swp e f g h) f h
 let z:=cmp2 (ifI (swp hx hy nx ny) nx hx) (ifI (swp hx hy nx ny) ny hy) (ifI (decide (cmp2 mx my lx ly > 0)) mx lx) (ifI (decide (cmp2 mx my lx ly > 0)) my ly)
 some (iv (W (1 + (if 1 < (if -1 > z then -1 else z) then 1 else (if -1 > z then -1 else z)))))
theorem qMeet (a b c d e f g h:Int):runP Tryz.prog E9 60 70 [ptv a b,ptv c d,ptv e f,ptv g h] =
  bif !bdd a b then some (iv 0) else bif !bdd c d then some (iv 0) else bif !bdd e f then some (iv 0) else bif !bdd g h then some (iv 0) else
  bif !((sd a b c d e f == 0) && ((sd a b c d g h == 0) && true)) then nfI (sd a b c d e f) (sd a b c d g h) (sd e f g h a b) (sd e f g h c d)
  else bif !((sd e f g h a b == 0) && ((sd e f g h c d == 0) && true)) then nfI (sd a b c d e f) (sd a b c d g h) (sd e f g h a b) (sd e f g h c d)
  else flI a b c d e f g h:=by kernel_rfl
theorem W_s {s t:Int} (hs:-1 <= s /\ s <= 1) (ht:-1 <= t /\ t <= 1):W (s * t) = s * t:=by
 have:s = -1 \/ s = 0 \/ s = 1:=by omega
 rcases this with e | e | e <;> rw [e] <;> exact W_id (by omega) (by omega)
theorem nfI_eq {s1 s2 s3 s4:Int} (h1:-1 <= s1 /\ s1 <= 1) (h2:-1 <= s2 /\ s2 <= 1) (h3:-1 <= s3 /\ s3 <= 1) (h4:-1 <= s4 /\ s4 <= 1):nfI s1 s2 s3 s4 = some (iv (nfl s1 s2 s3 s4)):=by
 unfold nfI nfl
 rw [W_s h1 h2,W_s h3 h4]
 cases decide (s1 * s2 > 0) <;> cases decide (s3 * s4 > 0) <;> rfl
theorem flI_eq (a b c d e f g h:Int):flI a b c d e f g h = some (iv (fl a b c d e f g h)):=by
 unfold flI fl
 simp only [swp_eq,cmpgt_eq]
 have r:=cmp2_range (ifI (lessP (ifI (lessP g h e f) e g) (ifI (lessP g h e f) f h) (ifI (lessP c d a b) a c) (ifI (lessP c d a b) b d)) (ifI (lessP g h e f) e g) (ifI (lessP c d a b) a c))
  (ifI (lessP (ifI (lessP g h e f) e g) (ifI (lessP g h e f) f h) (ifI (lessP c d a b) a c) (ifI (lessP c d a b) b d)) (ifI (lessP g h e f) f h) (ifI (lessP c d a b) b d))
  (ifI (lessP (ifI (lessP c d a b) c a) (ifI (lessP c d a b) d b) (ifI (lessP g h e f) g e) (ifI (lessP g h e f) h f)) (ifI (lessP g h e f) g e) (ifI (lessP c d a b) c a))
  (ifI (lessP (ifI (lessP c d a b) c a) (ifI (lessP c d a b) d b) (ifI (lessP g h e f) g e) (ifI (lessP g h e f) h f)) (ifI (lessP g h e f) h f) (ifI (lessP c d a b) d b))
 generalize cmp2 _ _ _ _ = z at r ⊢
 rw [if_neg (show ¬ (-1 > z) by omega),if_neg (show ¬ (1 < z) by omega),W_id (by omega) (by omega)]
theorem oMeet (args:List PV) (r:PV) (h:cMeet args = some r):Hx.Enters Tryz.prog 70 /\ PCall Tryz.prog 70 args r:=by
 unfold cMeet at h; split at h
 ·rename_i a b c d e f g h'; cases h
  refine runP_sound ok9 (n:=60) ?_
  rw [qMeet,nfI_eq (sd_range _ _ _ _ _ _) (sd_range _ _ _ _ _ _) (sd_range _ _ _ _ _ _) (sd_range _ _ _ _ _ _),flI_eq]
  unfold mt
  cases bdd a b <;> cases bdd c d <;> cases bdd e f <;> cases bdd g h' <;> cases (sd a b c d e f == 0) <;> cases (sd a b c d g h' == 0) <;> cases (sd e f g h' a b == 0) <;> cases (sd e f g h' c d == 0) <;> rfl
 ·cases h
end Go.Hg
/- Geometry: Meet of the reference; On. -/
namespace Go.Hg
open Go.Hx Go.Proofs
def cmpT (tx ty fx fy:Int):Option PV:=bif lessP tx ty fx fy then some (iv 0) else bif (tx == fx) && ((ty == fy) && true) then some (iv 1) else some (iv 2)
def nfT (s1 s2 s3 s4:Int) (eA eC oA oC:Bool):Option PV:=
 bif decide (W (s1 * s2) > 0) then some (iv 0) else bif decide (W (s3 * s4) > 0) then some (iv 0) else
 bif eA then bif !oA then some (iv 0) else bif eC then bif !oC then some (iv 0) else some (iv 1) else some (iv 1)
 else bif eC then bif !oC then some (iv 0) else some (iv 1) else some (iv 1)
def flT (a b c d e f g h:Int):Option PV:=
 let lx:=ifI (lessP c d a b) c a; let ly:=ifI (lessP c d a b) d b; let hx:=ifI (lessP c d a b) a c; let hy:=ifI (lessP c d a b) b d
 let mx:=ifI (lessP g h e f) g e; let my:=ifI (lessP g h e f) h f; let nx:=ifI (lessP g h e f) e g; let ny:=ifI (lessP g h e f) f h
 bif lessP lx ly mx my then bif lessP nx ny hx hy then cmpT nx ny mx my else cmpT hx hy mx my
 else bif lessP nx ny hx hy then cmpT nx ny lx ly else cmpT hx hy lx ly
def nfA (a b c d e f g h:Int):Option PV:=
 nfT (sd a b c d e f) (sd a b c d g h) (sd e f g h a b) (sd e f g h c d) ((a == c) && ((b == d) && true)) ((e == g) && ((f == h) && true)) (onX e f g h a b) (onX a b c d e f)
theorem qRMeet (a b c d e f g h:Int):runP Tryz.prog E9 60 71 [ptv a b,ptv c d,ptv e f,ptv g h] =
  bif !bdd a b then some (iv 0) else bif !bdd c d then some (iv 0) else bif !bdd e f then some (iv 0) else bif !bdd g h then some (iv 0) else
  bif sd a b c d e f == 0 then bif sd a b c d g h == 0 then bif sd e f g h a b == 0 then bif !(sd e f g h c d == 0) then nfA a b c d e f g h else flT a b c d e f g h
  else nfA a b c d e f g h else nfA a b c d e f g h else nfA a b c d e f g h:=by kernel_rfl
theorem cmpT_eq (tx ty fx fy:Int):cmpT tx ty fx fy = some (iv (1 + cmp2 tx ty fx fy)):=by
 unfold cmpT
 have h1:=cmp2_lt_iff tx ty fx fy
 have h2:=cmp2_gt_iff tx ty fx fy
 have h3:=cmp2_range tx ty fx fy
 cases hl:lessP tx ty fx fy with
 | true =>
  have:=h1.2 (lessP_iff.1 hl)
  rw [show cmp2 tx ty fx fy = -1 by omega]; rfl
 | false =>
  have hn:¬ (tx < fx \/ tx = fx /\ ty < fy):=fun h => by rw [lessP_iff.2 h] at hl; cases hl
  by_cases he:tx = fx /\ ty = fy
  ·obtain ⟨rfl,rfl⟩:=he
   rw [show cmp2 tx ty tx ty = 0 by omega]
   simp
  ·have hc:((tx == fx) && ((ty == fy) && true)) = false:=by
    rw [Bool.and_true,Bool.and_eq_false_iff]
    by_cases hx:tx = fx
    ·exact .inr (by simp; exact fun hy => he ⟨hx,hy⟩)
    ·exact .inl (by simpa using hx)
   rw [hc,show cmp2 tx ty fx fy = 1 by omega]; rfl
theorem flT_eq (a b c d e f g h:Int):flT a b c d e f g h = some (iv (fl a b c d e f g h)):=by
 unfold flT fl
 simp only [cmpT_eq]
 cases lessP (ifI (lessP c d a b) c a) (ifI (lessP c d a b) d b) (ifI (lessP g h e f) g e) (ifI (lessP g h e f) h f) <;>
  cases lessP (ifI (lessP g h e f) e g) (ifI (lessP g h e f) f h) (ifI (lessP c d a b) a c) (ifI (lessP c d a b) b d) <;> rfl
theorem sd_same (a b e f:Int):sd a b a b e f = 0:=by
 unfold sd
 rw [show crs a b a b e f = 0 by unfold crs; rw [Int.sub_self,Int.sub_self,Int.zero_mul,Int.zero_mul]; rfl]
 cases bdd a b && bdd a b && bdd e f <;> rfl
theorem nfA_eq {a b c d e f g h:Int} (hn:¬ (sd a b c d e f = 0 /\ sd a b c d g h = 0 /\ sd e f g h a b = 0 /\ sd e f g h c d = 0)):
  nfA a b c d e f g h = some (iv (nfl (sd a b c d e f) (sd a b c d g h) (sd e f g h a b) (sd e f g h c d))):=by
 have r1:=sd_range a b c d e f
 have r2:=sd_range a b c d g h
 have r3:=sd_range e f g h a b
 have r4:=sd_range e f g h c d
 have hA:a = c /\ b = d -> sd a b c d e f = 0 /\ sd a b c d g h = 0 /\ sd e f g h a b = sd e f g h c d:=by
  rintro ⟨rfl,rfl⟩; exact ⟨sd_same _ _ _ _,sd_same _ _ _ _,rfl⟩
 have hC:e = g /\ f = h -> sd e f g h a b = 0 /\ sd e f g h c d = 0 /\ sd a b c d e f = sd a b c d g h:=by
  rintro ⟨rfl,rfl⟩; exact ⟨sd_same _ _ _ _,sd_same _ _ _ _,rfl⟩
 unfold nfA nfT nfl
 rw [W_s r1 r2,W_s r3 r4]
 generalize sd a b c d e f = s1 at *
 generalize sd a b c d g h = s2 at *
 generalize sd e f g h a b = s3 at *
 generalize sd e f g h c d = s4 at *
 have sq:∀ s:Int,-1 <= s /\ s <= 1 -> s ≠ 0 -> s * s > 0:=fun s h1 h2 => by
  have:s = -1 \/ s = 1:=by omega
  rcases this with e | e <;> rw [e] <;> decide
 by_cases p1:s1 * s2 > 0
 ·rw [decide_eq_true p1]; rfl
 ·rw [decide_eq_false p1]
  by_cases p2:s3 * s4 > 0
  ·rw [decide_eq_true p2]; rfl
  ·rw [decide_eq_false p2]
   have eA:((a == c) && ((b == d) && true)) = false:=by
    cases hh:((a == c) && ((b == d) && true)) with
    | false => rfl
    | true =>
     exfalso
     simp only [Bool.and_true,Bool.and_eq_true,beq_iff_eq] at hh
     obtain ⟨k1,k2,k3⟩:=hA hh
     have:s4 ≠ 0:=fun e => hn ⟨k1,k2,k3.trans e,e⟩
     exact p2 (by rw [k3]; exact sq s4 r4 this)
   have eC:((e == g) && ((f == h) && true)) = false:=by
    cases hh:((e == g) && ((f == h) && true)) with
    | false => rfl
    | true =>
     exfalso
     simp only [Bool.and_true,Bool.and_eq_true,beq_iff_eq] at hh
     obtain ⟨k1,k2,k3⟩:=hC hh
     have:s2 ≠ 0:=fun e => hn ⟨k3.trans e,e,k1,k2⟩
     exact p1 (by rw [k3]; exact sq s2 r2 this)
   rw [eA,eC]; rfl
theorem oRMeet (args:List PV) (r:PV) (h:cMeet args = some r):Hx.Enters Tryz.prog 71 /\ PCall Tryz.prog 71 args r:=by
 unfold cMeet at h; split at h
 ·rename_i a b c d e f g h'; cases h
  refine runP_sound ok9 (n:=60) ?_
  rw [qRMeet,flT_eq]
  unfold mt
  cases hb:bdd a b && bdd c d && bdd e f && bdd g h' with
  | false =>
   revert hb
   cases bdd a b <;> cases bdd c d <;> cases bdd e f <;> cases bdd g h' <;> intro hb <;> first | rfl | cases hb
  | true =>
   simp only [Bool.and_eq_true] at hb
   obtain ⟨⟨⟨b1,b2⟩,b3⟩,b4⟩:=hb
   rw [b1,b2,b3,b4]
   by_cases hz:sd a b c d e f = 0 /\ sd a b c d g h' = 0 /\ sd e f g h' a b = 0 /\ sd e f g h' c d = 0
   ·obtain ⟨z1,z2,z3,z4⟩:=hz
    rw [z1,z2,z3,z4]; rfl
   ·rw [nfA_eq hz]
    by_cases z1:sd a b c d e f = 0
    ·by_cases z2:sd a b c d g h' = 0
     ·by_cases z3:sd e f g h' a b = 0
      ·have z4:sd e f g h' c d ≠ 0:=fun z4 => hz ⟨z1,z2,z3,z4⟩
       rw [show (sd e f g h' c d == 0) = false by simpa using z4,z1,z2,z3]; rfl
      ·rw [show (sd e f g h' a b == 0) = false by simpa using z3,z1,z2]; rfl
     ·rw [show (sd a b c d g h' == 0) = false by simpa using z2,z1]; rfl
    ·rw [show (sd a b c d e f == 0) = false by simpa using z1]; rfl
 ·cases h
theorem between_lex {a b c d e f:Int} (hc:(c - a) * (f - b) = (d - b) * (e - a)) (ho:a < c \/ a = c /\ b <= d):
  (¬ (e < a \/ e = a /\ f < b) /\ ¬ (c < e \/ c = e /\ d < f)) ↔ (a <= e /\ e <= c) /\ (b <= f /\ f <= d \/ d <= f /\ f <= b):=by
 rcases ho with ho | ⟨ho,hb⟩
 ·have hk:0 < c - a:=by omega
  constructor
  ·rintro ⟨h1,h2⟩
   have he:0 <= e - a /\ e - a <= c - a:=by omega
   refine ⟨by omega,?_⟩
   by_cases hd:b <= d
   ·left
    have p1:0 <= (d - b) * (e - a):=Int.mul_nonneg (by omega) he.1
    have p2:(d - b) * (e - a) <= (d - b) * (c - a):=Int.mul_le_mul_of_nonneg_left he.2 (by omega)
    rw [<- hc] at p1 p2
    rw [Int.mul_comm (d - b)] at p2
    have q1:0 <= f - b:=by
     rcases Int.lt_or_le (f - b) 0 with q | q
     ·have:=Int.mul_neg_of_pos_of_neg hk q; omega
     ·exact q
    have q2:=Int.le_of_mul_le_mul_left p2 hk
    omega
   ·right
    have p1:0 <= (b - d) * (e - a):=Int.mul_nonneg (by omega) he.1
    have p2:(b - d) * (e - a) <= (b - d) * (c - a):=Int.mul_le_mul_of_nonneg_left he.2 (by omega)
    have e1:(b - d) * (e - a) = (c - a) * (b - f):=by grind
    rw [e1] at p1 p2
    rw [Int.mul_comm (b - d)] at p2
    have q1:0 <= b - f:=by
     rcases Int.lt_or_le (b - f) 0 with q | q
     ·have:=Int.mul_neg_of_pos_of_neg hk q; omega
     ·exact q
    have q2:=Int.le_of_mul_le_mul_left p2 hk
    omega
  ·rintro ⟨h1,h2⟩
   refine ⟨?_,?_⟩
   ·rintro (g | ⟨g1,g2⟩)
    ·omega
    ·subst g1
     rw [Int.sub_self,Int.mul_zero] at hc
     rcases Int.mul_eq_zero.1 hc with g | g <;> omega
   ·rintro (g | ⟨g1,g2⟩)
    ·omega
    ·subst g1
     have:(c - a) * (f - d) = 0:=by grind
     rcases Int.mul_eq_zero.1 this with g | g <;> omega
 ·subst ho
  constructor
  ·rintro ⟨h1,h2⟩; omega
  ·rintro ⟨h1,h2⟩; omega
theorem btwn_iff {a c e:Int}:btwn a c e = true ↔ (a <= e /\ e <= c \/ c <= e /\ e <= a):=by
 unfold btwn
 simp only [Bool.and_eq_true,decide_eq_true_eq]
 split <;> split <;> omega
theorem fl_on {a b c d e f:Int} (hc:crs a b c d e f = 0):(fl a b c d e f e f == 1) = (btwn a c e && btwn b d f):=by
 have key:∀ {a b c d:Int},crs a b c d e f = 0 -> (a < c \/ a = c /\ b <= d) -> ((1 + cmp2 (ifI (lessP e f c d) e c) (ifI (lessP e f c d) f d) (ifI (lessP a b e f) e a) (ifI (lessP a b e f) f b) == 1) = (btwn a c e && btwn b d f)):=by
  intro a b c d hc ho
  have hb:=between_lex (a:=a) (b:=b) (c:=c) (d:=d) (e:=e) (f:=f) (by unfold crs at hc; omega) ho
  have ht:(btwn a c e && btwn b d f) = true ↔ (a <= e /\ e <= c) /\ (b <= f /\ f <= d \/ d <= f /\ f <= b):=by
   rw [Bool.and_eq_true,btwn_iff,btwn_iff]; omega
  rw [Bool.eq_iff_iff,ht,<- hb,beq_iff_eq]
  have z:∀ x y z w:Int,1 + cmp2 x y z w = 1 ↔ x = z /\ y = w:=by
   intro x y z w
   have h1:=cmp2_lt_iff x y z w
   have h2:=cmp2_gt_iff x y z w
   omega
  rw [z]
  cases h1:lessP e f c d with
  | true =>
   have k1:=lessP_iff.1 h1
   cases h2:lessP a b e f with
   | true =>
    have k2:=lessP_iff.1 h2
    simp only [ifI,cond_true,and_self,true_iff]; omega
   | false =>
    have k2:¬ (a < e \/ a = e /\ b < f):=fun h => by rw [lessP_iff.2 h] at h2; cases h2
    simp only [ifI,cond_true,cond_false]; omega
  | false =>
   have k1:¬ (e < c \/ e = c /\ f < d):=fun h => by rw [lessP_iff.2 h] at h1; cases h1
   cases h2:lessP a b e f with
   | true =>
    have k2:=lessP_iff.1 h2
    simp only [ifI,cond_true,cond_false]; omega
   | false =>
    have k2:¬ (a < e \/ a = e /\ b < f):=fun h => by rw [lessP_iff.2 h] at h2; cases h2
    simp only [ifI,cond_false]; omega
 unfold fl
 have hs:lessP e f e f = false:=by
  cases h:lessP e f e f with
  | false => rfl
  | true => have:=lessP_iff.1 h; omega
 simp only [hs]
 cases h1:lessP c d a b with
 | true =>
  have k1:=lessP_iff.1 h1
  have:=key (a:=c) (b:=d) (c:=a) (d:=b) (by unfold crs at hc ⊢; grind) (by omega)
  have e1:(btwn c a e && btwn d b f) = (btwn a c e && btwn b d f):=by
   rw [Bool.eq_iff_iff,Bool.and_eq_true,Bool.and_eq_true,btwn_iff,btwn_iff,btwn_iff,btwn_iff]; omega
  rw [e1] at this
  exact this
 | false =>
  have k1:¬ (c < a \/ c = a /\ d < b):=fun h => by rw [lessP_iff.2 h] at h1; cases h1
  exact key (a:=a) (b:=b) (c:=c) (d:=d) hc (by omega)
theorem mt_on (a b c d e f:Int):(mt a b c d e f e f == 1) = onX a b c d e f:=by
 unfold mt onX
 cases h1:bdd a b with
 | false => rfl
 | true =>
  cases h2:bdd c d with
  | false => rfl
  | true =>
   cases h3:bdd e f with
   | false => rfl
   | true =>
    simp only [Bool.and_self,cond_true,Bool.true_and,sd_same]
    by_cases hz:sd a b c d e f = 0
    ·rw [hz]
     have hc:crs a b c d e f = 0:=by
      unfold sd at hz
      rw [h1,h2,h3] at hz
      exact sgn_zero.1 hz
     simp only [beq_self_eq_true,Bool.and_self,cond_true,Bool.and_true]
     exact fl_on hc
    ·rw [show (sd a b c d e f == 0) = false by simpa using hz]
     simp only [Bool.false_and,cond_false,Bool.and_false]
     have r:=sd_range a b c d e f
     have:sd a b c d e f = -1 \/ sd a b c d e f = 1:=by omega
     rcases this with e | e <;> rw [e] <;> rfl
def E10:EnvK:=E9 |>.addO 70 cMeet |>.addO 71 cMeet
theorem ok10:EnvOK Tryz.prog E10.env:=(ok9.addO oMeet).addO oRMeet
theorem oOn (args:List PV) (r:PV) (h:cOn args = some r):Hx.Enters Tryz.prog 26 /\ PCall Tryz.prog 26 args r:=by
 unfold cOn at h; split at h
 ·cases h
  rw [<- mt_on]
  exact runP_sound ok10 (n:=60) (by kernel_rfl)
 ·cases h
def E11:EnvK:=E10 |>.addO 26 cOn
theorem ok11:EnvOK Tryz.prog E11.env:=ok10.addO oOn
end Go.Hg
/- Geometry: contracts: Mod, Turn. -/
namespace Go.Hg
open Go.Hx Go.Proofs
def dMod:List PV -> Option (DT PV) | [.val (.int .i64 n),.val (.int .i64 m)] => some (.br (decide (0 < m) && decide (m <= 4611686018427387904)) (.leaf (iv (n % m))) .no) | _ => none
def tpx (a b n:Int):Int:=if n % 4 = 1 then W (0 - b) else if n % 4 = 2 then W (0 - a) else if n % 4 = 3 then b else a
def tpy (a b n:Int):Int:=if n % 4 = 1 then a else if n % 4 = 2 then W (0 - b) else if n % 4 = 3 then W (0 - a) else b
def cTurn:List PV -> Option PV | [.agg [.val (.int .i64 a),.val (.int .i64 b)],.val (.int .i64 n)] => some (ptv (tpx a b n) (tpy a b n)) | _ => none
theorem qMod (n m:Int):runP Tryz.prog {} 60 91 [iv n,iv m] = bif !decide (m = 0) then (bif !decide (m = 0) then some (iv (Int.tmod (W (Int.tmod n m + m)) m)) else none) else none:=by kernel_rfl
theorem mod_math {n m:Int} (h0:0 < m) (h1:m <= 4611686018427387904):Int.tmod (W (Int.tmod n m + m)) m = n % m:=by
 have hb:=Int.lt_tmod_of_pos n h0
 have hb2:=Int.tmod_lt_of_pos n h0
 rw [W_id (by omega) (by omega),Int.tmod_eq_emod_of_nonneg (by omega),Int.add_emod_right]
 rcases Int.le_total 0 n with hn | hn
 ·rw [Int.tmod_eq_emod_of_nonneg hn,Int.emod_emod]
 ·rw [Int.tmod_def,Int.sub_emod,Int.mul_emod_right]; simp
theorem eMod:Hx.Enters Tryz.prog 91:=(runP_sound envOK_zero (n:=60) (args:=[iv 0,iv 1]) (p:=iv 0) (by kernel_rfl)).1
theorem oMod (args:List PV) (d:DT PV) (r:PV) (h:dMod args = some d) (hd:d.run = some r):PCall Tryz.prog 91 args r:=by
 unfold dMod at h; split at h
 ·rename_i n m
  cases h
  simp only [DT.run] at hd
  by_cases h0:0 < m
  ·by_cases h1:m <= 4611686018427387904
   ·simp only [h0,h1,decide_true,Bool.and_true,cond_true] at hd
    cases hd
    refine (runP_sound envOK_zero (n:=60) ?_).2
    rw [qMod]
    have hm:decide (m = 0) = false:=by simp; omega
    rw [hm,mod_math h0 h1]; rfl
   ·simp [h1] at hd
  ·simp [h0] at hd
 ·cases h
theorem qTurn (a b n:Int):runP Tryz.prog {} 60 31 [ptv a b,iv n] = bif bits .and .i64 n 3 == 1 then some (ptv (W (0 - b)) a) else bif bits .and .i64 n 3 == 2 then some (ptv (W (0 - a)) (W (0 - b))) else bif bits .and .i64 n 3 == 3 then some (ptv b (W (0 - a))) else some (ptv a b):=by kernel_rfl
theorem and3 (n:Int):bits .and .i64 n 3 = n % 4:=by
 have h1:BitVec.ofInt 64 3 = BitVec.ofNat 64 3:=rfl
 show IntKind.i64.wrap ((BitVec.ofInt 64 n &&& BitVec.ofInt 64 3).toNat:Int) = _
 have h2:(BitVec.ofInt 64 n &&& BitVec.ofInt 64 3).toNat = (BitVec.ofInt 64 n).toNat % 4:=by
  rw [BitVec.toNat_and,h1]
  show (BitVec.ofInt 64 n).toNat &&& (2 ^ 2 - 1) = _
  rw [Nat.and_two_pow_sub_one_eq_mod]
 rw [h2]
 have h3:((BitVec.ofInt 64 n).toNat:Int) = n % 18446744073709551616:=by
  rw [BitVec.toNat_ofInt]
  omega
 rw [show (((BitVec.ofInt 64 n).toNat % 4:Nat):Int) = ((BitVec.ofInt 64 n).toNat:Int) % 4 by omega,h3]
 have:=W_id (n:=n % 18446744073709551616 % 4) (by omega) (by omega)
 rw [show IntKind.i64.wrap (n % 18446744073709551616 % 4) = n % 18446744073709551616 % 4 from this]
 omega
theorem oTurn (args:List PV) (r:PV) (h:cTurn args = some r):Hx.Enters Tryz.prog 31 /\ PCall Tryz.prog 31 args r:=by
 unfold cTurn at h; split at h
 ·cases h
  refine runP_sound envOK_zero (n:=60) ?_
  rename_i a b n
  rw [qTurn,and3]; unfold tpx tpy
  by_cases h1:n % 4 = 1
  ·simp [h1]
  ·by_cases h2:n % 4 = 2
   ·simp [h2]
   ·by_cases h3:n % 4 = 3
    ·simp [h3]
    ·have e1:(n % 4 == 1) = false:=by simpa using h1
     have e2:(n % 4 == 2) = false:=by simpa using h2
     have e3:(n % 4 == 3) = false:=by simpa using h3
     simp only [e1,e2,e3,h1,h2,h3,cond_false,if_false]
 ·cases h
def m4 (r:Int):List PV -> Option (DT PV) | [.val (.int .i64 n),.val (.int .i64 4)] => some (.br (decide (n % 4 = r)) (.leaf (iv r)) .no) | _ => none
def E12:EnvK:=(E11.addF 91 dMod).addO 31 cTurn
theorem ok12:EnvOK Tryz.prog E12.env:=(ok11.addF eMod oMod).addO oTurn
end Go.Hg
/- Geometry (network): the environment of points, with line.segments. -/
namespace Go.Hg
open Go.Hx Go.Proofs
noncomputable def E32:EnvK:=E12.addK 94
theorem ok32:EnvOK Tryz.prog E32.env:=ok12.addK 94
end Go.Hg
/- Geometry: lists of any length: all points right; closed. -/
namespace Go.Hg
open Go.Hx Go.Proofs
def qX (es:List PV) (i:Int):Int:=((es.getD i.toNat .any).cellAt 0).getI
def qY (es:List PV) (i:Int):Int:=((es.getD i.toNat .any).cellAt 1).getI
def inr (es:List PV) (i:Int):Bool:=decide (0 <= i) && decide (i < (es.length:Int))
abbrev qp (es:List PV) (i:Int):PV:=ptv (qX es i) (qY es i)
theorem inr_of {es:List PV} {i:Int} (h1:0 <= i) (h2:i < (es.length:Int)):inr es i = true:=by unfold inr; simp; omega
def allR (es:List PV) (i:Int):Nat -> Bool
 | 0 => true
 | n + 1 => right (qX es i) (qY es i) && allR es (i + 1) n
theorem allR_false {es:List PV}:∀ {n:Nat} {i:Int},allR es i n = true ↔ ∀ j:Nat,j < n -> right (qX es (i + j)) (qY es (i + j)) = true
 | 0,i => by simp [allR]
 | n + 1,i => by
  simp only [allR,Bool.and_eq_true,allR_false (n:=n) (i:=i + 1)]
  constructor
  ·rintro ⟨h1,h2⟩ j hj
   cases j with
   | zero => simpa using h1
   | succ j => have:=h2 j (by omega); rwa [show i + 1 + (j:Int) = i + ((j + 1:Nat):Int) by omega] at this
  ·intro h
   exact ⟨by simpa using h 0 (by omega),fun j hj => by rw [show i + 1 + (j:Int) = i + ((j + 1:Nat):Int) by omega]; exact h (j + 1) (by omega)⟩
abbrev big (es:List PV):Bool:=decide (es.length <= 1000000)
def shF:S1:=⟨18,[(0,.lst 37),(3,I64)],[]⟩
abbrev tF0 (f:Bool) (es:List PV):List PV:=tm 18 [(0,.lst f 37 es)]
abbrev tF1 (f:Bool) (es:List PV):List PV:=tm 18 [(0,.lst f 37 es),(2,bv false)]
theorem qF (f:Bool) (es:List PV) (i:Int):runB Tryz.prog E32 60 100 (lpb Tryz.f100 2) [0,3] [0,2] (shF.put ([.l f es,.i i],[])).1 (shF.put ([.l f es,.i i],[])).2 =
 bif decide (i < (es.length:Int)) then bif inr es i then bif !right (qX es i) (qY es i) then some (.ret,tF1 f es,[]) else some (.normal,shF.put ([.l f es,.i (W (i + 1))],[])) else none
  else some (.exit 0,tF0 f es,[]):=by kernel_rfl
def pF:LS -> Bool
 | ([.l _ es,.i i],[]) => decide (0 <= i) && decide (i <= (es.length:Int)) && big es
 | _ => false
def fF:LS -> DT (PX × List PV × List Row)
 | ([.l f es,.i i],[]) => .br (allR es i ((es.length:Int) - i).toNat) (.leaf (.exit 0,tF0 f es,[])) (.leaf (.ret,tF1 f es,[]))
 | _ => .no
def mF:LS -> Nat
 | ([.l _ es,.i i],[]) => ((es.length:Int) - i).toNat
 | _ => 0
theorem run_br2 {α:Type} {b:Bool} {a c r:α} (h:(DT.br b (.leaf a) (.leaf c)).run = some r):r = bif b then a else c:=by
 cases b <;> exact (Option.some.inj h).symm
theorem sF:∀ s r,pF s = true -> (fF s).run = some r -> r.1 ≠ .normal /\ (runB Tryz.prog E32 60 100 (lpb Tryz.f100 2) [0,3] [0,2] (shF.put s).1 (shF.put s).2 = some r \/
   ∃ s',runB Tryz.prog E32 60 100 (lpb Tryz.f100 2) [0,3] [0,2] (shF.put s).1 (shF.put s).2 = some (.normal,shF.put s') /\ pF s' = true /\ mF s' < mF s /\ (fF s').run = some r):=by
 intro s r hp hr
 unfold pF at hp; split at hp
 ·rename_i f es i
  simp only [Bool.and_eq_true,decide_eq_true_eq] at hp
  obtain ⟨⟨h1,h2⟩,h3⟩:=hp
  have hr':=run_br2 hr
  refine ⟨by rw [hr']; cases allR es i ((es.length:Int) - i).toNat <;> simp,?_⟩
  rw [qF]
  by_cases hi:i < (es.length:Int)
  ·rw [decide_eq_true hi,cond_true,inr_of h1 hi,cond_true]
   obtain ⟨n,hn⟩:∃ n,((es.length:Int) - i).toNat = n + 1:=⟨((es.length:Int) - i).toNat - 1,by omega⟩
   rw [hn] at hr'
   simp only [allR] at hr'
   cases hR:right (qX es i) (qY es i) with
   | false => rw [hR] at hr'; exact .inl (by rw [hr']; rfl)
   | true =>
    rw [hR] at hr'
    refine .inr ⟨([.l f es,.i (i + 1)],[]),by rw [W_id (by omega) (by omega)]; rfl,by simp [pF]; omega,by simp only [mF]; omega,?_⟩
    rw [hr']
    simp only [fF]
    rw [show ((es.length:Int) - (i + 1)).toNat = n by omega]
    cases allR es (i + 1) n <;> rfl
  ·rw [decide_eq_false hi]
   rw [show ((es.length:Int) - i).toNat = 0 by omega] at hr'
   exact .inl (by rw [hr']; rfl)
 ·cases hp
noncomputable def E33a:EnvK:=E32.addW 100 2 [0,3] [] shF pF fF
theorem ok33a:EnvOK Tryz.prog E33a.env:=
 ok32.addW (n:=60) Tryz.func100 (show Tryz.f100.body = some (bod Tryz.f100) by kernel_rfl) (show (loops (bod Tryz.f100)).filter (fun b => rid b == 2) = [lpb Tryz.f100 2] by kernel_rfl) [0,3] [0,2] [] shF mF sF
theorem qFine (f:Bool) (es:List PV):runP Tryz.prog E33a 60 100 [.lst f 37 es] =
 bif decide (0 <= (0:Int)) && decide ((0:Int) <= (es.length:Int)) && big es then bif allR es 0 ((es.length:Int) - 0).toNat then some (bv true) else some (bv false) else none:=by kernel_rfl
def fin (es:List PV):Bool:=allR es 0 es.length
def cFine:List PV -> Option (DT PV) | [.lst _ 37 es] => some (.br (big es) (.leaf (bv (fin es))) .no) | _ => none
theorem qFine' (f:Bool) (es:List PV) (h:big es = true):runP Tryz.prog E33a 60 100 [.lst f 37 es] = some (bv (fin es)):=by
 rw [qFine,h]
 rw [show ((es.length:Int) - 0).toNat = es.length by omega]
 unfold fin
 simp only [Int.natCast_nonneg,decide_true,Bool.and_true,Int.le_refl,cond_true]
 cases allR es 0 es.length <;> rfl
theorem eFine:Hx.Enters Tryz.prog 100:=(runP_sound ok33a (qFine' true [] rfl)).1
theorem oFine (args:List PV) (d:DT PV) (r:PV) (h:cFine args = some d) (hr:d.run = some r):PCall Tryz.prog 100 args r:=by
 unfold cFine at h; split at h
 ·rename_i f es; cases h; obtain ⟨h1,rfl⟩:=run_br hr; exact (runP_sound ok33a (qFine' f es h1)).2
 ·cases h
def cls (es:List PV):Bool:=decide ((es.length:Int) ≥ 4) && ((qX es 0 == qX es ((es.length:Int) - 1)) && ((qY es 0 == qY es ((es.length:Int) - 1)) && true))
def clsT (es:List PV) (c:Bool):Option PV:=bif c then bif inr es 0 then bif inr es (W ((es.length:Int) - 1)) then some (bv ((qX es 0 == qX es (W ((es.length:Int) - 1))) && ((qY es 0 == qY es (W ((es.length:Int) - 1))) && true))) else none else none else some (bv false)
theorem qRCls (f:Bool) (es:List PV):runP Tryz.prog E32 60 101 [.lst f 37 es] = clsT es (decide ((es.length:Int) ≥ 4)):=by kernel_rfl
theorem qCls (f:Bool) (es:List PV):runP Tryz.prog E32 60 95 [.lst f 37 es] = clsT es (decide ((es.length:Int) > 3)):=by kernel_rfl
theorem clsT_eq (es:List PV) (h:big es = true):clsT es (decide ((es.length:Int) ≥ 4)) = some (bv (cls es)):=by
 simp only [decide_eq_true_eq] at h
 unfold clsT cls
 by_cases h4:(es.length:Int) ≥ 4
 ·rw [decide_eq_true h4,inr_of (by omega) (by omega),W_id (by omega) (by omega),inr_of (by omega) (by omega)]; rfl
 ·rw [decide_eq_false h4]; rfl
def cCls:List PV -> Option (DT PV) | [.lst _ 37 es] => some (.br (big es) (.leaf (bv (cls es))) .no) | _ => none
theorem eRCls:Hx.Enters Tryz.prog 101:=(runP_sound ok32 ((qRCls true []).trans (clsT_eq [] rfl))).1
theorem oRCls (args:List PV) (d:DT PV) (r:PV) (h:cCls args = some d) (hr:d.run = some r):PCall Tryz.prog 101 args r:=by
 unfold cCls at h; split at h
 ·rename_i f es; cases h; obtain ⟨h1,rfl⟩:=run_br hr; exact (runP_sound ok32 ((qRCls f es).trans (clsT_eq es h1))).2
 ·cases h
theorem qCls' (f:Bool) (es:List PV) (h:big es = true):runP Tryz.prog E32 60 95 [.lst f 37 es] = some (bv (cls es)):=by
 rw [qCls,show decide ((es.length:Int) > 3) = decide ((es.length:Int) ≥ 4) by rw [decide_eq_decide]; omega]; exact clsT_eq es h
theorem eCls:Hx.Enters Tryz.prog 95:=(runP_sound ok32 (qCls' true [] rfl)).1
theorem oCls (args:List PV) (d:DT PV) (r:PV) (h:cCls args = some d) (hr:d.run = some r):PCall Tryz.prog 95 args r:=by
 unfold cCls at h; split at h
 ·rename_i f es; cases h; obtain ⟨h1,rfl⟩:=run_br hr; exact (runP_sound ok32 (qCls' f es h1)).2
 ·cases h
noncomputable def E33b:EnvK:=((E32.addF 100 cFine).addF 101 cCls).addF 95 cCls
theorem ok33b:EnvOK Tryz.prog E33b.env:=((ok32.addF eFine oFine).addF eRCls oRCls).addF eCls oCls
end Go.Hg
/- Geometry: line.right; the reference's Check of a line. -/
namespace Go.Hg
open Go.Hx Go.Proofs
def fstW (es:List PV) (i:Int):Nat -> Int
 | 0 => i
 | n + 1 => bif right (qX es i) (qY es i) then fstW es (i + 1) n else i
theorem fstW_ge (es:List PV):∀ (n:Nat) (i:Int),i <= fstW es i n
 | 0,i => by simp [fstW]
 | n + 1,i => by
  have:=fstW_ge es n (i + 1)
  simp only [fstW]
  cases right (qX es i) (qY es i) <;> simp only [cond_true,cond_false] <;> omega
def shI:S1:=⟨19,[(0,.lst 37),(1,.fn 126 [] []),(7,I64),(8,I64)],[]⟩
theorem qI (f:Bool) (es:List PV) (l i:Int):runB Tryz.prog E33b 60 129 (lpb Tryz.f129 2) [0,1,7,8] [4] (shI.put ([.l f es,.i l,.i i],[])).1 (shI.put ([.l f es,.i l,.i i],[])).2 =
 bif decide (i < l) then bif inr es i then bif !right (qX es i) (qY es i) then some (.ret,tm 19 [(4,iv i)],[]) else some (.normal,shI.put ([.l f es,.i l,.i (W (i + 1))],[])) else none
  else some (.exit 0,tm 19 [],[]):=by kernel_rfl
def pI:LS -> Bool
 | ([.l _ es,.i l,.i i],[]) => decide (0 <= i) && decide (i <= (es.length:Int)) && decide (l = (es.length:Int)) && big es
 | _ => false
def fI:LS -> DT (PX × List PV × List Row)
 | ([.l _ es,.i _,.i i],[]) => .br (allR es i ((es.length:Int) - i).toNat) (.leaf (.exit 0,tm 19 [],[])) (.leaf (.ret,tm 19 [(4,iv (fstW es i ((es.length:Int) - i).toNat))],[]))
 | _ => .no
def mI:LS -> Nat
 | ([.l _ es,.i _,.i i],[]) => ((es.length:Int) - i).toNat
 | _ => 0
theorem sI:∀ s r,pI s = true -> (fI s).run = some r -> r.1 ≠ .normal /\ (runB Tryz.prog E33b 60 129 (lpb Tryz.f129 2) [0,1,7,8] [4] (shI.put s).1 (shI.put s).2 = some r \/
   ∃ s',runB Tryz.prog E33b 60 129 (lpb Tryz.f129 2) [0,1,7,8] [4] (shI.put s).1 (shI.put s).2 = some (.normal,shI.put s') /\ pI s' = true /\ mI s' < mI s /\ (fI s').run = some r):=by
 intro s r hp hr
 unfold pI at hp; split at hp
 ·rename_i f es l i
  simp only [Bool.and_eq_true,decide_eq_true_eq] at hp
  obtain ⟨⟨⟨h1,h2⟩,hl⟩,h3⟩:=hp
  have hr':=run_br2 hr
  refine ⟨by rw [hr']; cases allR es i ((es.length:Int) - i).toNat <;> simp,?_⟩
  rw [qI]
  by_cases hi:i < (es.length:Int)
  ·rw [hl,decide_eq_true hi,cond_true,inr_of h1 hi,cond_true]
   obtain ⟨n,hn⟩:∃ n,((es.length:Int) - i).toNat = n + 1:=⟨((es.length:Int) - i).toNat - 1,by omega⟩
   rw [hn] at hr'
   simp only [allR,fstW] at hr'
   cases hR:right (qX es i) (qY es i) with
   | false => rw [hR] at hr'; exact .inl (by rw [hr']; rfl)
   | true =>
    rw [hR] at hr'
    refine .inr ⟨([.l f es,.i l,.i (i + 1)],[]),by rw [W_id (by omega) (by omega),hl]; rfl,by simp [pI]; omega,by simp only [mI]; omega,?_⟩
    rw [hr']
    simp only [fI]
    rw [show ((es.length:Int) - (i + 1)).toNat = n by omega]
    cases allR es (i + 1) n <;> rfl
  ·rw [hl,decide_eq_false hi]
   rw [show ((es.length:Int) - i).toNat = 0 by omega] at hr'
   exact .inl (by rw [hr']; rfl)
 ·cases hp
noncomputable def E33c:EnvK:=E33b.addW 129 2 [0,1,7,8] [] shI pI fI
theorem ok33c:EnvOK Tryz.prog E33c.env:=
 ok33b.addW (n:=60) Tryz.func129 (show Tryz.f129.body = some (bod Tryz.f129) by kernel_rfl) (show (loops (bod Tryz.f129)).filter (fun b => rid b == 2) = [lpb Tryz.f129 2] by kernel_rfl) [0,1,7,8] [4] [] shI mI sI
theorem qLR (f:Bool) (es:List PV):runP Tryz.prog E33c 60 93 [.lst f 37 es] =
 bif decide (0 <= (0:Int)) && decide ((0:Int) <= (es.length:Int)) && decide ((es.length:Int) = (es.length:Int)) && big es then bif allR es 0 ((es.length:Int) - 0).toNat then some (bv true) else some (bv (!decide (fstW es 0 ((es.length:Int) - 0).toNat ≥ 0))) else none:=by kernel_rfl
theorem qLR' (f:Bool) (es:List PV) (h:big es = true):runP Tryz.prog E33c 60 93 [.lst f 37 es] = some (bv (fin es)):=by
 rw [qLR,h]
 rw [show ((es.length:Int) - 0).toNat = es.length by omega]
 unfold fin
 have:=fstW_ge es es.length 0
 simp only [Int.natCast_nonneg,decide_true,Bool.and_true,Int.le_refl,cond_true]
 cases allR es 0 es.length
 ·rw [decide_eq_true (show fstW es 0 es.length ≥ 0 by omega)]; rfl
 ·rfl
theorem eLR:Hx.Enters Tryz.prog 93:=(runP_sound ok33c (qLR' true [] rfl)).1
theorem oLR (args:List PV) (d:DT PV) (r:PV) (h:cFine args = some d) (hr:d.run = some r):PCall Tryz.prog 93 args r:=by
 unfold cFine at h; split at h
 ·rename_i f es; cases h; obtain ⟨h1,rfl⟩:=run_br hr; exact (runP_sound ok33c (qLR' f es h1)).2
 ·cases h
noncomputable def E33:EnvK:=E33b.addF 93 cFine
theorem ok33:EnvOK Tryz.prog E33.env:=ok33b.addF eLR oLR
def mq (es:List PV) (k i:Int):Int:=mt (qX es k) (qY es k) (qX es (k + 1)) (qY es (k + 1)) (qX es i) (qY es i) (qX es (i + 1)) (qY es (i + 1))
def mqW (es:List PV) (k i:Int):Int:=mt (qX es k) (qY es k) (qX es (W (k + 1))) (qY es (W (k + 1))) (qX es i) (qY es i) (qX es (W (i + 1))) (qY es (W (i + 1)))
def want (es:List PV) (la i k:Int):Int:=bif k + 1 == i then 1 else bif cls es && (k == 0) && (i == la) then 1 else 0
def allP (es:List PV) (la i k:Int):Nat -> Bool
 | 0 => true
 | n + 1 => (mq es k i == want es la i k) && allP es la i (k + 1) n
def eqq (es:List PV) (i j:Int):Bool:=(qX es i == qX es j) && ((qY es i == qY es j) && true)
def allI (es:List PV) (la i:Int):Nat -> Bool
 | 0 => true
 | n + 1 => !eqq es i (i + 1) && (allP es la i 0 i.toNat && allI es la (i + 1) n)
def shK:S1:=⟨79,[(0,.lst 37),(3,I64),(4,I64),(5,I64)],[]⟩
abbrev tK0 (f:Bool) (es:List PV) (la i:Int):List PV:=tm 79 [(0,.lst f 37 es),(3,iv la),(4,iv i)]
abbrev tK1 (f:Bool) (es:List PV) (la i:Int):List PV:=tm 79 [(0,.lst f 37 es),(2,iv 11),(3,iv la),(4,iv i)]
def pairT2 (f:Bool) (es:List PV) (la i k w:Int):Option (PX × List PV × List Row):=
 bif inr es k then bif inr es (W (k + 1)) then bif inr es i then bif inr es (W (i + 1)) then
  bif mqW es k i != w then some (.ret,tK1 f es la i,[]) else some (.normal,shK.put ([.l f es,.i la,.i i,.i (W (k + 1))],[])) else none else none else none else none
theorem qK (f:Bool) (es:List PV) (la i k:Int):runB Tryz.prog E33 60 56 (lpb Tryz.f56 12) [0,3,4,5] [0,2,3,4] (shK.put ([.l f es,.i la,.i i,.i k],[])).1 (shK.put ([.l f es,.i la,.i i,.i k],[])).2 =
 bif decide (k < i) then bif W (k + 1) == i then pairT2 f es la i k 1 else
  bif big es then bif cls es then bif k == 0 then bif i == la then pairT2 f es la i k 1 else pairT2 f es la i k 0 else pairT2 f es la i k 0 else pairT2 f es la i k 0 else none
 else some (.exit 2,tK0 f es la i,[]):=by kernel_rfl
end Go.Hg
/- Geometry: the reference's Check of a line, of any length. -/
namespace Go.Hg
open Go.Hx Go.Proofs
def pK:LS -> Bool
 | ([.l _ es,.i la,.i i,.i k],[]) => decide (0 <= k) && decide (k <= i) && decide (i <= la) && decide (la + 2 = (es.length:Int)) && big es
 | _ => false
def fK:LS -> DT (PX × List PV × List Row)
 | ([.l f es,.i la,.i i,.i k],[]) => .br (allP es la i k (i - k).toNat) (.leaf (.exit 2,tK0 f es la i,[])) (.leaf (.ret,tK1 f es la i,[]))
 | _ => .no
def mK:LS -> Nat
 | ([.l _ _,.i _,.i i,.i k],[]) => (i - k).toNat
 | _ => 0
theorem pairT2_eq {f:Bool} {es:List PV} {la i k:Int} (w:Int) (h0:0 <= k) (h1:k < i) (h2:i <= la) (h3:la + 2 = (es.length:Int)) (hb:es.length <= 1000000):
  pairT2 f es la i k w = bif mq es k i == w then some (.normal,shK.put ([.l f es,.i la,.i i,.i (k + 1)],[])) else some (.ret,tK1 f es la i,[]):=by
 unfold pairT2 mqW
 rw [W_id (n:=k + 1) (by omega) (by omega),W_id (n:=i + 1) (by omega) (by omega),inr_of (by omega) (by omega),inr_of (by omega) (by omega),inr_of (by omega) (by omega),inr_of (by omega) (by omega)]
 show (bif mq es k i != w then _ else _) = _
 unfold bne
 cases mq es k i == w <;> rfl
theorem sK:∀ s r,pK s = true -> (fK s).run = some r -> r.1 ≠ .normal /\ (runB Tryz.prog E33 60 56 (lpb Tryz.f56 12) [0,3,4,5] [0,2,3,4] (shK.put s).1 (shK.put s).2 = some r \/
   ∃ s',runB Tryz.prog E33 60 56 (lpb Tryz.f56 12) [0,3,4,5] [0,2,3,4] (shK.put s).1 (shK.put s).2 = some (.normal,shK.put s') /\ pK s' = true /\ mK s' < mK s /\ (fK s').run = some r):=by
 intro s r hp hr
 unfold pK at hp; split at hp
 ·rename_i f es la i k
  simp only [Bool.and_eq_true,decide_eq_true_eq] at hp
  obtain ⟨⟨⟨⟨h1,h2⟩,h3⟩,h4⟩,h5⟩:=hp
  have hr':=run_br2 hr
  refine ⟨by rw [hr']; cases allP es la i k (i - k).toNat <;> simp,?_⟩
  rw [qK]
  by_cases hi:k < i
  ·rw [decide_eq_true hi,cond_true,W_id (n:=k + 1) (by omega) (by omega),show big es = true by simp [big]; omega,cond_true]
   rw [pairT2_eq 1 h1 hi h3 h4 h5,pairT2_eq 0 h1 hi h3 h4 h5]
   obtain ⟨n,hn⟩:∃ n,(i - k).toNat = n + 1:=⟨(i - k).toNat - 1,by omega⟩
   rw [hn] at hr'
   simp only [allP] at hr'
   have key:(bif k + 1 == i then (bif mq es k i == 1 then some (PX.normal,shK.put ([.l f es,.i la,.i i,.i (k + 1)],[])) else some (PX.ret,tK1 f es la i,[])) else bif cls es then bif k == 0 then bif i == la then (bif mq es k i == 1 then some (PX.normal,shK.put ([.l f es,.i la,.i i,.i (k + 1)],[])) else some (PX.ret,tK1 f es la i,[])) else (bif mq es k i == 0 then some (PX.normal,shK.put ([.l f es,.i la,.i i,.i (k + 1)],[])) else some (PX.ret,tK1 f es la i,[])) else (bif mq es k i == 0 then some (PX.normal,shK.put ([.l f es,.i la,.i i,.i (k + 1)],[])) else some (PX.ret,tK1 f es la i,[])) else (bif mq es k i == 0 then some (PX.normal,shK.put ([.l f es,.i la,.i i,.i (k + 1)],[])) else some (PX.ret,tK1 f es la i,[])))
     = bif mq es k i == want es la i k then some (PX.normal,shK.put ([.l f es,.i la,.i i,.i (k + 1)],[])) else some (PX.ret,tK1 f es la i,[]):=by
    unfold want
    cases k + 1 == i <;> cases cls es <;> cases k == 0 <;> cases i == la <;> rfl
   rw [key]
   cases hR:mq es k i == want es la i k with
   | false => rw [hR] at hr'; exact .inl (by rw [hr']; rfl)
   | true =>
    rw [hR] at hr'
    refine .inr ⟨([.l f es,.i la,.i i,.i (k + 1)],[]),rfl,by simp [pK]; omega,by simp only [mK]; omega,?_⟩
    rw [hr']
    simp only [fK]
    rw [show (i - (k + 1)).toNat = n by omega]
    cases allP es la i (k + 1) n <;> rfl
  ·rw [decide_eq_false hi]
   rw [show (i - k).toNat = 0 by omega] at hr'
   exact .inl (by rw [hr']; rfl)
 ·cases hp
noncomputable def E33k:EnvK:=E33.addW 56 12 [0,3,4,5] [] shK pK fK
theorem ok33k:EnvOK Tryz.prog E33k.env:=
 ok33.addW (n:=60) Tryz.func56 (show Tryz.f56.body = some (bod Tryz.f56) by kernel_rfl) (show (loops (bod Tryz.f56)).filter (fun b => rid b == 12) = [lpb Tryz.f56 12] by kernel_rfl) [0,3,4,5] [0,2,3,4] [] shK mK sK
def shJ:S1:=⟨79,[(0,.lst 37),(3,I64),(4,I64)],[]⟩
abbrev tJ0 (f:Bool) (es:List PV) (la:Int):List PV:=tm 79 [(0,.lst f 37 es),(3,iv la)]
abbrev tJ1 (f:Bool) (es:List PV) (la:Int):List PV:=tm 79 [(0,.lst f 37 es),(2,iv 11),(3,iv la)]
def eqqW (es:List PV) (i:Int):Bool:=(qX es i == qX es (W (i + 1))) && ((qY es i == qY es (W (i + 1))) && true)
theorem qJ (f:Bool) (es:List PV) (la i:Int):runB Tryz.prog E33k 60 56 (lpb Tryz.f56 7) [0,3,4] [0,2,3] (shJ.put ([.l f es,.i la,.i i],[])).1 (shJ.put ([.l f es,.i la,.i i],[])).2 =
 bif decide (i <= la) then bif inr es i then bif inr es (W (i + 1)) then
  bif eqqW es i then some (.ret,tJ1 f es la,[])
  else bif pK ([.l f es,.i la,.i i,.i 0],[]) then bif allP es la i 0 (i - 0).toNat then some (.normal,shJ.put ([.l f es,.i la,.i (W (i + 1))],[])) else some (.ret,tJ1 f es la,[]) else none
  else none else none
 else some (.exit 0,tJ0 f es la,[]):=by kernel_rfl
def pJ:LS -> Bool
 | ([.l _ es,.i la,.i i],[]) => decide (0 <= i) && decide (i <= la + 1) && decide (la + 2 = (es.length:Int)) && big es
 | _ => false
def fJ:LS -> DT (PX × List PV × List Row)
 | ([.l f es,.i la,.i i],[]) => .br (allI es la i (la + 1 - i).toNat) (.leaf (.exit 0,tJ0 f es la,[])) (.leaf (.ret,tJ1 f es la,[]))
 | _ => .no
def mJ:LS -> Nat
 | ([.l _ _,.i la,.i i],[]) => (la + 1 - i).toNat
 | _ => 0
theorem sJ:∀ s r,pJ s = true -> (fJ s).run = some r -> r.1 ≠ .normal /\ (runB Tryz.prog E33k 60 56 (lpb Tryz.f56 7) [0,3,4] [0,2,3] (shJ.put s).1 (shJ.put s).2 = some r \/
   ∃ s',runB Tryz.prog E33k 60 56 (lpb Tryz.f56 7) [0,3,4] [0,2,3] (shJ.put s).1 (shJ.put s).2 = some (.normal,shJ.put s') /\ pJ s' = true /\ mJ s' < mJ s /\ (fJ s').run = some r):=by
 intro s r hp hr
 unfold pJ at hp; split at hp
 ·rename_i f es la i
  simp only [Bool.and_eq_true,decide_eq_true_eq] at hp
  obtain ⟨⟨⟨h1,h2⟩,h4⟩,h5⟩:=hp
  have hr':=run_br2 hr
  refine ⟨by rw [hr']; cases allI es la i (la + 1 - i).toNat <;> simp,?_⟩
  rw [qJ]
  by_cases hi:i <= la
  ·have hw:=W_id (n:=i + 1) (by omega) (by omega)
   have he:eqqW es i = eqq es i (i + 1):=by unfold eqqW eqq; rw [hw]
   rw [decide_eq_true hi,cond_true,hw,inr_of (by omega) (by omega),inr_of (by omega) (by omega),he,show pK ([.l f es,.i la,.i i,.i 0],[]) = true by simp [pK]; omega]
   obtain ⟨n,hn⟩:∃ n,(la + 1 - i).toNat = n + 1:=⟨(la + 1 - i).toNat - 1,by omega⟩
   rw [hn] at hr'
   simp only [allI] at hr'
   simp only [cond_true,Int.sub_zero]
   cases hE:eqq es i (i + 1) with
   | true => rw [hE] at hr'; exact .inl (by rw [hr']; rfl)
   | false =>
    rw [hE] at hr'
    cases hR:allP es la i 0 i.toNat with
    | false => rw [hR] at hr'; exact .inl (by rw [hr']; rfl)
    | true =>
     rw [hR] at hr'
     refine .inr ⟨([.l f es,.i la,.i (i + 1)],[]),rfl,by simp [pJ]; omega,by simp only [mJ]; omega,?_⟩
     rw [hr']
     simp only [fJ]
     rw [show (la + 1 - (i + 1)).toNat = n by omega]
     cases allI es la (i + 1) n <;> rfl
  ·rw [decide_eq_false hi]
   rw [show (la + 1 - i).toNat = 0 by omega] at hr'
   exact .inl (by rw [hr']; rfl)
 ·cases hp
noncomputable def E33j:EnvK:=E33k.addW 56 7 [0,3,4] [] shJ pJ fJ
theorem ok33j:EnvOK Tryz.prog E33j.env:=
 ok33k.addW (n:=60) Tryz.func56 (show Tryz.f56.body = some (bod Tryz.f56) by kernel_rfl) (show (loops (bod Tryz.f56)).filter (fun b => rid b == 7) = [lpb Tryz.f56 7] by kernel_rfl) [0,3,4] [0,2,3] [] shJ mJ sJ
def chk (es:List PV):Int:=bif decide ((es.length:Int) < 2) || decide ((es.length:Int) > 40) then 2 else bif fin es then bif allI es ((es.length:Int) - 2) 0 (es.length - 1) then 0 else 11 else 10
def chkR (es:List PV):Option PV:=bif big es then bif !fin es then some (iv 10) else bif pJ ([.l true es,.i (W ((es.length:Int) - 2)),.i 0],[]) then bif allI es (W ((es.length:Int) - 2)) 0 (W ((es.length:Int) - 2) + 1 - 0).toNat then some (iv 0) else some (iv 11) else none else none
theorem qRChk (f:Bool) (es:List PV):runP Tryz.prog E33j 60 56 [.lst f 37 es] =
 bif decide ((es.length:Int) < 2) then some (iv 2) else bif decide ((es.length:Int) > 40) then some (iv 2) else chkR es:=by kernel_rfl
theorem chk_tree (es:List PV):(bif decide ((es.length:Int) < 2) then some (iv 2) else bif decide ((es.length:Int) > 40) then some (iv 2) else chkR es) = some (iv (chk es)):=by
 unfold chk
 by_cases h1:(es.length:Int) < 2
 ·rw [decide_eq_true h1]; rfl
 ·by_cases h2:(es.length:Int) > 40
  ·rw [decide_eq_false h1,decide_eq_true h2]; rfl
  ·rw [decide_eq_false h1,decide_eq_false h2]
   have hw:=W_id (n:=(es.length:Int) - 2) (by omega) (by omega)
   unfold chkR
   rw [hw,show big es = true by simp [big]; omega,show pJ ([.l true es,.i ((es.length:Int) - 2),.i 0],[]) = true by simp [pJ]; omega,show ((es.length:Int) - 2 + 1 - 0).toNat = es.length - 1 by omega]
   cases fin es <;> cases allI es ((es.length:Int) - 2) 0 (es.length - 1) <;> rfl
def cChk:List PV -> Option PV | [.lst _ 37 es] => some (iv (chk es)) | _ => none
theorem oRChk (args:List PV) (r:PV) (h:cChk args = some r):Hx.Enters Tryz.prog 56 /\ PCall Tryz.prog 56 args r:=by
 unfold cChk at h; split at h
 ·rename_i f es; cases h; exact runP_sound ok33j ((qRChk f es).trans (chk_tree es))
 ·cases h
end Go.Hg
/- Geometry: line.Check of any length: its inner loop. -/
namespace Go.Hg
open Go.Hx Go.Proofs
noncomputable def E34:EnvK:=((E33.addO 56 cChk).addV 52 7 [1,3,4,25]).addV 52 12 [1,3,4,5,6,37]
theorem ok34:EnvOK Tryz.prog E34.env:=((ok33.addO oRChk).addV 52 7 [1,3,4,25]).addV 52 12 [1,3,4,5,6,37]
abbrev sgf (i:Nat):PV:=.fn (.func 128) [] [.ptr i 1 0 0]
noncomputable def lrO (st:LSt):Row:=lrow 52 Tryz.f52 7 (tm 63 [(1,.ptr 0 1 0 0),(3,.ptr 1 1 0 0),(4,.ptr 2 1 0 0),(25,sgf 3)]) st
noncomputable def lrI (st:LSt):Row:=lrow 52 Tryz.f52 12 (tm 63 [(1,.ptr 0 1 0 0),(3,.ptr 1 1 0 0),(4,.ptr 2 1 0 0),(5,.ptr 5 1 0 0),(6,.ptr 6 1 0 0),(37,sgf 7)]) st
def shC:S1:=⟨25,[(0,.yld 8),(1,.ptr 7 1 0 0),(3,I64)],[.one 42 1 (.lst 37),.one 31 1 I64,.one 3 1 I64,.one 42 1 (.lst 37),.raw,.one 3 1 I64,.one 143 4 (.agg [I64,I64,I64,I64]),.one 42 1 (.lst 37),.raw]⟩
abbrev lC (f:Bool) (es:List PV) (er cl:Int) (f3:Bool) (es3:List PV) (r4:Row) (i a b c d:Int) (f2:Bool) (es2:List PV) (r8:Row) (k:Int):LS:=([.i k],[.l f es,.i er,.i cl,.l f3 es3,.r r4,.i i,.i a,.i b,.i c,.i d,.l f2 es2,.r r8])
noncomputable abbrev hC (f:Bool) (es:List PV) (er cl:Int) (f3:Bool) (es3:List PV) (i a b c d:Int) (f2:Bool) (es2:List PV) (r8:Row):List Row:=(shC.put (lC f es er cl f3 es3 (lrO .busy) i a b c d f2 es2 r8 0)).2
def mqs (a b c d:Int) (es:List PV) (k l:Int):Int:=mt a b c d (qX es k) (qY es k) (qX es l) (qY es l)
noncomputable def pairC (f:Bool) (es:List PV) (er cl:Int) (f3:Bool) (es3:List PV) (i a b c d:Int) (f2:Bool) (es2:List PV) (k w:Int):Option (PX × List PV × List Row):=
 bif mqs a b c d es2 k (W (k + 1)) != w then some (.ret,tm 25 [],hC f es 11 cl f3 es3 i a b c d f2 es2 (lrI (.done (.exit 0)))) else some (.normal,shC.put (lC f es er cl f3 es3 (lrO .busy) i a b c d f2 es2 (lrI .ready) (W (k + 1))))
theorem qC (f:Bool) (es:List PV) (er cl:Int) (f3:Bool) (es3:List PV) (i a b c d:Int) (f2:Bool) (es2:List PV) (k:Int):runB Tryz.prog E34 60 128 (lpb Tryz.f128 1) [0,1,3] [] (shC.put (lC f es er cl f3 es3 (lrO .busy) i a b c d f2 es2 (lrI .ready) k)).1 (shC.put (lC f es er cl f3 es3 (lrO .busy) i a b c d f2 es2 (lrI .ready) k)).2 =
 bif decide (W (k + 1) < (es2.length:Int)) then bif inr es2 k then bif inr es2 (W (k + 1)) then
  bif i == W (k + 1) then pairC f es er cl f3 es3 i a b c d f2 es2 k 1 else bif k == 0 then bif i == cl then bif big es then bif cls es then pairC f es er cl f3 es3 i a b c d f2 es2 k 1 else pairC f es er cl f3 es3 i a b c d f2 es2 k 0 else none else pairC f es er cl f3 es3 i a b c d f2 es2 k 0 else pairC f es er cl f3 es3 i a b c d f2 es2 k 0
 else none else none else some (.exit 0,tm 25 [],hC f es er cl f3 es3 i a b c d f2 es2 (lrI .ready)):=by kernel_rfl
end Go.Hg
/- Geometry: line.Check of any length. -/
namespace Go.Hg
open Go.Hx Go.Proofs
def wantC (es:List PV) (cl i k:Int):Int:=bif i == k + 1 then 1 else bif (k == 0) && ((i == cl) && cls es) then 1 else 0
def allC (es:List PV) (cl i a b c d:Int) (es2:List PV) (k:Int):Nat -> Bool
 | 0 => true
 | n + 1 => (mqs a b c d es2 k (k + 1) == wantC es cl i k) && allC es cl i a b c d es2 (k + 1) n
noncomputable def pC:LS -> Bool
 | ([.i k],[.l _ es,.i _,.i _,.l _ _,.r r4,.i _,.i _,.i _,.i _,.i _,.l _ es2,.r r8]) => decide (0 <= k) && decide (k + 1 <= (es2.length:Int)) && big es && big es2 && (same r4 (lrO .busy) && same r8 (lrI .ready))
 | _ => false
noncomputable def fC:LS -> DT (PX × List PV × List Row)
 | ([.i k],[.l f es,.i er,.i cl,.l f3 es3,.r _,.i i,.i a,.i b,.i c,.i d,.l f2 es2,.r _]) => .br (allC es cl i a b c d es2 k ((es2.length:Int) - (k + 1)).toNat)
   (.leaf (.exit 0,tm 25 [],hC f es er cl f3 es3 i a b c d f2 es2 (lrI .ready))) (.leaf (.ret,tm 25 [],hC f es 11 cl f3 es3 i a b c d f2 es2 (lrI (.done (.exit 0)))))
 | _ => .no
def mC:LS -> Nat
 | ([.i k],[.l _ _,.i _,.i _,.l _ _,.r _,.i _,.i _,.i _,.i _,.i _,.l _ es2,.r _]) => ((es2.length:Int) - (k + 1)).toNat
 | _ => 0
theorem pairC_eq {f:Bool} {es:List PV} {er cl:Int} {f3:Bool} {es3:List PV} {i a b c d:Int} {f2:Bool} {es2:List PV} {k w:Int} (hw:W (k + 1) = k + 1):pairC f es er cl f3 es3 i a b c d f2 es2 k w =
  bif mqs a b c d es2 k (k + 1) == w then some (.normal,shC.put (lC f es er cl f3 es3 (lrO .busy) i a b c d f2 es2 (lrI .ready) (k + 1))) else some (.ret,tm 25 [],hC f es 11 cl f3 es3 i a b c d f2 es2 (lrI (.done (.exit 0)))):=by
 unfold pairC; rw [hw]; unfold bne
 cases mqs a b c d es2 k (k + 1) == w <;> rfl
theorem sC:∀ s r,pC s = true -> (fC s).run = some r -> r.1 ≠ .normal /\ (runB Tryz.prog E34 60 128 (lpb Tryz.f128 1) [0,1,3] [] (shC.put s).1 (shC.put s).2 = some r \/
   ∃ s',runB Tryz.prog E34 60 128 (lpb Tryz.f128 1) [0,1,3] [] (shC.put s).1 (shC.put s).2 = some (.normal,shC.put s') /\ pC s' = true /\ mC s' < mC s /\ (fC s').run = some r):=by
 intro s r hp hr
 unfold pC at hp; split at hp
 ·rename_i k f es er cl f3 es3 r4 i a b c d f2 es2 r8
  simp only [Bool.and_eq_true,decide_eq_true_eq,same_iff] at hp
  obtain ⟨⟨⟨⟨h1,h2⟩,h3⟩,h4⟩,rfl,rfl⟩:=hp
  have hr':=run_br2 hr
  refine ⟨by rw [hr']; cases allC es cl i a b c d es2 k ((es2.length:Int) - (k + 1)).toNat <;> simp,?_⟩
  rw [qC]
  have hw:=W_id (n:=k + 1) (by omega) (by omega)
  rw [hw]
  by_cases hi:k + 1 < (es2.length:Int)
  ·rw [decide_eq_true hi,cond_true,inr_of h1 (by omega),inr_of (by omega) hi,show big es = true by simp [big]; omega,pairC_eq hw,pairC_eq hw]
   obtain ⟨n,hn⟩:∃ n,((es2.length:Int) - (k + 1)).toNat = n + 1:=⟨((es2.length:Int) - (k + 1)).toNat - 1,by omega⟩
   rw [hn] at hr'
   simp only [allC] at hr'
   generalize hX:(some (PX.normal,shC.put (lC f es er cl f3 es3 (lrO .busy) i a b c d f2 es2 (lrI .ready) (k + 1))):Option (PX × List PV × List Row)) = X
   generalize hY:(some (PX.ret,tm 25 [],hC f es 11 cl f3 es3 i a b c d f2 es2 (lrI (.done (.exit 0)))):Option (PX × List PV × List Row)) = Y
   have key:(bif true then bif true then bif i == k + 1 then (bif mqs a b c d es2 k (k + 1) == 1 then X else Y) else bif k == 0 then bif i == cl then bif true then bif cls es then (bif mqs a b c d es2 k (k + 1) == 1 then X else Y) else (bif mqs a b c d es2 k (k + 1) == 0 then X else Y) else none else (bif mqs a b c d es2 k (k + 1) == 0 then X else Y) else (bif mqs a b c d es2 k (k + 1) == 0 then X else Y) else none else none)
     = bif mqs a b c d es2 k (k + 1) == wantC es cl i k then X else Y:=by
    unfold wantC
    cases i == k + 1 <;> cases cls es <;> cases k == 0 <;> cases i == cl <;> rfl
   rw [key]
   cases hR:mqs a b c d es2 k (k + 1) == wantC es cl i k with
   | false => rw [hR] at hr'; exact .inl (by rw [cond_false,<- hY,hr']; rfl)
   | true =>
    rw [hR] at hr'
    refine .inr ⟨lC f es er cl f3 es3 (lrO .busy) i a b c d f2 es2 (lrI .ready) (k + 1),by rw [cond_true,<- hX],by simp [pC,same_self]; omega,by simp only [mC]; omega,?_⟩
    rw [hr']
    simp only [fC]
    rw [show ((es2.length:Int) - (k + 1 + 1)).toNat = n by omega]
    cases allC es cl i a b c d es2 (k + 1) n <;> rfl
  ·rw [decide_eq_false hi]
   rw [show ((es2.length:Int) - (k + 1)).toNat = 0 by omega] at hr'
   exact .inl (by rw [hr']; rfl)
 ·cases hp
noncomputable def E34a:EnvK:=E34.addW 128 1 [0,1,3] [] shC pC fC
theorem ok34a:EnvOK Tryz.prog E34a.env:=
 ok34.addW (n:=60) Tryz.func128 (show Tryz.f128.body = some (bod Tryz.f128) by kernel_rfl) (show (loops (bod Tryz.f128)).filter (fun b => rid b == 1) = [lpb Tryz.f128 1] by kernel_rfl) [0,1,3] [] [] shC mC sC
def shD:S1:=⟨25,[(0,.yld 4),(1,.ptr 3 1 0 0),(3,I64)],[.one 42 1 (.lst 37),.one 31 1 I64,.one 3 1 I64,.one 42 1 (.lst 37),.raw]⟩
abbrev lD (f:Bool) (es:List PV) (er cl:Int) (f3:Bool) (es3:List PV) (r4:Row) (i:Int):LS:=([.i i],[.l f es,.i er,.i cl,.l f3 es3,.r r4])
noncomputable abbrev hD (f:Bool) (es:List PV) (er cl:Int) (f3:Bool) (es3:List PV) (r4:Row):List Row:=(shD.put (lD f es er cl f3 es3 r4 0)).2
def eqe (es:List PV) (i j:Int):Bool:=(qX es i == qX es j) && ((qY es i == qY es j) && true)
noncomputable def retD (f:Bool) (es:List PV) (cl:Int) (f3:Bool) (es3:List PV):Option (PX × List PV × List Row):=some (.ret,tm 25 [],hD f es 11 cl f3 es3 (lrO (.done (.exit 0))))
theorem qD (f:Bool) (es:List PV) (er cl:Int) (f3:Bool) (es3:List PV) (i:Int):runB Tryz.prog E34a 60 128 (lpb Tryz.f128 1) [0,1,3] [] (shD.put (lD f es er cl f3 es3 (lrO .ready) i)).1 (shD.put (lD f es er cl f3 es3 (lrO .ready) i)).2 =
 bif decide (W (i + 1) < (es3.length:Int)) then bif inr es3 i then bif inr es3 (W (i + 1)) then
  bif eqe es3 i (W (i + 1)) then retD f es cl f3 es3
  else bif decide ((0:Int) <= 0) && decide ((0:Int) <= W (i + 1)) && decide (W (i + 1) <= (es.length:Int)) then
   bif pC (lC f es er cl f3 es3 (lrO .busy) i (qX es3 i) (qY es3 i) (qX es3 (W (i + 1))) (qY es3 (W (i + 1))) false (es.take (W (i + 1)).toNat) (lrI .ready) 0) then
    bif allC es cl i (qX es3 i) (qY es3 i) (qX es3 (W (i + 1))) (qY es3 (W (i + 1))) (es.take (W (i + 1)).toNat) 0 (((es.take (W (i + 1)).toNat).length:Int) - (0 + 1)).toNat
    then some (.normal,shD.put (lD f es er cl f3 es3 (lrO .ready) (W (i + 1)))) else retD f es cl f3 es3
   else none
  else none
 else none else none else some (.exit 0,tm 25 [],hD f es er cl f3 es3 (lrO .ready)):=by kernel_rfl
end Go.Hg
/- Geometry (network): what the plain laws of points use. -/
namespace Go.Hg
open Go.Hx Go.Proofs
end Go.Hg
/- Geometry: plain laws of Side, On and Meet: order, turns, moves. -/
namespace Go.Hg
open Go.Hx Go.Proofs
def key (x y:Int):Int:=x * 4611686018427387904 + y
abbrev bd (a b:Int):Prop:=(-1152921504606846976 <= a /\ a <= 1152921504606846976) /\ (-1152921504606846976 <= b /\ b <= 1152921504606846976)
theorem bd_iff {a b:Int}:bdd a b = true ↔ bd a b:=inB2_iff
theorem key_lt {a b c d:Int} (h1:bd a b) (h2:bd c d):(a < c \/ a = c /\ b < d) ↔ key a b < key c d:=by unfold key; omega
theorem lessP_key {a b c d:Int} (h1:bd a b) (h2:bd c d):lessP a b c d = decide (key a b < key c d):=by
 rw [Bool.eq_iff_iff,lessP_iff,decide_eq_true_iff]; exact key_lt h1 h2
def mnk (x y:Int):Int:=if y < x then y else x
def mxk (x y:Int):Int:=if y < x then x else y
theorem key_if (t:Bool) (a b c d:Int):key (ifI t a c) (ifI t b d) = ifI t (key a b) (key c d):=by cases t <;> rfl
theorem cmp2_key {a b c d:Int} (h1:bd a b) (h2:bd c d):cmp2 a b c d = sgn (key a b - key c d):=by
 have k1:=cmp2_lt_iff a b c d
 have k2:=cmp2_gt_iff a b c d
 have k3:=cmp2_range a b c d
 rw [key_lt h1 h2] at k1
 rw [key_lt h2 h1] at k2
 unfold sgn
 (repeat' split) <;> omega
theorem bd_if {t:Bool} {a b c d:Int} (h1:bd a b) (h2:bd c d):bd (ifI t a c) (ifI t b d):=by cases t <;> assumption
def flk (p q r s:Int):Int:=1 + sgn (mnk (mxk p q) (mxk r s) - mxk (mnk p q) (mnk r s))
theorem fl_key {a b c d e f g h:Int} (h1:bd a b) (h2:bd c d) (h3:bd e f) (h4:bd g h):fl a b c d e f g h = flk (key a b) (key c d) (key e f) (key g h):=by
 unfold fl flk
 dsimp only
 have b1:bd (ifI (lessP c d a b) c a) (ifI (lessP c d a b) d b):=bd_if h2 h1
 have b2:bd (ifI (lessP c d a b) a c) (ifI (lessP c d a b) b d):=bd_if h1 h2
 have b3:bd (ifI (lessP g h e f) g e) (ifI (lessP g h e f) h f):=bd_if h4 h3
 have b4:bd (ifI (lessP g h e f) e g) (ifI (lessP g h e f) f h):=bd_if h3 h4
 rw [cmp2_key (bd_if b4 b2) (bd_if b3 b1)]
 simp only [key_if,lessP_key h2 h1,lessP_key h4 h3]
 rw [lessP_key (by rw [<- lessP_key h4 h3]; exact b4) (by rw [<- lessP_key h2 h1]; exact b2),lessP_key (by rw [<- lessP_key h2 h1]; exact b1) (by rw [<- lessP_key h4 h3]; exact b3)]
 simp only [key_if]
 generalize key a b = p
 generalize key c d = q
 generalize key e f = r
 generalize key g h = s
 have i1:∀ x y:Int,ifI (decide (y < x)) y x = mnk x y:=fun x y => by unfold ifI mnk; by_cases h:y < x <;> simp [h]
 have i2:∀ x y:Int,ifI (decide (y < x)) x y = mxk x y:=fun x y => by unfold ifI mxk; by_cases h:y < x <;> simp [h]
 rw [i1 p q,i2 p q,i1 r s,i2 r s,i1 (mxk p q) (mxk r s)]
 congr 3
 unfold ifI mxk
 by_cases hh:mnk p q < mnk r s
 ·rw [decide_eq_true hh,if_neg (by omega)]; rfl
 ·rw [decide_eq_false hh]
  by_cases h2:mnk r s < mnk p q
  ·rw [if_pos h2]; rfl
  ·rw [if_neg h2]; show mnk p q = _; omega
theorem flk_swap1 (p q r s:Int):flk q p r s = flk p q r s:=by unfold flk mnk mxk; congr 2; (repeat' split) <;> omega
theorem flk_swap3 (p q r s:Int):flk r s p q = flk p q r s:=by unfold flk mnk mxk; congr 2; (repeat' split) <;> omega
def kb (p q x:Int):Bool:=decide (mnk p q <= x) && decide (x <= mxk p q)
def K (p q x:Int):Prop:=p <= x /\ x <= q \/ q <= x /\ x <= p
end Go.Hg
/- Geometry: plain laws: turns, moves and order change nothing. -/
namespace Go.Hg
open Go.Hx Go.Proofs
theorem mt_swap3 {a b c d e f g h:Int} (h1:bd a b) (h2:bd c d) (h3:bd e f) (h4:bd g h):mt e f g h a b c d = mt a b c d e f g h:=by
 unfold mt
 rw [bd_iff.2 h1,bd_iff.2 h2,bd_iff.2 h3,bd_iff.2 h4,fl_key h1 h2 h3 h4,fl_key h3 h4 h1 h2,flk_swap3]
 unfold nfl
 rw [Bool.or_comm]
 cases sd a b c d e f == 0 <;> cases sd a b c d g h == 0 <;> cases sd e f g h a b == 0 <;> cases sd e f g h c d == 0 <;> rfl
end Go.Hg
/- Geometry: line.Check of any length: as the reference's. -/
namespace Go.Hg
open Go.Hx Go.Proofs
def allO (es:List PV) (cl i:Int):Nat -> Bool
 | 0 => true
 | n + 1 => !eqe es i (i + 1) && (allC es cl i (qX es i) (qY es i) (qX es (i + 1)) (qY es (i + 1)) (es.take (i + 1).toNat) 0 i.toNat && allO es cl (i + 1) n)
noncomputable def pD:LS -> Bool
 | ([.i i],[.l _ es,.i _,.i cl,.l _ es3,.r r4]) => decide (0 <= i) && decide (i + 1 <= (es.length:Int)) && decide (cl + 2 = (es.length:Int)) && big es && (same r4 (lrO .ready) && same es3 es)
 | _ => false
noncomputable def fD:LS -> DT (PX × List PV × List Row)
 | ([.i i],[.l f es,.i er,.i cl,.l f3 es3,.r _]) => .br (allO es cl i ((es.length:Int) - (i + 1)).toNat)
   (.leaf (.exit 0,tm 25 [],hD f es er cl f3 es3 (lrO .ready))) (.leaf (.ret,tm 25 [],hD f es 11 cl f3 es3 (lrO (.done (.exit 0)))))
 | _ => .no
def mD:LS -> Nat
 | ([.i i],[.l _ es,.i _,.i _,.l _ _,.r _]) => ((es.length:Int) - (i + 1)).toNat
 | _ => 0
theorem sD:∀ s r,pD s = true -> (fD s).run = some r -> r.1 ≠ .normal /\ (runB Tryz.prog E34a 60 128 (lpb Tryz.f128 1) [0,1,3] [] (shD.put s).1 (shD.put s).2 = some r \/
   ∃ s',runB Tryz.prog E34a 60 128 (lpb Tryz.f128 1) [0,1,3] [] (shD.put s).1 (shD.put s).2 = some (.normal,shD.put s') /\ pD s' = true /\ mD s' < mD s /\ (fD s').run = some r):=by
 intro s r hp hr
 unfold pD at hp; split at hp
 ·rename_i i f es er cl f3 es3 r4
  simp only [Bool.and_eq_true,decide_eq_true_eq,same_iff] at hp
  obtain ⟨⟨⟨⟨h1,h2⟩,h3⟩,h4⟩,rfl,rfl⟩:=hp
  have hr':=run_br2 hr
  refine ⟨by rw [hr']; cases allO es3 cl i ((es3.length:Int) - (i + 1)).toNat <;> simp,?_⟩
  rw [qD]
  have hw:=W_id (n:=i + 1) (by omega) (by omega)
  rw [hw]
  by_cases hi:i + 1 < (es3.length:Int)
  ·have hl:(es3.take (i + 1).toNat).length = (i + 1).toNat:=by rw [List.length_take]; omega
   have hp:pC (lC f es3 er cl f3 es3 (lrO .busy) i (qX es3 i) (qY es3 i) (qX es3 (i + 1)) (qY es3 (i + 1)) false (es3.take (i + 1).toNat) (lrI .ready) 0) = true:=by
    simp only [pC,same_self,hl,Bool.and_true,Bool.and_eq_true,decide_eq_true_eq]; omega
   rw [decide_eq_true hi,cond_true,inr_of h1 (by omega),inr_of (by omega) hi,hp,hl,show (((i + 1).toNat:Int) - (0 + 1)).toNat = i.toNat by omega,
    show (decide ((0:Int) <= 0) && decide ((0:Int) <= i + 1) && decide (i + 1 <= (es3.length:Int))) = true by simp; omega]
   obtain ⟨n,hn⟩:∃ n,((es3.length:Int) - (i + 1)).toNat = n + 1:=⟨((es3.length:Int) - (i + 1)).toNat - 1,by omega⟩
   rw [hn] at hr'
   simp only [allO] at hr'
   simp only [cond_true]
   cases hE:eqe es3 i (i + 1) with
   | true => rw [hE] at hr'; exact .inl (by rw [hr']; rfl)
   | false =>
    rw [hE] at hr'
    cases hR:allC es3 cl i (qX es3 i) (qY es3 i) (qX es3 (i + 1)) (qY es3 (i + 1)) (es3.take (i + 1).toNat) 0 i.toNat with
    | false => rw [hR] at hr'; exact .inl (by rw [hr']; rfl)
    | true =>
     rw [hR] at hr'
     refine .inr ⟨lD f es3 er cl f3 es3 (lrO .ready) (i + 1),rfl,by simp [pD,same_self]; omega,by simp only [mD]; omega,?_⟩
     rw [hr']
     simp only [fD]
     rw [show ((es3.length:Int) - (i + 1 + 1)).toNat = n by omega]
     cases allO es3 cl (i + 1) n <;> rfl
  ·rw [decide_eq_false hi]
   rw [show ((es3.length:Int) - (i + 1)).toNat = 0 by omega] at hr'
   exact .inl (by rw [hr']; rfl)
 ·cases hp
noncomputable def E34b:EnvK:=E34a.addW 128 1 [0,1,3] [] shD pD fD
theorem ok34b:EnvOK Tryz.prog E34b.env:=
 ok34a.addW (n:=60) Tryz.func128 (show Tryz.f128.body = some (bod Tryz.f128) by kernel_rfl) (show (loops (bod Tryz.f128)).filter (fun b => rid b == 1) = [lpb Tryz.f128 1] by kernel_rfl) [0,1,3] [] [] shD mD sD
noncomputable def chkL (f:Bool) (es:List PV):Option PV:=bif big es then bif !fin es then some (iv 10) else bif pD (lD f es 0 (W ((es.length:Int) - 2)) f es (lrO .ready) 0) then bif allO es (W ((es.length:Int) - 2)) 0 ((es.length:Int) - (0 + 1)).toNat then some (iv 0) else some (iv 11) else none else none
theorem qChk (f:Bool) (es:List PV):runP Tryz.prog E34b 60 52 [.lst f 37 es] =
 bif decide ((es.length:Int) < 2) then some (iv 2) else bif decide ((es.length:Int) > 40) then some (iv 2) else chkL f es:=by kernel_rfl
end Go.Hg
/- Geometry: contracts: Check of a line, both. -/
namespace Go.Hg
open Go.Hx Go.Proofs
theorem fin_bd {es:List PV} (h:fin es = true) {i:Int} (h0:0 <= i) (h1:i < (es.length:Int)):bd (qX es i) (qY es i):=by
 have:=allR_false.1 h i.toNat (by omega)
 rw [show (0:Int) + (i.toNat:Int) = i by omega] at this
 have:=inB2_iff.1 this; unfold bd; omega
theorem qX_take {es:List PV} {n:Nat} {k:Int} (h:k < (n:Int)) (h0:0 <= k):qX (es.take n) k = qX es k:=by
 unfold qX
 rw [List.getD_eq_getElem?_getD,List.getD_eq_getElem?_getD,List.getElem?_take,if_pos (by omega)]
theorem qY_take {es:List PV} {n:Nat} {k:Int} (h:k < (n:Int)) (h0:0 <= k):qY (es.take n) k = qY es k:=by
 unfold qY
 rw [List.getD_eq_getElem?_getD,List.getD_eq_getElem?_getD,List.getElem?_take,if_pos (by omega)]
theorem want_eq (es:List PV) (la i k:Int):wantC es la i k = want es la i k:=by
 unfold wantC want
 rw [show (i == k + 1) = (k + 1 == i) by rw [Bool.eq_iff_iff]; simp only [beq_iff_eq]; omega]
 cases cls es <;> cases k == 0 <;> cases i == la <;> rfl
theorem allC_eq {es:List PV} (hf:fin es = true) {la i:Int} (h0:0 <= i) (h1:i + 1 < (es.length:Int)):∀ (n:Nat) (k:Int),0 <= k -> k + n = i ->
  allC es la i (qX es i) (qY es i) (qX es (i + 1)) (qY es (i + 1)) (es.take (i + 1).toNat) k n = allP es la i k n
 | 0,k,_,_ => rfl
 | n + 1,k,h2,h3 => by
  simp only [allC,allP]
  rw [allC_eq hf h0 h1 n (k + 1) (by omega) (by omega),want_eq]
  congr 2
  unfold mqs mq
  rw [qX_take (by omega) (by omega),qY_take (by omega) (by omega),qX_take (by omega) (by omega),qY_take (by omega) (by omega)]
  exact mt_swap3 (fin_bd hf (by omega) (by omega)) (fin_bd hf (by omega) (by omega)) (fin_bd hf (by omega) (by omega)) (fin_bd hf (by omega) (by omega))
theorem allO_eq {es:List PV} (hf:fin es = true) {la:Int}:∀ (n:Nat) (i:Int),0 <= i -> i + n + 1 = (es.length:Int) -> allO es la i n = allI es la i n
 | 0,i,_,_ => rfl
 | n + 1,i,h0,h1 => by
  simp only [allO,allI]
  rw [allO_eq hf n (i + 1) (by omega) (by omega),allC_eq hf h0 (by omega) i.toNat 0 (by omega) (by omega)]
  rfl
theorem chkL_eq (f:Bool) (es:List PV):(bif decide ((es.length:Int) < 2) then some (iv 2) else bif decide ((es.length:Int) > 40) then some (iv 2) else chkL f es) = some (iv (chk es)):=by
 unfold chk
 by_cases h1:(es.length:Int) < 2
 ·rw [decide_eq_true h1]; rfl
 ·by_cases h2:(es.length:Int) > 40
  ·rw [decide_eq_false h1,decide_eq_true h2]; rfl
  ·rw [decide_eq_false h1,decide_eq_false h2]
   have hw:=W_id (n:=(es.length:Int) - 2) (by omega) (by omega)
   unfold chkL
   rw [hw,show big es = true by simp [big]; omega,show pD (lD f es 0 ((es.length:Int) - 2) f es (lrO .ready) 0) = true by simp [pD,same_self]; omega,show ((es.length:Int) - (0 + 1)).toNat = es.length - 1 by omega]
   cases hf:fin es with
   | false => rfl
   | true =>
    rw [allO_eq hf (es.length - 1) 0 (by omega) (by omega)]
    cases allI es ((es.length:Int) - 2) 0 (es.length - 1) <;> rfl
theorem oChk (args:List PV) (r:PV) (h:cChk args = some r):Hx.Enters Tryz.prog 52 /\ PCall Tryz.prog 52 args r:=by
 unfold cChk at h; split at h
 ·rename_i f es; cases h; exact runP_sound ok34b ((qChk f es).trans (chkL_eq f es))
 ·cases h
noncomputable def E35:EnvK:=E34.addO 52 cChk
theorem ok35:EnvOK Tryz.prog E35.env:=ok34.addO oChk
end Go.Hg
