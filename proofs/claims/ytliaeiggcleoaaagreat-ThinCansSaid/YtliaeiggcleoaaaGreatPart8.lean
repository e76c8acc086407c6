/- Geometry: contracts of the functions of exact numbers. (printed by strip.py) -/
import Derived.Test.YtliaeiggcleoaaaGreatHgA
import Derived.Test.YtliaeiggcleoaaaGreatPart5
namespace Go.Hg
open Go.Hx Go.Proofs
def cCmpI:List PV->Option PV | [.val (.int .i64 a),.val (.int .i64 b)]=>some (iv (sgn (a-b))) | _=>none
def cCmpU:List PV->Option PV | [.val (.int .u64 a),.val (.int .u64 b)]=>some (iv (sgn (a-b))) | _=>none
theorem cmp_tree (a b:Int):(bif a != a then (bif b != b then some (iv 0) else some (iv (-1))) else bif b != b then some (iv 1) else bif decide (a<b) then some (iv (-1)) else bif decide (a > b) then some (iv 1) else some (iv 0))=some (iv (sgn (a-b))):=by
 simp only[bne_self_eq_false,cond_false]
 unfold sgn
 by_cases h:a<b
 ·rw[decide_eq_true h,if_pos (by omega)]; rfl
 ·rw[decide_eq_false h,if_neg (by omega)]
  by_cases h2:a > b
  ·rw[decide_eq_true h2,if_pos (by omega)]; rfl
  ·rw[decide_eq_false h2,if_neg (by omega)]; rfl
theorem oCmpI (args:List PV) (r:PV) (h:cCmpI args=some r):Hx.Enters Tryz.prog 107/\Ak Tryz.prog 107 args r:=by
 unfold cCmpI at h; split at h
 ·rename_i a b; cases h
  refine Aa Af (n:=60) (Eq.trans ?_ (cmp_tree a b)); kernel_rfl
 ·cases h
def cSgn:List PV->Option PV | [.val (.int .i64 a)]=>some (iv (sgn a)) | _=>none
theorem oRSign (args:List PV) (r:PV) (h:cSgn args=some r):Hx.Enters Tryz.prog 182/\Ak Tryz.prog 182 args r:=by
 unfold cSgn at h; split at h
 ·rename_i a; cases h
  have e:(bif decide (a > 0) then some (iv 1) else bif decide (a<0) then some (iv (-1)) else some (iv 0))=some (iv (sgn a)):=by
   unfold sgn
   by_cases h:a<0
   ·rw[decide_eq_false (show ¬ a > 0 by omega),decide_eq_true h,if_pos h]; rfl
   ·rw[if_neg h,decide_eq_false h]
    by_cases h2:a > 0
    ·rw[decide_eq_true h2,if_pos h2]; rfl
    ·rw[decide_eq_false h2,if_neg h2]; rfl
  refine Aa Af (n:=60) (Eq.trans ?_ e); kernel_rfl
 ·cases h
def cSz:List PV->Option PV | [.val (.int .i64 a)]=>some (uv (sz a)) | _=>none
theorem sz_tree (a:Int):(bif decide (a<0) then some (uv (U (0-U a))) else some (uv (U a)))=some (uv (sz a)):=by
 unfold sz
 by_cases h:a<0
 ·rw[decide_eq_true h,if_pos h]; rfl
 ·rw[decide_eq_false h,if_neg h]; rfl
theorem oRSize (args:List PV) (r:PV) (h:cSz args=some r):Hx.Enters Tryz.prog 184/\Ak Tryz.prog 184 args r:=by
 unfold cSz at h; split at h
 ·rename_i a; cases h
  refine Aa Af (n:=60) (Eq.trans ?_ (sz_tree a)); kernel_rfl
 ·cases h
def cProd:List PV->Option PV | [.val (.int .u64 a),.val (.int .u64 b)]=>some (.agg [uv (mulhi2 a b),uv (U (a*b))]) | _=>none
theorem oProd (args:List PV) (r:PV) (h:cProd args=some r):Hx.Enters Tryz.prog 183/\Ak Tryz.prog 183 args r:=by
 unfold cProd at h; split at h
 ·cases h; exact Aa Af (n:=60) (by kernel_rfl)
 ·cases h
def E1:Ad:=({}:Ad) |>.addO 107 cCmpI |>.addO 182 cSgn |>.addO 184 cSz |>.addO 183 cProd
theorem ok1:Ab Tryz.prog E1.env:=((((Af).addO oCmpI).addO oRSign).addO oRSize).addO oProd
def cmp2 (a b c d:Int):Int:=if sgn (a-c)=0 then sgn (b-d) else sgn (a-c)
def E2:Ad:=E1
theorem ok2:Ab Tryz.prog E2.env:=ok1
end Go.Hg
/- Geometry: contracts: the sign of a difference of products. (printed by strip.py) -/
namespace Go.Hg
open Go.Hx Go.Proofs
def cSg2:List PV->Option PV | [.val (.int .i64 a),.val (.int .i64 b),.val (.int .i64 c),.val (.int .i64 d)]=>some (iv (sg2 a b c d)) | _=>none
theorem sgn_mul (a b:Int):W (sgn a*sgn b)=sgn a*sgn b /\ -1<=sgn a*sgn b/\sgn a*sgn b<=1:=by
 have h1:=sgn_range a
 have h2:=sgn_range b
 have h:-1<=sgn a*sgn b/\sgn a*sgn b<=1:=by
  have:sgn a = -1\/sgn a=0\/sgn a=1:=by omega
  rcases this with e | e | e <;> rw[e] <;> omega
 exact ⟨W_id (by omega) (by omega),h⟩
theorem W_sub1 {s t:Int} (h1:-1<=s/\s<=1) (h2:-1<=t/\t<=1):W (s-t)=s-t:=W_id (by omega) (by omega)
theorem oRSg2 (args:List PV) (r:PV) (h:cSg2 args=some r):Hx.Enters Tryz.prog 159/\Ak Tryz.prog 159 args r:=by
 unfold cSg2 at h; split at h
 ·rename_i a b c d; cases h
  have e:(bif W (sgn a*sgn b) != W (sgn c*sgn d) then some (iv (sgn (W (W (sgn a*sgn b)-W (sgn c*sgn d))))) else
    bif decide (mulhi2 (sz a) (sz b) > mulhi2 (sz c) (sz d)) then some (iv (W (sgn a*sgn b))) else bif decide (mulhi2 (sz a) (sz b)<mulhi2 (sz c) (sz d)) then some (iv (W (0-W (sgn a*sgn b)))) else
    bif decide (U (sz a*sz b) > U (sz c*sz d)) then some (iv (W (sgn a*sgn b))) else bif decide (U (sz a*sz b)<U (sz c*sz d)) then some (iv (W (0-W (sgn a*sgn b)))) else some (iv 0))=some (iv (sg2 a b c d)):=by
   obtain ⟨e1,h1⟩:=sgn_mul a b
   obtain ⟨e2,h2⟩:=sgn_mul c d
   rw[e1,e2,W_sub1 h1 h2,(mulhi_eq (sz_range a) (sz_range b)).2,(mulhi_eq (sz_range c) (sz_range d)).2]
   unfold sg2
   generalize sgn a*sgn b=s at *
   generalize sgn c*sgn d=t at *
   have hp:∀ x y:Int,0<=sz x*sz y:=fun x y=>Int.mul_nonneg (sz_range x).1 (sz_range y).1
   have p1:=hp a b
   have p2:=hp c d
   generalize sz a*sz b=p at *
   generalize sz c*sz d=q at *
   by_cases hst:s=t
   ·rw[if_pos hst,show (s != t)=false by simpa using hst,W_id (n:=0-s) (by omega) (by omega)]
    have d1:hiP p > hiP q\/hiP p<hiP q\/hiP p=hiP q:=by omega
    have c0:∀ {b:Bool} {x y:Option PV},b=true->(bif b then x else y)=x:=fun h=>by rw[h]; rfl
    have c1:∀ {b:Bool} {x y:Option PV},b=false->(bif b then x else y)=y:=fun h=>by rw[h]; rfl
    rw[c1 rfl]
    have sp:∀ z:Int,0<z->s*sgn z=s:=fun z h=>by unfold sgn; rw[if_neg (by omega),if_pos h]; omega
    have sn:∀ z:Int,z<0->s*sgn z=0-s:=fun z h=>by unfold sgn; rw[if_pos h]; omega
    have hh1:hiP p > hiP q->0<p-q:=by unfold hiP; omega
    have hh2:hiP p<hiP q->p-q<0:=by unfold hiP; omega
    rcases d1 with g | g | g
    ·rw[c0 (decide_eq_true g),sp _ (hh1 g)]
    ·rw[c1 (decide_eq_false (by omega)),c0 (decide_eq_true g),sn _ (hh2 g)]
    ·rw[c1 (decide_eq_false (by omega)),c1 (decide_eq_false (by omega))]
     have d2:U p > U q\/U p<U q\/U p=U q:=by omega
     have k1:U p > U q->0<p-q:=by rw[U_eq,U_eq]; unfold hiP at g; omega
     have k2:U p<U q->p-q<0:=by rw[U_eq,U_eq]; unfold hiP at g; omega
     have k3:U p=U q->p-q=0:=by rw[U_eq,U_eq]; unfold hiP at g; omega
     rcases d2 with g2 | g2 | g2
     ·rw[c0 (decide_eq_true g2),sp _ (k1 g2)]
     ·rw[c1 (decide_eq_false (by omega)),c0 (decide_eq_true g2),sn _ (k2 g2)]
     ·rw[c1 (decide_eq_false (by omega)),c1 (decide_eq_false (by omega)),k3 g2]
      show some (iv 0)=some (iv (s*0)); rw[Int.mul_zero]
   ·rw[if_neg hst,show (s != t)=true by simpa using hst]; rfl
  refine Aa ok2 (n:=60) (Eq.trans ?_ e); kernel_rfl
 ·cases h
def E3:Ad:=E2 |>.addO 159 cSg2
theorem ok3:Ab Tryz.prog E3.env:=(ok2).addO oRSg2
end Go.Hg
/- Geometry: contracts: bounds, Cmp. (printed by strip.py) -/
namespace Go.Hg
open Go.Hx Go.Proofs
def wi2 (n a b:Int):Bool:=!(decide (a<W (0-n))||decide (a > n)||decide (b<W (0-n))||decide (b > n))
def cWithin:List PV->Option PV | [.val (.int .i64 n),.Ac _ 3 [.val (.int .i64 a),.val (.int .i64 b)]]=>some (bv (wi2 n a b)) | _=>none
def inB (n a:Int):Bool:=decide (-n<=a)&&decide (a<=n)
def inB2 (n a b:Int):Bool:=inB n a&&inB n b
abbrev bdd (a b:Int):Bool:=inB2 1152921504606846976 a b
abbrev right (a b:Int):Bool:=inB2 16384 a b
theorem tree4 (p q r s:Bool):(bif p then bif q then bif r then some (bv s) else some (bv false) else some (bv false) else some (bv false))=some (bv (p&&q&&(r&&s))):=by
 cases p <;> cases q <;> cases r <;> rfl
def cPt2 (g:Int->Int->Bool):List PV->Option PV | [.agg [.val (.int .i64 a),.val (.int .i64 b)]]=>some (bv (g a b)) | _=>none
theorem oRBdd (args:List PV) (r:PV) (h:cPt2 bdd args=some r):Hx.Enters Tryz.prog 116/\Ak Tryz.prog 116 args r:=by
 unfold cPt2 at h; split at h
 ·rename_i a b; cases h
  refine Aa ok3 (n:=60) (Eq.trans ?_ (tree4 (decide (-1152921504606846976<=a)) (decide (a<=1152921504606846976)) (decide (-1152921504606846976<=b)) (decide (b<=1152921504606846976)))); kernel_rfl
 ·cases h
theorem oRRight (args:List PV) (r:PV) (h:cPt2 right args=some r):Hx.Enters Tryz.prog 130/\Ak Tryz.prog 130 args r:=by
 unfold cPt2 at h; split at h
 ·rename_i a b; cases h
  refine Aa ok3 (n:=60) (Eq.trans ?_ (tree4 (decide (-16384<=a)) (decide (a<=16384)) (decide (-16384<=b)) (decide (b<=16384)))); kernel_rfl
 ·cases h
def E4:Ad:=E3 |>.addO 116 (cPt2 bdd) |>.addO 130 (cPt2 right)
theorem ok4:Ab Tryz.prog E4.env:=((ok3).addO oRBdd).addO oRRight
def cCmp:List PV->Option PV | [.agg [.val (.int .i64 a),.val (.int .i64 b)],.agg [.val (.int .i64 c),.val (.int .i64 d)]]=>some (iv (bif decide (b<1)||decide (d<1) then 0 else sg2 a d c b)) | _=>none
def E5:Ad:=E4
theorem ok5:Ab Tryz.prog E5.env:=ok4
end Go.Hg
/- Geometry: contracts: Side, the order of points. (printed by strip.py) -/
namespace Go.Hg
open Go.Hx Go.Proofs
def crs (a b c d e f:Int):Int:=(c-a)*(f-b)-(d-b)*(e-a)
def sd (a b c d e f:Int):Int:=bif bdd a b&&bdd c d&&bdd e f then sgn (crs a b c d e f) else 0
theorem inB_iff {n a:Int}:inB n a=true ↔ -n<=a/\a<=n:=by unfold inB; simp
theorem inB2_iff {n a b:Int}:inB2 n a b=true ↔ (-n<=a/\a<=n)/\(-n<=b/\b<=n):=by unfold inB2; simp[inB_iff]
theorem sg2_side {a b c d e f:Int} (h1:bdd a b=true) (h2:bdd c d=true) (h3:bdd e f=true):sg2 (W (c-a)) (W (f-b)) (W (d-b)) (W (e-a))=sgn (crs a b c d e f):=by
 have k1:=inB2_iff.1 h1
 have k2:=inB2_iff.1 h2
 have k3:=inB2_iff.1 h3
 rw[W_id (n:=c-a) (by omega) (by omega),W_id (n:=f-b) (by omega) (by omega),W_id (n:=d-b) (by omega) (by omega),W_id (n:=e-a) (by omega) (by omega)]
 exact sg2_eq (by omega) (by omega) (by omega) (by omega)
def cSide:List PV->Option PV
 | [.agg [.val (.int .i64 a),.val (.int .i64 b)],.agg [.val (.int .i64 c),.val (.int .i64 d)],.agg [.val (.int .i64 e),.val (.int .i64 f)]]=>some (iv (sd a b c d e f))
 | _=>none
theorem sd_tree (a b c d e f:Int):(bif !bdd a b then some (iv 0) else bif !bdd c d then some (iv 0) else bif !bdd e f then some (iv 0) else some (iv (sg2 (W (c-a)) (W (f-b)) (W (d-b)) (W (e-a)))))=some (iv (sd a b c d e f)):=by
 unfold sd
 cases h1:bdd a b
 ·rfl
 ·cases h2:bdd c d
  ·rfl
  ·cases h3:bdd e f
   ·rfl
   ·rw[sg2_side h1 h2 h3]; rfl
theorem oRSide (args:List PV) (r:PV) (h:cSide args=some r):Hx.Enters Tryz.prog 117/\Ak Tryz.prog 117 args r:=by
 unfold cSide at h; split at h
 ·cases h; refine Aa ok5 (n:=60) (Eq.trans ?_ (sd_tree _ _ _ _ _ _)); kernel_rfl
 ·cases h
def cCmpP:List PV->Option PV | [.agg [.val (.int .i64 a),.val (.int .i64 b)],.agg [.val (.int .i64 c),.val (.int .i64 d)]]=>some (iv (cmp2 a b c d)) | _=>none
def lessP (a b c d:Int):Bool:=decide (a<c)||(a==c)&&decide (b<d)
def cLess:List PV->Option PV | [.agg [.val (.int .i64 a),.val (.int .i64 b)],.agg [.val (.int .i64 c),.val (.int .i64 d)]]=>some (bv (lessP a b c d)) | _=>none
def E6:Ad:=E5 |>.addO 117 cSide
theorem ok6:Ab Tryz.prog E6.env:=(ok5).addO oRSide
theorem oLess (args:List PV) (r:PV) (h:cLess args=some r):Hx.Enters Tryz.prog 120/\Ak Tryz.prog 120 args r:=by
 unfold cLess at h; split at h
 ·rename_i a b c d; cases h
  have q:(bif decide (a<c) then some (bv true) else bif a==c then some (bv (decide (b<d))) else some (bv false))=some (bv (lessP a b c d)):=by
   unfold lessP
   cases decide (a<c) <;> cases a==c <;> rfl
  refine Aa ok6 (n:=60) (Eq.trans ?_ q); kernel_rfl
 ·cases h
def btwn (a c e:Int):Bool:=decide ((if c<a then c else a)<=e)&&decide (e<=(if c > a then c else a))
def onX (a b c d e f:Int):Bool:=bdd a b&&bdd c d&&bdd e f&&(btwn a c e&&btwn b d f&&(sd a b c d e f==0))
def cOn:List PV->Option PV
 | [.agg [.val (.int .i64 a),.val (.int .i64 b)],.agg [.val (.int .i64 c),.val (.int .i64 d)],.agg [.val (.int .i64 e),.val (.int .i64 f)]]=>some (bv (onX a b c d e f))
 | _=>none
theorem oROn (args:List PV) (r:PV) (h:cOn args=some r):Hx.Enters Tryz.prog 118/\Ak Tryz.prog 118 args r:=by
 unfold cOn at h; split at h
 ·rename_i a b c d e f; cases h
  have q:(bif !bdd a b then some (bv false) else bif !bdd c d then some (bv false) else bif !bdd e f then some (bv false) else
    bif decide ((if c<a then c else a)<=e) then bif decide (e<=(if c > a then c else a)) then bif decide ((if d<b then d else b)<=f) then bif decide (f<=(if d > b then d else b)) then some (bv (sd a b c d e f==0))
     else some (bv false) else some (bv false) else some (bv false) else some (bv false))=some (bv (onX a b c d e f)):=by
   unfold onX btwn
   cases bdd a b <;> cases bdd c d <;> cases bdd e f <;> cases decide ((if c<a then c else a)<=e) <;> cases decide (e<=(if c > a then c else a)) <;> cases decide ((if d<b then d else b)<=f) <;> cases decide (f<=(if d > b then d else b)) <;> rfl
  refine Aa ok6 (n:=60) (Eq.trans ?_ q); kernel_rfl
 ·cases h
def E7:Ad:=E6 |>.addO 120 cLess |>.addO 118 cOn
theorem ok7:Ab Tryz.prog E7.env:=((ok6).addO oLess).addO oROn
end Go.Hg
/- Geometry: contracts: two points sorted; the greater, the lesser. (printed by strip.py) -/
namespace Go.Hg
open Go.Hx Go.Proofs
def ifI (t:Bool) (x y:Int):Int:=bif t then x else y
def E8:Ad:=E7
theorem ok8:Ab Tryz.prog E8.env:=ok7
end Go.Hg
/- Geometry: Meet. (printed by strip.py) -/
namespace Go.Hg
open Go.Hx Go.Proofs
def cOrd:List PV->Option PV
 | [.agg [.val (.int .i64 a),.val (.int .i64 b)],.agg [.val (.int .i64 c),.val (.int .i64 d)]] =>
  some (.tup [ptv (ifI (lessP c d a b) c a) (ifI (lessP c d a b) d b),ptv (ifI (lessP c d a b) a c) (ifI (lessP c d a b) b d)])
 | _=>none
theorem oOrd (args:List PV) (r:PV) (h:cOrd args=some r):Hx.Enters Tryz.prog 119/\Ak Tryz.prog 119 args r:=by
 unfold cOrd at h; split at h
 ·rename_i a b c d; cases h
  have q:(bif lessP c d a b then some (.tup [ptv c d,ptv a b]) else some (.tup [ptv a b,ptv c d]))=some (PV.tup [ptv (ifI (lessP c d a b) c a) (ifI (lessP c d a b) d b),ptv (ifI (lessP c d a b) a c) (ifI (lessP c d a b) b d)]):=by cases lessP c d a b <;> rfl
  refine Aa ok8 (n:=60) (Eq.trans ?_ q); kernel_rfl
 ·cases h
def E9:Ad:=E8.addO 119 cOrd
theorem ok9:Ab Tryz.prog E9.env:=ok8.addO oOrd

theorem sgn_lt {n:Int}:sgn n<0 ↔ n<0:=by unfold sgn; (repeat' split) <;> omega
theorem sgn_gt {n:Int}:0<sgn n ↔ 0<n:=by unfold sgn; (repeat' split) <;> omega
theorem sgn_zero {n:Int}:sgn n=0 ↔ n=0:=by unfold sgn; (repeat' split) <;> omega
theorem cmp2_range (a b c d:Int):-1<=cmp2 a b c d/\cmp2 a b c d<=1:=by unfold cmp2; split <;> exact sgn_range _
theorem cmp2_lt_iff (a b c d:Int):cmp2 a b c d<0 ↔ a<c\/a=c/\b<d:=by
 unfold cmp2
 split
 ·rename_i h; have:=sgn_zero.1 h; rw[sgn_lt]; omega
 ·rename_i h; have:a-c ≠ 0:=fun e=>h (sgn_zero.2 e); rw[sgn_lt]; omega
theorem cmp2_gt_iff (a b c d:Int):0<cmp2 a b c d ↔ c<a\/c=a/\d<b:=by
 unfold cmp2
 split
 ·rename_i h; have:=sgn_zero.1 h; rw[sgn_gt]; omega
 ·rename_i h; have:a-c ≠ 0:=fun e=>h (sgn_zero.2 e); rw[sgn_gt]; omega
theorem lessP_iff {a b c d:Int}:lessP a b c d=true ↔ a<c\/a=c/\b<d:=by unfold lessP; simp
theorem sd_range (a b c d e f:Int):-1<=sd a b c d e f/\sd a b c d e f<=1:=by
 unfold sd
 cases bdd a b&&bdd c d&&bdd e f
 ·exact ⟨by simp,by simp⟩
 ·exact sgn_range _
def nfl (s1 s2 s3 s4:Int):Int:=bif decide (s1*s2 > 0)||decide (s3*s4 > 0) then 0 else 1
def fl (a b c d e f g h:Int):Int:=
 let lx:=ifI (lessP c d a b) c a; let ly:=ifI (lessP c d a b) d b; let hx:=ifI (lessP c d a b) a c; let hy:=ifI (lessP c d a b) b d
 let mx:=ifI (lessP g h e f) g e; let my:=ifI (lessP g h e f) h f; let nx:=ifI (lessP g h e f) e g; let ny:=ifI (lessP g h e f) f h
 1+cmp2 (ifI (lessP nx ny hx hy) nx hx) (ifI (lessP nx ny hx hy) ny hy) (ifI (lessP lx ly mx my) mx lx) (ifI (lessP lx ly mx my) my ly)
def mt (a b c d e f g h:Int):Int:=
 bif bdd a b&&bdd c d&&bdd e f&&bdd g h then
  bif (sd a b c d e f==0)&&(sd a b c d g h==0)&&(sd e f g h a b==0)&&(sd e f g h c d==0) then fl a b c d e f g h
  else nfl (sd a b c d e f) (sd a b c d g h) (sd e f g h a b) (sd e f g h c d)
 else 0
def cMeet:List PV->Option PV
 | [.agg [.val (.int .i64 a),.val (.int .i64 b)],.agg [.val (.int .i64 c),.val (.int .i64 d)],.agg [.val (.int .i64 e),.val (.int .i64 f)],.agg [.val (.int .i64 g),.val (.int .i64 h)]]=>some (iv (mt a b c d e f g h))
 | _=>none
theorem W_s {s t:Int} (hs:-1<=s/\s<=1) (ht:-1<=t/\t<=1):W (s*t)=s*t:=by
 have:s = -1\/s=0\/s=1:=by omega
 rcases this with e | e | e <;> rw[e] <;> exact W_id (by omega) (by omega)
end Go.Hg
/- Geometry: Meet of the reference; On. (printed by strip.py) -/
namespace Go.Hg
open Go.Hx Go.Proofs
def cmpT (tx ty fx fy:Int):Option PV:=bif lessP tx ty fx fy then some (iv 0) else bif (tx==fx)&&((ty==fy)&&true) then some (iv 1) else some (iv 2)
def nfT (s1 s2 s3 s4:Int) (eA eC oA oC:Bool):Option PV:=
 bif decide (W (s1*s2) > 0) then some (iv 0) else bif decide (W (s3*s4) > 0) then some (iv 0) else
 bif eA then bif !oA then some (iv 0) else bif eC then bif !oC then some (iv 0) else some (iv 1) else some (iv 1)
 else bif eC then bif !oC then some (iv 0) else some (iv 1) else some (iv 1)
def flT (a b c d e f g h:Int):Option PV:=
 let lx:=ifI (lessP c d a b) c a; let ly:=ifI (lessP c d a b) d b; let hx:=ifI (lessP c d a b) a c; let hy:=ifI (lessP c d a b) b d
 let mx:=ifI (lessP g h e f) g e; let my:=ifI (lessP g h e f) h f; let nx:=ifI (lessP g h e f) e g; let ny:=ifI (lessP g h e f) f h
 bif lessP lx ly mx my then bif lessP nx ny hx hy then cmpT nx ny mx my else cmpT hx hy mx my
 else bif lessP nx ny hx hy then cmpT nx ny lx ly else cmpT hx hy lx ly
def nfA (a b c d e f g h:Int):Option PV:=
 nfT (sd a b c d e f) (sd a b c d g h) (sd e f g h a b) (sd e f g h c d) ((a==c)&&((b==d)&&true)) ((e==g)&&((f==h)&&true)) (onX e f g h a b) (onX a b c d e f)
theorem qRMeet (a b c d e f g h:Int):Ah Tryz.prog E9 60 71 [ptv a b,ptv c d,ptv e f,ptv g h] =
  bif !bdd a b then some (iv 0) else bif !bdd c d then some (iv 0) else bif !bdd e f then some (iv 0) else bif !bdd g h then some (iv 0) else
  bif sd a b c d e f==0 then bif sd a b c d g h==0 then bif sd e f g h a b==0 then bif !(sd e f g h c d==0) then nfA a b c d e f g h else flT a b c d e f g h
  else nfA a b c d e f g h else nfA a b c d e f g h else nfA a b c d e f g h:=by kernel_rfl
theorem cmpT_eq (tx ty fx fy:Int):cmpT tx ty fx fy=some (iv (1+cmp2 tx ty fx fy)):=by
 unfold cmpT
 have h1:=cmp2_lt_iff tx ty fx fy
 have h2:=cmp2_gt_iff tx ty fx fy
 have h3:=cmp2_range tx ty fx fy
 cases hl:lessP tx ty fx fy with
 | true =>
  have:=h1.2 (lessP_iff.1 hl)
  rw[show cmp2 tx ty fx fy = -1 by omega]; rfl
 | false =>
  have hn:¬ (tx<fx\/tx=fx/\ty<fy):=fun h=>by rw[lessP_iff.2 h] at hl; cases hl
  by_cases he:tx=fx/\ty=fy
  ·obtain ⟨rfl,rfl⟩:=he
   rw[show cmp2 tx ty tx ty=0 by omega]
   simp
  ·have hc:((tx==fx)&&((ty==fy)&&true))=false:=by
    rw[Bool.and_true,Bool.and_eq_false_iff]
    by_cases hx:tx=fx
    ·exact .inr (by simp; exact fun hy=>he ⟨hx,hy⟩)
    ·exact .inl (by simpa using hx)
   rw[hc,show cmp2 tx ty fx fy=1 by omega]; rfl
theorem flT_eq (a b c d e f g h:Int):flT a b c d e f g h=some (iv (fl a b c d e f g h)):=by
 unfold flT fl
 simp only[cmpT_eq]
 cases lessP (ifI (lessP c d a b) c a) (ifI (lessP c d a b) d b) (ifI (lessP g h e f) g e) (ifI (lessP g h e f) h f) <;>
  cases lessP (ifI (lessP g h e f) e g) (ifI (lessP g h e f) f h) (ifI (lessP c d a b) a c) (ifI (lessP c d a b) b d) <;> rfl
theorem sd_same (a b e f:Int):sd a b a b e f=0:=by
 unfold sd
 rw[show crs a b a b e f=0 by unfold crs; rw[Int.sub_self,Int.sub_self,Int.zero_mul,Int.zero_mul]; rfl]
 cases bdd a b&&bdd a b&&bdd e f <;> rfl
theorem nfA_eq {a b c d e f g h:Int} (hn:¬ (sd a b c d e f=0/\sd a b c d g h=0/\sd e f g h a b=0/\sd e f g h c d=0)):
  nfA a b c d e f g h=some (iv (nfl (sd a b c d e f) (sd a b c d g h) (sd e f g h a b) (sd e f g h c d))):=by
 have r1:=sd_range a b c d e f
 have r2:=sd_range a b c d g h
 have r3:=sd_range e f g h a b
 have r4:=sd_range e f g h c d
 have hA:a=c/\b=d->sd a b c d e f=0/\sd a b c d g h=0/\sd e f g h a b=sd e f g h c d:=by
  rintro ⟨rfl,rfl⟩; exact ⟨sd_same _ _ _ _,sd_same _ _ _ _,rfl⟩
 have hC:e=g/\f=h->sd e f g h a b=0/\sd e f g h c d=0/\sd a b c d e f=sd a b c d g h:=by
  rintro ⟨rfl,rfl⟩; exact ⟨sd_same _ _ _ _,sd_same _ _ _ _,rfl⟩
 unfold nfA nfT nfl
 rw[W_s r1 r2,W_s r3 r4]
 generalize sd a b c d e f=s1 at *
 generalize sd a b c d g h=s2 at *
 generalize sd e f g h a b=s3 at *
 generalize sd e f g h c d=s4 at *
 have sq:∀ s:Int,-1<=s/\s<=1->s ≠ 0->s*s > 0:=fun s h1 h2=>by
  have:s = -1\/s=1:=by omega
  rcases this with e | e <;> rw[e] <;> decide
 by_cases p1:s1*s2 > 0
 ·rw[decide_eq_true p1]; rfl
 ·rw[decide_eq_false p1]
  by_cases p2:s3*s4 > 0
  ·rw[decide_eq_true p2]; rfl
  ·rw[decide_eq_false p2]
   have eA:((a==c)&&((b==d)&&true))=false:=by
    cases hh:((a==c)&&((b==d)&&true)) with
    | false=>rfl
    | true =>
     exfalso
     simp only[Bool.and_true,Bool.and_eq_true,beq_iff_eq] at hh
     obtain ⟨k1,k2,k3⟩:=hA hh
     have:s4 ≠ 0:=fun e=>hn ⟨k1,k2,k3.trans e,e⟩
     exact p2 (by rw[k3]; exact sq s4 r4 this)
   have eC:((e==g)&&((f==h)&&true))=false:=by
    cases hh:((e==g)&&((f==h)&&true)) with
    | false=>rfl
    | true =>
     exfalso
     simp only[Bool.and_true,Bool.and_eq_true,beq_iff_eq] at hh
     obtain ⟨k1,k2,k3⟩:=hC hh
     have:s2 ≠ 0:=fun e=>hn ⟨k3.trans e,e,k1,k2⟩
     exact p1 (by rw[k3]; exact sq s2 r2 this)
   rw[eA,eC]; rfl
theorem oRMeet (args:List PV) (r:PV) (h:cMeet args=some r):Hx.Enters Tryz.prog 71/\Ak Tryz.prog 71 args r:=by
 unfold cMeet at h; split at h
 ·rename_i a b c d e f g h'; cases h
  refine Aa ok9 (n:=60) ?_
  rw[qRMeet,flT_eq]
  unfold mt
  cases hb:bdd a b&&bdd c d&&bdd e f&&bdd g h' with
  | false =>
   revert hb
   cases bdd a b <;> cases bdd c d <;> cases bdd e f <;> cases bdd g h' <;> intro hb <;> first | rfl | cases hb
  | true =>
   simp only[Bool.and_eq_true] at hb
   obtain ⟨⟨⟨b1,b2⟩,b3⟩,b4⟩:=hb
   rw[b1,b2,b3,b4]
   by_cases hz:sd a b c d e f=0/\sd a b c d g h'=0/\sd e f g h' a b=0/\sd e f g h' c d=0
   ·obtain ⟨z1,z2,z3,z4⟩:=hz
    rw[z1,z2,z3,z4]; rfl
   ·rw[nfA_eq hz]
    by_cases z1:sd a b c d e f=0
    ·by_cases z2:sd a b c d g h'=0
     ·by_cases z3:sd e f g h' a b=0
      ·have z4:sd e f g h' c d ≠ 0:=fun z4=>hz ⟨z1,z2,z3,z4⟩
       rw[show (sd e f g h' c d==0)=false by simpa using z4,z1,z2,z3]; rfl
      ·rw[show (sd e f g h' a b==0)=false by simpa using z3,z1,z2]; rfl
     ·rw[show (sd a b c d g h'==0)=false by simpa using z2,z1]; rfl
    ·rw[show (sd a b c d e f==0)=false by simpa using z1]; rfl
 ·cases h
def E10:Ad:=E9 |>.addO 71 cMeet
theorem ok10:Ab Tryz.prog E10.env:=(ok9).addO oRMeet
def E11:Ad:=E10
theorem ok11:Ab Tryz.prog E11.env:=ok10
end Go.Hg
/- Geometry: contracts: Mod, Turn. (printed by strip.py) -/
namespace Go.Hg
open Go.Hx Go.Proofs
def dMod:List PV->Option (DT PV) | [.val (.int .i64 n),.val (.int .i64 m)]=>some (.br (decide (0<m)&&decide (m<=4611686018427387904)) (.leaf (iv (n % m))) .no) | _=>none
theorem qMod (n m:Int):Ah Tryz.prog {} 60 91 [iv n,iv m]=bif !decide (m=0) then (bif !decide (m=0) then some (iv (Int.tmod (W (Int.tmod n m+m)) m)) else none) else none:=by kernel_rfl
theorem mod_math {n m:Int} (h0:0<m) (h1:m<=4611686018427387904):Int.tmod (W (Int.tmod n m+m)) m=n % m:=by
 have hb:=Int.lt_tmod_of_pos n h0
 have hb2:=Int.tmod_lt_of_pos n h0
 rw[W_id (by omega) (by omega),Int.tmod_eq_emod_of_nonneg (by omega),Int.add_emod_right]
 rcases Int.le_total 0 n with hn | hn
 ·rw[Int.tmod_eq_emod_of_nonneg hn,Int.emod_emod]
 ·rw[Int.tmod_def,Int.sub_emod,Int.mul_emod_right]; simp
theorem eMod:Hx.Enters Tryz.prog 91:=(Aa Af (n:=60) (args:=[iv 0,iv 1]) (p:=iv 0) (by kernel_rfl)).1
theorem oMod (args:List PV) (d:DT PV) (r:PV) (h:dMod args=some d) (hd:d.run=some r):Ak Tryz.prog 91 args r:=by
 unfold dMod at h; split at h
 ·rename_i n m
  cases h
  simp only[DT.run] at hd
  by_cases h0:0<m
  ·by_cases h1:m<=4611686018427387904
   ·simp only[h0,h1,decide_true,Bool.and_true,cond_true] at hd
    cases hd
    refine (Aa Af (n:=60) ?_).2
    rw[qMod]
    have hm:decide (m=0)=false:=by simp; omega
    rw[hm,mod_math h0 h1]; rfl
   ·simp[h1] at hd
  ·simp[h0] at hd
 ·cases h
def m4 (r:Int):List PV->Option (DT PV) | [.val (.int .i64 n),.val (.int .i64 4)]=>some (.br (decide (n % 4=r)) (.leaf (iv r)) .no) | _=>none
def E12:Ad:=E11 |>.Ag 91 dMod
theorem ok12:Ab Tryz.prog E12.env:=(ok11).Ag eMod oMod
end Go.Hg
/- Geometry (network): the environment of points, with line.segments. (printed by strip.py) -/
namespace Go.Hg
open Go.Hx Go.Proofs
noncomputable def E32:Ad:=E12
theorem ok32:Ab Tryz.prog E32.env:=ok12
end Go.Hg
/- Geometry: lists of any length: all points right; closed. (printed by strip.py) -/
namespace Go.Hg
open Go.Hx Go.Proofs
def qX (es:List PV) (i:Int):Int:=((es.getD i.toNat .any).cellAt 0).getI
def qY (es:List PV) (i:Int):Int:=((es.getD i.toNat .any).cellAt 1).getI
def inr (es:List PV) (i:Int):Bool:=decide (0<=i)&&decide (i<(es.length:Int))
theorem Am {es:List PV} {i:Int} (h1:0<=i) (h2:i<(es.length:Int)):inr es i=true:=by unfold inr; simp; omega
def allR (es:List PV) (i:Int):Nat->Bool
 | 0=>true
 | n+1=>right (qX es i) (qY es i)&&allR es (i+1) n
abbrev big (es:List PV):Bool:=decide (es.length<=1000000)
def shF:S1:=⟨18,[(0,.Ac 37),(3,I64)],[]⟩
abbrev tF0 (f:Bool) (es:List PV):List PV:=tm 18 [(0,.Ac f 37 es)]
abbrev tF1 (f:Bool) (es:List PV):List PV:=tm 18 [(0,.Ac f 37 es),(2,bv false)]
theorem qF (f:Bool) (es:List PV) (i:Int):Al Tryz.prog E32 60 100 (Ao Tryz.f100 2) [0,3] [0,2] (shF.put ([.l f es,.i i],[])).1 (shF.put ([.l f es,.i i],[])).2 =
 bif decide (i<(es.length:Int)) then bif inr es i then bif !right (qX es i) (qY es i) then some (.ret,tF1 f es,[]) else some (.normal,shF.put ([.l f es,.i (W (i+1))],[])) else none
  else some (.exit 0,tF0 f es,[]):=by kernel_rfl
def pF:LS->Bool
 | ([.l _ es,.i i],[])=>decide (0<=i)&&decide (i<=(es.length:Int))&&big es
 | _=>false
def fF:LS->DT (PX × List PV × List Row)
 | ([.l f es,.i i],[])=>.br (allR es i ((es.length:Int)-i).toNat) (.leaf (.exit 0,tF0 f es,[])) (.leaf (.ret,tF1 f es,[]))
 | _=>.no
def mF:LS->Nat
 | ([.l _ es,.i i],[])=>((es.length:Int)-i).toNat
 | _=>0
theorem run_br2 {α:Type} {b:Bool} {a c r:α} (h:(DT.br b (.leaf a) (.leaf c)).run=some r):r=bif b then a else c:=by
 cases b <;> exact (Option.some.inj h).symm
theorem sF:∀ s r,pF s=true->(fF s).run=some r->r.1 ≠ .normal/\(Al Tryz.prog E32 60 100 (Ao Tryz.f100 2) [0,3] [0,2] (shF.put s).1 (shF.put s).2=some r \/
   ∃ s',Al Tryz.prog E32 60 100 (Ao Tryz.f100 2) [0,3] [0,2] (shF.put s).1 (shF.put s).2=some (.normal,shF.put s')/\pF s'=true/\mF s'<mF s/\(fF s').run=some r):=by
 intro s r hp hr
 unfold pF at hp; split at hp
 ·rename_i f es i
  simp only[Bool.and_eq_true,decide_eq_true_eq] at hp
  obtain ⟨⟨h1,h2⟩,h3⟩:=hp
  have hr':=run_br2 hr
  refine ⟨by rw[hr']; cases allR es i ((es.length:Int)-i).toNat <;> simp,?_⟩
  rw[qF]
  by_cases hi:i<(es.length:Int)
  ·rw[decide_eq_true hi,cond_true,Am h1 hi,cond_true]
   obtain ⟨n,hn⟩:∃ n,((es.length:Int)-i).toNat=n+1:=⟨((es.length:Int)-i).toNat-1,by omega⟩
   rw[hn] at hr'
   simp only[allR] at hr'
   cases hR:right (qX es i) (qY es i) with
   | false=>rw[hR] at hr'; exact .inl (by rw[hr']; rfl)
   | true =>
    rw[hR] at hr'
    refine .inr ⟨([.l f es,.i (i+1)],[]),by rw[W_id (by omega) (by omega)]; rfl,by simp[pF]; omega,by simp only[mF]; omega,?_⟩
    rw[hr']
    simp only[fF]
    rw[show ((es.length:Int)-(i+1)).toNat=n by omega]
    cases allR es (i+1) n <;> rfl
  ·rw[decide_eq_false hi]
   rw[show ((es.length:Int)-i).toNat=0 by omega] at hr'
   exact .inl (by rw[hr']; rfl)
 ·cases hp
noncomputable def E33a:Ad:=E32.addW 100 2 [0,3] [] shF pF fF
theorem ok33a:Ab Tryz.prog E33a.env:=
 ok32.addW (n:=60) Tryz.func100 (show Tryz.f100.body=some (bod Tryz.f100) by kernel_rfl) (show (loops (bod Tryz.f100)).filter (fun b=>rid b==2)=[Ao Tryz.f100 2] by kernel_rfl) [0,3] [0,2] [] shF mF sF
theorem qFine (f:Bool) (es:List PV):Ah Tryz.prog E33a 60 100 [.Ac f 37 es] =
 bif decide (0<=(0:Int))&&decide ((0:Int)<=(es.length:Int))&&big es then bif allR es 0 ((es.length:Int)-0).toNat then some (bv true) else some (bv false) else none:=by kernel_rfl
def fin (es:List PV):Bool:=allR es 0 es.length
def cFine:List PV->Option (DT PV) | [.Ac _ 37 es]=>some (.br (big es) (.leaf (bv (fin es))) .no) | _=>none
theorem qFine' (f:Bool) (es:List PV) (h:big es=true):Ah Tryz.prog E33a 60 100 [.Ac f 37 es]=some (bv (fin es)):=by
 rw[qFine,h]
 rw[show ((es.length:Int)-0).toNat=es.length by omega]
 unfold fin
 simp only[Int.natCast_nonneg,decide_true,Bool.and_true,Int.le_refl,cond_true]
 cases allR es 0 es.length <;> rfl
theorem eFine:Hx.Enters Tryz.prog 100:=(Aa ok33a (qFine' true [] rfl)).1
theorem oFine (args:List PV) (d:DT PV) (r:PV) (h:cFine args=some d) (hr:d.run=some r):Ak Tryz.prog 100 args r:=by
 unfold cFine at h; split at h
 ·rename_i f es; cases h; obtain ⟨h1,rfl⟩:=Aq hr; exact (Aa ok33a (qFine' f es h1)).2
 ·cases h
def cls (es:List PV):Bool:=decide ((es.length:Int) ≥ 4)&&((qX es 0==qX es ((es.length:Int)-1))&&((qY es 0==qY es ((es.length:Int)-1))&&true))
def clsT (es:List PV) (c:Bool):Option PV:=bif c then bif inr es 0 then bif inr es (W ((es.length:Int)-1)) then some (bv ((qX es 0==qX es (W ((es.length:Int)-1)))&&((qY es 0==qY es (W ((es.length:Int)-1)))&&true))) else none else none else some (bv false)
theorem qRCls (f:Bool) (es:List PV):Ah Tryz.prog E32 60 101 [.Ac f 37 es]=clsT es (decide ((es.length:Int) ≥ 4)):=by kernel_rfl
theorem clsT_eq (es:List PV) (h:big es=true):clsT es (decide ((es.length:Int) ≥ 4))=some (bv (cls es)):=by
 simp only[decide_eq_true_eq] at h
 unfold clsT cls
 by_cases h4:(es.length:Int) ≥ 4
 ·rw[decide_eq_true h4,Am (by omega) (by omega),W_id (by omega) (by omega),Am (by omega) (by omega)]; rfl
 ·rw[decide_eq_false h4]; rfl
def cCls:List PV->Option (DT PV) | [.Ac _ 37 es]=>some (.br (big es) (.leaf (bv (cls es))) .no) | _=>none
theorem eRCls:Hx.Enters Tryz.prog 101:=(Aa ok32 ((qRCls true []).trans (clsT_eq [] rfl))).1
theorem oRCls (args:List PV) (d:DT PV) (r:PV) (h:cCls args=some d) (hr:d.run=some r):Ak Tryz.prog 101 args r:=by
 unfold cCls at h; split at h
 ·rename_i f es; cases h; obtain ⟨h1,rfl⟩:=Aq hr; exact (Aa ok32 ((qRCls f es).trans (clsT_eq es h1))).2
 ·cases h
noncomputable def E33b:Ad:=E32 |>.Ag 100 cFine |>.Ag 101 cCls
theorem ok33b:Ab Tryz.prog E33b.env:=((ok32).Ag eFine oFine).Ag eRCls oRCls
end Go.Hg
/- Geometry: line.right; the reference's Check of a line. (printed by strip.py) -/
namespace Go.Hg
open Go.Hx Go.Proofs
def fstW (es:List PV) (i:Int):Nat->Int
 | 0=>i
 | n+1=>bif right (qX es i) (qY es i) then fstW es (i+1) n else i
def pI:LS->Bool
 | ([.l _ es,.i l,.i i],[])=>decide (0<=i)&&decide (i<=(es.length:Int))&&decide (l=(es.length:Int))&&big es
 | _=>false
def fI:LS->DT (PX × List PV × List Row)
 | ([.l _ es,.i _,.i i],[])=>.br (allR es i ((es.length:Int)-i).toNat) (.leaf (.exit 0,tm 19 [],[])) (.leaf (.ret,tm 19 [(4,iv (fstW es i ((es.length:Int)-i).toNat))],[]))
 | _=>.no
noncomputable def E33:Ad:=E33b
theorem ok33:Ab Tryz.prog E33.env:=ok33b
def mq (es:List PV) (k i:Int):Int:=mt (qX es k) (qY es k) (qX es (k+1)) (qY es (k+1)) (qX es i) (qY es i) (qX es (i+1)) (qY es (i+1))
def mqW (es:List PV) (k i:Int):Int:=mt (qX es k) (qY es k) (qX es (W (k+1))) (qY es (W (k+1))) (qX es i) (qY es i) (qX es (W (i+1))) (qY es (W (i+1)))
def want (es:List PV) (la i k:Int):Int:=bif k+1==i then 1 else bif cls es&&(k==0)&&(i==la) then 1 else 0
def allP (es:List PV) (la i k:Int):Nat->Bool
 | 0=>true
 | n+1=>(mq es k i==want es la i k)&&allP es la i (k+1) n
def eqq (es:List PV) (i j:Int):Bool:=(qX es i==qX es j)&&((qY es i==qY es j)&&true)
def allI (es:List PV) (la i:Int):Nat->Bool
 | 0=>true
 | n+1 => !eqq es i (i+1)&&(allP es la i 0 i.toNat&&allI es la (i+1) n)
def shK:S1:=⟨79,[(0,.Ac 37),(3,I64),(4,I64),(5,I64)],[]⟩
abbrev tK0 (f:Bool) (es:List PV) (la i:Int):List PV:=tm 79 [(0,.Ac f 37 es),(3,iv la),(4,iv i)]
abbrev tK1 (f:Bool) (es:List PV) (la i:Int):List PV:=tm 79 [(0,.Ac f 37 es),(2,iv 11),(3,iv la),(4,iv i)]
def pairT2 (f:Bool) (es:List PV) (la i k w:Int):Option (PX × List PV × List Row):=
 bif inr es k then bif inr es (W (k+1)) then bif inr es i then bif inr es (W (i+1)) then
  bif mqW es k i != w then some (.ret,tK1 f es la i,[]) else some (.normal,shK.put ([.l f es,.i la,.i i,.i (W (k+1))],[])) else none else none else none else none
theorem qK (f:Bool) (es:List PV) (la i k:Int):Al Tryz.prog E33 60 56 (Ao Tryz.f56 12) [0,3,4,5] [0,2,3,4] (shK.put ([.l f es,.i la,.i i,.i k],[])).1 (shK.put ([.l f es,.i la,.i i,.i k],[])).2 =
 bif decide (k<i) then bif W (k+1)==i then pairT2 f es la i k 1 else
  bif big es then bif cls es then bif k==0 then bif i==la then pairT2 f es la i k 1 else pairT2 f es la i k 0 else pairT2 f es la i k 0 else pairT2 f es la i k 0 else none
 else some (.exit 2,tK0 f es la i,[]):=by kernel_rfl
end Go.Hg
/- Geometry: the reference's Check of a line, of any length. -/
namespace Go.Hg
open Go.Hx Go.Proofs
def pK:LS->Bool
 | ([.l _ es,.i la,.i i,.i k],[])=>decide (0<=k)&&decide (k<=i)&&decide (i<=la)&&decide (la+2=(es.length:Int))&&big es
 | _=>false
def fK:LS->DT (PX × List PV × List Row)
 | ([.l f es,.i la,.i i,.i k],[])=>.br (allP es la i k (i-k).toNat) (.leaf (.exit 2,tK0 f es la i,[])) (.leaf (.ret,tK1 f es la i,[]))
 | _=>.no
def mK:LS->Nat
 | ([.l _ _,.i _,.i i,.i k],[])=>(i-k).toNat
 | _=>0
theorem pairT2_eq {f:Bool} {es:List PV} {la i k:Int} (w:Int) (h0:0<=k) (h1:k<i) (h2:i<=la) (h3:la+2=(es.length:Int)) (hb:es.length<=1000000):
  pairT2 f es la i k w=bif mq es k i==w then some (.normal,shK.put ([.l f es,.i la,.i i,.i (k+1)],[])) else some (.ret,tK1 f es la i,[]):=by
 unfold pairT2 mqW
 rw[W_id (n:=k+1) (by omega) (by omega),W_id (n:=i+1) (by omega) (by omega),Am (by omega) (by omega),Am (by omega) (by omega),Am (by omega) (by omega),Am (by omega) (by omega)]
 show (bif mq es k i != w then _ else _)=_
 unfold bne
 cases mq es k i==w <;> rfl
theorem sK:∀ s r,pK s=true->(fK s).run=some r->r.1 ≠ .normal/\(Al Tryz.prog E33 60 56 (Ao Tryz.f56 12) [0,3,4,5] [0,2,3,4] (shK.put s).1 (shK.put s).2=some r \/
   ∃ s',Al Tryz.prog E33 60 56 (Ao Tryz.f56 12) [0,3,4,5] [0,2,3,4] (shK.put s).1 (shK.put s).2=some (.normal,shK.put s')/\pK s'=true/\mK s'<mK s/\(fK s').run=some r):=by
 intro s r hp hr
 unfold pK at hp; split at hp
 ·rename_i f es la i k
  simp only[Bool.and_eq_true,decide_eq_true_eq] at hp
  obtain ⟨⟨⟨⟨h1,h2⟩,h3⟩,h4⟩,h5⟩:=hp
  have hr':=run_br2 hr
  refine ⟨by rw[hr']; cases allP es la i k (i-k).toNat <;> simp,?_⟩
  rw[qK]
  by_cases hi:k<i
  ·rw[decide_eq_true hi,cond_true,W_id (n:=k+1) (by omega) (by omega),show big es=true by simp[big]; omega,cond_true]
   rw[pairT2_eq 1 h1 hi h3 h4 h5,pairT2_eq 0 h1 hi h3 h4 h5]
   obtain ⟨n,hn⟩:∃ n,(i-k).toNat=n+1:=⟨(i-k).toNat-1,by omega⟩
   rw[hn] at hr'
   simp only[allP] at hr'
   have key:(bif k+1==i then (bif mq es k i==1 then some (PX.normal,shK.put ([.l f es,.i la,.i i,.i (k+1)],[])) else some (PX.ret,tK1 f es la i,[])) else bif cls es then bif k==0 then bif i==la then (bif mq es k i==1 then some (PX.normal,shK.put ([.l f es,.i la,.i i,.i (k+1)],[])) else some (PX.ret,tK1 f es la i,[])) else (bif mq es k i==0 then some (PX.normal,shK.put ([.l f es,.i la,.i i,.i (k+1)],[])) else some (PX.ret,tK1 f es la i,[])) else (bif mq es k i==0 then some (PX.normal,shK.put ([.l f es,.i la,.i i,.i (k+1)],[])) else some (PX.ret,tK1 f es la i,[])) else (bif mq es k i==0 then some (PX.normal,shK.put ([.l f es,.i la,.i i,.i (k+1)],[])) else some (PX.ret,tK1 f es la i,[])))
     = bif mq es k i==want es la i k then some (PX.normal,shK.put ([.l f es,.i la,.i i,.i (k+1)],[])) else some (PX.ret,tK1 f es la i,[]):=by
    unfold want
    cases k+1==i <;> cases cls es <;> cases k==0 <;> cases i==la <;> rfl
   rw[key]
   cases hR:mq es k i==want es la i k with
   | false=>rw[hR] at hr'; exact .inl (by rw[hr']; rfl)
   | true =>
    rw[hR] at hr'
    refine .inr ⟨([.l f es,.i la,.i i,.i (k+1)],[]),rfl,by simp[pK]; omega,by simp only[mK]; omega,?_⟩
    rw[hr']
    simp only[fK]
    rw[show (i-(k+1)).toNat=n by omega]
    cases allP es la i (k+1) n <;> rfl
  ·rw[decide_eq_false hi]
   rw[show (i-k).toNat=0 by omega] at hr'
   exact .inl (by rw[hr']; rfl)
 ·cases hp
noncomputable def E33k:Ad:=E33.addW 56 12 [0,3,4,5] [] shK pK fK
theorem ok33k:Ab Tryz.prog E33k.env:=
 ok33.addW (n:=60) Tryz.func56 (show Tryz.f56.body=some (bod Tryz.f56) by kernel_rfl) (show (loops (bod Tryz.f56)).filter (fun b=>rid b==12)=[Ao Tryz.f56 12] by kernel_rfl) [0,3,4,5] [0,2,3,4] [] shK mK sK
def shJ:S1:=⟨79,[(0,.Ac 37),(3,I64),(4,I64)],[]⟩
abbrev tJ0 (f:Bool) (es:List PV) (la:Int):List PV:=tm 79 [(0,.Ac f 37 es),(3,iv la)]
abbrev tJ1 (f:Bool) (es:List PV) (la:Int):List PV:=tm 79 [(0,.Ac f 37 es),(2,iv 11),(3,iv la)]
def eqqW (es:List PV) (i:Int):Bool:=(qX es i==qX es (W (i+1)))&&((qY es i==qY es (W (i+1)))&&true)
theorem qJ (f:Bool) (es:List PV) (la i:Int):Al Tryz.prog E33k 60 56 (Ao Tryz.f56 7) [0,3,4] [0,2,3] (shJ.put ([.l f es,.i la,.i i],[])).1 (shJ.put ([.l f es,.i la,.i i],[])).2 =
 bif decide (i<=la) then bif inr es i then bif inr es (W (i+1)) then
  bif eqqW es i then some (.ret,tJ1 f es la,[])
  else bif pK ([.l f es,.i la,.i i,.i 0],[]) then bif allP es la i 0 (i-0).toNat then some (.normal,shJ.put ([.l f es,.i la,.i (W (i+1))],[])) else some (.ret,tJ1 f es la,[]) else none
  else none else none
 else some (.exit 0,tJ0 f es la,[]):=by kernel_rfl
def pJ:LS->Bool
 | ([.l _ es,.i la,.i i],[])=>decide (0<=i)&&decide (i<=la+1)&&decide (la+2=(es.length:Int))&&big es
 | _=>false
def fJ:LS->DT (PX × List PV × List Row)
 | ([.l f es,.i la,.i i],[])=>.br (allI es la i (la+1-i).toNat) (.leaf (.exit 0,tJ0 f es la,[])) (.leaf (.ret,tJ1 f es la,[]))
 | _=>.no
def mJ:LS->Nat
 | ([.l _ _,.i la,.i i],[])=>(la+1-i).toNat
 | _=>0
theorem sJ:∀ s r,pJ s=true->(fJ s).run=some r->r.1 ≠ .normal/\(Al Tryz.prog E33k 60 56 (Ao Tryz.f56 7) [0,3,4] [0,2,3] (shJ.put s).1 (shJ.put s).2=some r \/
   ∃ s',Al Tryz.prog E33k 60 56 (Ao Tryz.f56 7) [0,3,4] [0,2,3] (shJ.put s).1 (shJ.put s).2=some (.normal,shJ.put s')/\pJ s'=true/\mJ s'<mJ s/\(fJ s').run=some r):=by
 intro s r hp hr
 unfold pJ at hp; split at hp
 ·rename_i f es la i
  simp only[Bool.and_eq_true,decide_eq_true_eq] at hp
  obtain ⟨⟨⟨h1,h2⟩,h4⟩,h5⟩:=hp
  have hr':=run_br2 hr
  refine ⟨by rw[hr']; cases allI es la i (la+1-i).toNat <;> simp,?_⟩
  rw[qJ]
  by_cases hi:i<=la
  ·have hw:=W_id (n:=i+1) (by omega) (by omega)
   have he:eqqW es i=eqq es i (i+1):=by unfold eqqW eqq; rw[hw]
   rw[decide_eq_true hi,cond_true,hw,Am (by omega) (by omega),Am (by omega) (by omega),he,show pK ([.l f es,.i la,.i i,.i 0],[])=true by simp[pK]; omega]
   obtain ⟨n,hn⟩:∃ n,(la+1-i).toNat=n+1:=⟨(la+1-i).toNat-1,by omega⟩
   rw[hn] at hr'
   simp only[allI] at hr'
   simp only[cond_true,Int.sub_zero]
   cases hE:eqq es i (i+1) with
   | true=>rw[hE] at hr'; exact .inl (by rw[hr']; rfl)
   | false =>
    rw[hE] at hr'
    cases hR:allP es la i 0 i.toNat with
    | false=>rw[hR] at hr'; exact .inl (by rw[hr']; rfl)
    | true =>
     rw[hR] at hr'
     refine .inr ⟨([.l f es,.i la,.i (i+1)],[]),rfl,by simp[pJ]; omega,by simp only[mJ]; omega,?_⟩
     rw[hr']
     simp only[fJ]
     rw[show (la+1-(i+1)).toNat=n by omega]
     cases allI es la (i+1) n <;> rfl
  ·rw[decide_eq_false hi]
   rw[show (la+1-i).toNat=0 by omega] at hr'
   exact .inl (by rw[hr']; rfl)
 ·cases hp
noncomputable def E33j:Ad:=E33k.addW 56 7 [0,3,4] [] shJ pJ fJ
theorem ok33j:Ab Tryz.prog E33j.env:=
 ok33k.addW (n:=60) Tryz.func56 (show Tryz.f56.body=some (bod Tryz.f56) by kernel_rfl) (show (loops (bod Tryz.f56)).filter (fun b=>rid b==7)=[Ao Tryz.f56 7] by kernel_rfl) [0,3,4] [0,2,3] [] shJ mJ sJ
def chk (es:List PV):Int:=bif decide ((es.length:Int)<2)||decide ((es.length:Int) > 40) then 2 else bif fin es then bif allI es ((es.length:Int)-2) 0 (es.length-1) then 0 else 11 else 10
def chkR (es:List PV):Option PV:=bif big es then bif !fin es then some (iv 10) else bif pJ ([.l true es,.i (W ((es.length:Int)-2)),.i 0],[]) then bif allI es (W ((es.length:Int)-2)) 0 (W ((es.length:Int)-2)+1-0).toNat then some (iv 0) else some (iv 11) else none else none
theorem qRChk (f:Bool) (es:List PV):Ah Tryz.prog E33j 60 56 [.Ac f 37 es] =
 bif decide ((es.length:Int)<2) then some (iv 2) else bif decide ((es.length:Int) > 40) then some (iv 2) else chkR es:=by kernel_rfl
theorem chk_tree (es:List PV):(bif decide ((es.length:Int)<2) then some (iv 2) else bif decide ((es.length:Int) > 40) then some (iv 2) else chkR es)=some (iv (chk es)):=by
 unfold chk
 by_cases h1:(es.length:Int)<2
 ·rw[decide_eq_true h1]; rfl
 ·by_cases h2:(es.length:Int) > 40
  ·rw[decide_eq_false h1,decide_eq_true h2]; rfl
  ·rw[decide_eq_false h1,decide_eq_false h2]
   have hw:=W_id (n:=(es.length:Int)-2) (by omega) (by omega)
   unfold chkR
   rw[hw,show big es=true by simp[big]; omega,show pJ ([.l true es,.i ((es.length:Int)-2),.i 0],[])=true by simp[pJ]; omega,show ((es.length:Int)-2+1-0).toNat=es.length-1 by omega]
   cases fin es <;> cases allI es ((es.length:Int)-2) 0 (es.length-1) <;> rfl
def cChk:List PV->Option PV | [.Ac _ 37 es]=>some (iv (chk es)) | _=>none
theorem oRChk (args:List PV) (r:PV) (h:cChk args=some r):Hx.Enters Tryz.prog 56/\Ak Tryz.prog 56 args r:=by
 unfold cChk at h; split at h
 ·rename_i f es; cases h; exact Aa ok33j ((qRChk f es).trans (chk_tree es))
 ·cases h
end Go.Hg
/- Geometry: line.Check of any length: its inner loop. (printed by strip.py) -/
namespace Go.Hg
open Go.Hx Go.Proofs
noncomputable def E34:Ad:=E33 |>.addO 56 cChk
theorem ok34:Ab Tryz.prog E34.env:=(ok33).addO oRChk
abbrev lC (f:Bool) (es:List PV) (er cl:Int) (f3:Bool) (es3:List PV) (r4:Row) (i a b c d:Int) (f2:Bool) (es2:List PV) (r8:Row) (k:Int):LS:=([.i k],[.l f es,.i er,.i cl,.l f3 es3,.r r4,.i i,.i a,.i b,.i c,.i d,.l f2 es2,.r r8])
end Go.Hg
/- Geometry: line.Check of any length. (printed by strip.py) -/
namespace Go.Hg
open Go.Hx Go.Proofs
def mC:LS->Nat
 | ([.i k],[.l _ _,.i _,.i _,.l _ _,.r _,.i _,.i _,.i _,.i _,.i _,.l _ es2,.r _])=>((es2.length:Int)-(k+1)).toNat
 | _=>0
def shD:S1:=⟨25,[(0,.yld 4),(1,.ptr 3 1 0 0),(3,I64)],[.one 42 1 (.Ac 37),.one 31 1 I64,.one 3 1 I64,.one 42 1 (.Ac 37),.raw]⟩
abbrev lD (f:Bool) (es:List PV) (er cl:Int) (f3:Bool) (es3:List PV) (r4:Row) (i:Int):LS:=([.i i],[.l f es,.i er,.i cl,.l f3 es3,.r r4])
noncomputable abbrev hD (f:Bool) (es:List PV) (er cl:Int) (f3:Bool) (es3:List PV) (r4:Row):List Row:=(shD.put (lD f es er cl f3 es3 r4 0)).2
end Go.Hg
/- Geometry (network): what the plain laws of points use. -/
namespace Go.Hg
open Go.Hx Go.Proofs
end Go.Hg
/- Geometry: plain laws of Side, On and Meet: order, turns, moves. -/
namespace Go.Hg
open Go.Hx Go.Proofs
def key (x y:Int):Int:=x*4611686018427387904+y
abbrev bd (a b:Int):Prop:=(-1152921504606846976<=a/\a<=1152921504606846976)/\(-1152921504606846976<=b/\b<=1152921504606846976)
def mnk (x y:Int):Int:=if y<x then y else x
def mxk (x y:Int):Int:=if y<x then x else y
def kb (p q x:Int):Bool:=decide (mnk p q<=x)&&decide (x<=mxk p q)
def K (p q x:Int):Prop:=p<=x/\x<=q\/q<=x/\x<=p
end Go.Hg
/- Geometry: plain laws: turns, moves and order change nothing. -/
namespace Go.Hg
open Go.Hx Go.Proofs
def eqP (a b c d:Int):Bool:=decide (a=c/\b=d)
end Go.Hg
/- Geometry: line.Check of any length: as the reference's. (printed by strip.py) -/
namespace Go.Hg
open Go.Hx Go.Proofs
end Go.Hg
/- Geometry: contracts: Check of a line, both. (printed by strip.py) -/
namespace Go.Hg
open Go.Hx Go.Proofs
noncomputable def E35:Ad:=E34
theorem ok35:Ab Tryz.prog E35.env:=ok34
end Go.Hg
