import Derived.Test.YtggmhenfkidjbaaHnA
import Derived.Test.YtggmhenfkidjbaaPart4
import Derived.Test.YtggmhenfkidjbaaPart5
namespace Go.Hr
open Go.Hx Go.Hg Go.Hn Go.Proofs
abbrev wayv (i:Int) (f:Bool) (L:List PV) (lv:Int) (cs nm:ByteArray) (st:Bool) (wt ds:Int):PV:=.agg [iv i,.CQ f 28 L,iv lv,.val (.string cs),.val (.string nm),bv st,iv wt,iv ds]
def Na (L:List PV):Int:=W ((L.length:Int)-1)
abbrev ptX (L:List PV) (i:Nat):Int:=((L.getD i .any).cellAt 0).Dn
abbrev ptY (L:List PV) (i:Nat):Int:=((L.getD i .any).cellAt 1).Dn
abbrev stF (L:List PV) (lv:Int):PV:=Dy (ptX L 0) (ptY L 0) lv
abbrev stL (L:List PV) (lv:Int):PV:=Dy (ptX L (Na L).toNat) (ptY L (Na L).toNat) lv
def stB (L:List PV):Bool:=!((L.length:Int)==0)&&((decide ((0:Int)<=0)&&decide ((0:Int)<(L.length:Int)))&&(decide (0<=Na L)&&decide (Na L<(L.length:Int))))
noncomputable def R0:CO:=({}:CO).Ju Try.prog kts []
theorem okR0:Ck Try.prog R0.env:=Fm.Ju kts_ok
noncomputable def R1:CO:=R0.FN 52
theorem okR1:Ck Try.prog R1.env:=okR0.FN 52
theorem qStops0 (i:Int) (f:Bool) (L:List PV) (lv:Int) (cs nm:ByteArray) (st:Bool) (wt ds:Int):Dw Try.prog R1 60 25 [wayv i f L lv cs nm st wt ds] =
 bif (L.length:Int)==0 then some (.D8 [Dy 0 0 0,Dy 0 0 0]) else
  bif decide ((0:Int)<=0)&&decide ((0:Int)<(L.length:Int)) then bif decide (0<=Na L)&&decide (Na L<(L.length:Int)) then
   some (.D8 [stF L lv,stL L lv]) else none else none:=by kernel_rfl
theorem bI (c:Bool) (x y:Int):(bif c then some (iv x) else some (iv y))=some (iv (bif c then x else y)):=by cases c <;> rfl
theorem bB (c x y:Bool):(bif c then some (bv x) else some (bv y))=some (bv (bif c then x else y)):=by cases c <;> rfl
def cSgn:List PV->Option PV | [.val (.int .i64 a)]=>some (iv (bif decide (a > 0) then 1 else bif decide (a<0) then -1 else 0)) | _=>none
theorem oSgn (args:List PV) (r:PV) (h:cSgn args=some r):Hx.CV Try.prog 102/\Da Try.prog 102 args r:=by
 unfold cSgn at h;split at h
 ·rename_i a;cases h;refine CK Fm (n:=60) (CD (b:=bif decide (a > 0) then some (iv 1) else bif decide (a<0) then some (iv (-1)) else some (iv 0)) (by kernel_rfl) ?_);simp only[bI]
 ·cases h
def cSz:List PV->Option PV | [.val (.int .i64 a)]=>some (uv (bif decide (a<0) then U (0-U a) else U a)) | _=>none
theorem oSz (args:List PV) (r:PV) (h:cSz args=some r):Hx.CV Try.prog 104/\Da Try.prog 104 args r:=by
 unfold cSz at h;split at h
 ·rename_i a;cases h;refine CK Fm (n:=60) (CD (b:=bif decide (a<0) then some (uv (U (0-U a))) else some (uv (U a))) (by kernel_rfl) ?_);cases decide (a<0) <;> rfl
 ·cases h
def cPrd:List PV->Option PV | [.val (.int .u64 a),.val (.int .u64 b)]=>some (.agg [uv (Jr a b),uv (U (a*b))]) | _=>none
theorem oPrd (args:List PV) (r:PV) (h:cPrd args=some r):Hx.CV Try.prog 103/\Da Try.prog 103 args r:=by
 unfold cPrd at h;split at h
 ·cases h;exact CK Fm (n:=60) (by kernel_rfl)
 ·cases h
def KW (a:Int):Int:=bif decide (a > 0) then 1 else bif decide (a<0) then -1 else 0
def LA (a:Int):Int:=bif decide (a<0) then U (0-U a) else U a
def M1:CO:=(({}:CO).EC 102 cSgn).EC 104 cSz |>.EC 103 cPrd
theorem okM1:Ck Try.prog M1.env:=((Fm.EC oSgn).EC oSz).EC oPrd
def sg2J (a b c d:Int):Int:=
 bif W (KW a*KW b) != W (KW c*KW d) then KW (W (W (KW a*KW b)-W (KW c*KW d))) else
 bif decide (Jr (LA a) (LA b) > Jr (LA c) (LA d)) then W (KW a*KW b) else bif decide (Jr (LA a) (LA b)<Jr (LA c) (LA d)) then W (0-W (KW a*KW b)) else
 bif decide (U (LA a*LA b) > U (LA c*LA d)) then W (KW a*KW b) else bif decide (U (LA a*LA b)<U (LA c*LA d)) then W (0-W (KW a*KW b)) else 0
def cSg2:List PV->Option PV | [.val (.int .i64 a),.val (.int .i64 b),.val (.int .i64 c),.val (.int .i64 d)]=>some (iv (sg2J a b c d)) | _=>none
theorem oSg2 (args:List PV) (r:PV) (h:cSg2 args=some r):Hx.CV Try.prog 100/\Da Try.prog 100 args r:=by
 unfold cSg2 at h;split at h
 ·rename_i a b c d;cases h;refine CK okM1 (n:=60) (CD (b:=bif W (KW a*KW b) != W (KW c*KW d) then some (iv (KW (W (W (KW a*KW b)-W (KW c*KW d))))) else
   bif decide (Jr (LA a) (LA b) > Jr (LA c) (LA d)) then some (iv (W (KW a*KW b))) else bif decide (Jr (LA a) (LA b)<Jr (LA c) (LA d)) then some (iv (W (0-W (KW a*KW b)))) else
   bif decide (U (LA a*LA b) > U (LA c*LA d)) then some (iv (W (KW a*KW b))) else bif decide (U (LA a*LA b)<U (LA c*LA d)) then some (iv (W (0-W (KW a*KW b)))) else some (iv 0)) (by kernel_rfl) ?_)
  simp only[bI];rfl
 ·cases h
def M2:CO:=M1.EC 100 cSg2
theorem okM2:Ck Try.prog M2.env:=okM1.EC oSg2
def cmpJ (a b c d:Int):Int:=bif decide (b<1) then 0 else bif decide (d<1) then 0 else sg2J a d c b
def cCmpJ:List PV->Option PV | [.agg [.val (.int .i64 a),.val (.int .i64 b)],.agg [.val (.int .i64 c),.val (.int .i64 d)]]=>some (iv (cmpJ a b c d)) | _=>none
theorem oCmpJ (args:List PV) (r:PV) (h:cCmpJ args=some r):Hx.CV Try.prog 98/\Da Try.prog 98 args r:=by
 unfold cCmpJ at h;split at h
 ·rename_i a b c d;cases h;refine CK okM2 (n:=60) (CD (b:=bif decide (b<1) then some (iv 0) else bif decide (d<1) then some (iv 0) else some (iv (sg2J a d c b))) (by kernel_rfl) ?_);simp only[bI];rfl
 ·cases h
def farJ (a b c:Int):Bool:=bif decide (1<=c) then bif !decide (c<=4194304) then true else bif decide (-137438953472<=a) then bif !decide (a<=137438953472) then true else bif decide (-137438953472<=b) then !decide (b<=137438953472) else true else true else true
def cFarJ:List PV->Option PV | [.agg [.val (.int .i64 a),.val (.int .i64 b),.val (.int .i64 c)]]=>some (bv (farJ a b c)) | _=>none
theorem oFarJ (args:List PV) (r:PV) (h:cFarJ args=some r):Hx.CV Try.prog 99/\Da Try.prog 99 args r:=by
 unfold cFarJ at h;split at h
 ·rename_i a b c;cases h;refine CK okM2 (n:=60) (CD (b:=bif decide (1<=c) then bif !decide (c<=4194304) then some (bv true) else bif decide (-137438953472<=a) then bif !decide (a<=137438953472) then some (bv true) else bif decide (-137438953472<=b) then some (bv (!decide (b<=137438953472))) else some (bv true) else some (bv true) else some (bv true)) (by kernel_rfl) ?_);simp only[bB];rfl
 ·cases h
def bndJ (a b c:Int):Bool:=bif decide (c ≥ 1) then bif decide (c<=4194304) then bif decide (a ≥ -137438953472) then bif decide (a<=137438953472) then bif decide (b ≥ -137438953472) then decide (b<=137438953472) else false else false else false else false else false
def cBndJ:List PV->Option PV | [.agg [.val (.int .i64 a),.val (.int .i64 b),.val (.int .i64 c)]]=>some (bv (bndJ a b c)) | _=>none
theorem oBndJ (args:List PV) (r:PV) (h:cBndJ args=some r):Hx.CV Try.prog 90/\Da Try.prog 90 args r:=by
 unfold cBndJ at h;split at h
 ·rename_i a b c;cases h;refine CK okM2 (n:=60) (CD (b:=bif decide (c ≥ 1) then bif decide (c<=4194304) then bif decide (a ≥ -137438953472) then bif decide (a<=137438953472) then bif decide (b ≥ -137438953472) then some (bv (decide (b<=137438953472))) else some (bv false) else some (bv false) else some (bv false) else some (bv false) else some (bv false)) (by kernel_rfl) ?_);simp only[bB];rfl
 ·cases h
def M3:CO:=((M2.EC 98 cCmpJ).EC 99 cFarJ).EC 90 cBndJ
theorem okM3:Ck Try.prog M3.env:=((okM2.EC oCmpJ).EC oFarJ).EC oBndJ
def rawJ (a b c d e f g h i:Int):Int:=sg2J (W (W (d*c)-W (a*f))) (W (W (h*c)-W (b*i))) (W (W (e*c)-W (b*f))) (W (W (g*c)-W (a*i)))
def HU (a b c d e f g h i:Int):Int:=bif farJ a b c then 0 else bif farJ d e f then 0 else bif farJ g h i then 0 else rawJ a b c d e f g h i
def cSsdJ:List PV->Option PV
 | [.agg [.val (.int .i64 a),.val (.int .i64 b),.val (.int .i64 c)],.agg [.val (.int .i64 d),.val (.int .i64 e),.val (.int .i64 f)],.agg [.val (.int .i64 g),.val (.int .i64 h),.val (.int .i64 i)]]=>some (iv (HU a b c d e f g h i))
 | _=>none
theorem oSsdJ (args:List PV) (r:PV) (h:cSsdJ args=some r):Hx.CV Try.prog 95/\Da Try.prog 95 args r:=by
 unfold cSsdJ at h;split at h
 ·rename_i a b c d e f g h' i;cases h;refine CK okM3 (n:=60) (CD (b:=bif farJ a b c then some (iv 0) else bif farJ d e f then some (iv 0) else bif farJ g h' i then some (iv 0) else some (iv (rawJ a b c d e f g h' i))) (by kernel_rfl) ?_);simp only[bI];rfl
 ·cases h
def sidJ (n a b c d:Int):Int:=bif cmpJ n 1 a b==cmpJ n 1 c d then cmpJ n 1 a b else 0
def cSidJ:List PV->Option PV | [.val (.int .i64 n),.agg [.val (.int .i64 a),.val (.int .i64 b)],.agg [.val (.int .i64 c),.val (.int .i64 d)]]=>some (iv (sidJ n a b c d)) | _=>none
theorem oSidJ (args:List PV) (r:PV) (h:cSidJ args=some r):Hx.CV Try.prog 96/\Da Try.prog 96 args r:=by
 unfold cSidJ at h;split at h
 ·rename_i n a b c d;cases h;refine CK okM3 (n:=60) (CD (b:=bif cmpJ n 1 a b==cmpJ n 1 c d then some (iv (cmpJ n 1 a b)) else some (iv 0)) (by kernel_rfl) ?_);simp only[bI];rfl
 ·cases h
def M4:CO:=(M3.EC 95 cSsdJ).EC 96 cSidJ
theorem okM4:Ck Try.prog M4.env:=(okM3.EC oSsdJ).EC oSidJ
def onJ (a b c d e f x y:Int):Bool:=bif HU a b c d e f x y 1 != 0 then false else bif sidJ x a c d f==0 then (sidJ y b c e f==0) else false
def cOnJ:List PV->Option PV | [.agg [.val (.int .i64 a),.val (.int .i64 b),.val (.int .i64 c)],.agg [.val (.int .i64 d),.val (.int .i64 e),.val (.int .i64 f)],.agg [.val (.int .i64 x),.val (.int .i64 y)]]=>some (bv (onJ a b c d e f x y)) | _=>none
theorem oOnJ (args:List PV) (r:PV) (h:cOnJ args=some r):Hx.CV Try.prog 92/\Da Try.prog 92 args r:=by
 unfold cOnJ at h;split at h
 ·rename_i a b c d e f x y;cases h;refine CK okM4 (n:=60) (CD (b:=bif HU a b c d e f x y 1 != 0 then some (bv false) else bif sidJ x a c d f==0 then some (bv (sidJ y b c e f==0)) else some (bv false)) (by kernel_rfl) ?_);simp only[bB];rfl
 ·cases h
def byJ (t0 t1 t2 t3 t4 t5 s0 s1 s2 s3 s4 s5:Int):Bool:=
 bif decide (cmpJ s1 s2 t1 t2 ≥ 0) then (bif HU t0 t1 t2 t3 t4 t5 s0 s1 s2==0 then decide (HU t0 t1 t2 t3 t4 t5 s3 s4 s5<0) else decide (HU t0 t1 t2 t3 t4 t5 s0 s1 s2<0)) else
 (bif HU s0 s1 s2 s3 s4 s5 t0 t1 t2==0 then decide (HU s0 s1 s2 s3 s4 s5 t3 t4 t5 > 0) else decide (HU s0 s1 s2 s3 s4 s5 t0 t1 t2 > 0))
def cByJ:List PV->Option PV
 | [.agg [.val (.int .i64 t0),.val (.int .i64 t1),.val (.int .i64 t2),.val (.int .i64 t3),.val (.int .i64 t4),.val (.int .i64 t5),.val (.int .i64 _)],.agg [.val (.int .i64 s0),.val (.int .i64 s1),.val (.int .i64 s2),.val (.int .i64 s3),.val (.int .i64 s4),.val (.int .i64 s5),.val (.int .i64 _)]]=>some (bv (byJ t0 t1 t2 t3 t4 t5 s0 s1 s2 s3 s4 s5))
 | _=>none
theorem oByJ (args:List PV) (r:PV) (h:cByJ args=some r):Hx.CV Try.prog 94/\Da Try.prog 94 args r:=by
 unfold cByJ at h;split at h
 ·rename_i t0 t1 t2 t3 t4 t5 t6 s0 s1 s2 s3 s4 s5 s6;cases h;refine CK okM4 (n:=60) (CD (b:=bif decide (cmpJ s1 s2 t1 t2 ≥ 0) then (bif HU t0 t1 t2 t3 t4 t5 s0 s1 s2==0 then some (bv (decide (HU t0 t1 t2 t3 t4 t5 s3 s4 s5<0))) else some (bv (decide (HU t0 t1 t2 t3 t4 t5 s0 s1 s2<0)))) else
   (bif HU s0 s1 s2 s3 s4 s5 t0 t1 t2==0 then some (bv (decide (HU s0 s1 s2 s3 s4 s5 t3 t4 t5 > 0))) else some (bv (decide (HU s0 s1 s2 s3 s4 s5 t0 t1 t2 > 0))))) (by kernel_rfl) ?_)
  simp only[bB];rfl
 ·cases h
def Lb (y d h:Int):Bool:=decide (cmpJ y d h 1 > 0)
def rs2J (u v:Bool) (k2:Bool):Int:=bif u then bif !v then bif k2 then -1 else 0 else 0 else 0
def rspJ (a b c d e f g h:Int):Int:=bif decide (c<1) then 0 else bif decide (f<1) then 0 else
 bif !Lb b c h then bif Lb e f h then bif decide (HU a b c d e f g h 1<0) then 1 else rs2J (Lb b c h) (Lb e f h) (decide (HU d e f a b c g h 1<0)) else rs2J (Lb b c h) (Lb e f h) (decide (HU d e f a b c g h 1<0)) else rs2J (Lb b c h) (Lb e f h) (decide (HU d e f a b c g h 1<0))
def cRspJ:List PV->Option PV
 | [.agg [.val (.int .i64 a),.val (.int .i64 b),.val (.int .i64 c)],.agg [.val (.int .i64 d),.val (.int .i64 e),.val (.int .i64 f)],.agg [.val (.int .i64 g),.val (.int .i64 h)]]=>some (iv (rspJ a b c d e f g h))
 | _=>none
def rs2T (u v:Bool) (k2:Bool):Option PV:=bif u then bif !v then bif k2 then some (iv (-1)) else some (iv 0) else some (iv 0) else some (iv 0)
theorem oRspJ (args:List PV) (r:PV) (h:cRspJ args=some r):Hx.CV Try.prog 93/\Da Try.prog 93 args r:=by
 unfold cRspJ at h;split at h
 ·rename_i a b c d e f g h';cases h;refine CK okM4 (n:=60) (CD (b:=bif decide (c<1) then some (iv 0) else bif decide (f<1) then some (iv 0) else
   bif !Lb b c h' then bif Lb e f h' then bif decide (HU a b c d e f g h' 1<0) then some (iv 1) else rs2T (Lb b c h') (Lb e f h') (decide (HU d e f a b c g h' 1<0)) else rs2T (Lb b c h') (Lb e f h') (decide (HU d e f a b c g h' 1<0)) else rs2T (Lb b c h') (Lb e f h') (decide (HU d e f a b c g h' 1<0))) (by kernel_rfl) ?_)
  unfold rs2T;simp only[bI];rfl
 ·cases h
def M5:CO:=((M4.EC 92 cOnJ).EC 94 cByJ).EC 93 cRspJ
theorem okM5:Ck Try.prog M5.env:=((okM4.EC oOnJ).EC oByJ).EC oRspJ
def rE (es:List PV) (i:Int):PV:=es.getD (0+i.toNat) .any
def ixR (es:List PV) (n l:Nat) (i:Int) {α:Type} (k:Option α):Option α:=bif (es.length==n)&&true then bif decide (0<=i)&&decide (i<(l:Int)) then k else none else none
def J0 (es:List PV) (n:Nat) {α:Type} (k:Option α):Option α:=bif es.length==n then k else none
def stR (es:List PV) (n l:Nat) (i:Int) {α:Type} (k:Option α):Option α:=ixR es n l i (bif (es.length==n)&&true&&true&&true then k else none)
section
variable (d:PV->Bool) (nE:PV->PV)
def Iz (es:List PV) (i:Int):Nat->Bool
 | 0=>false
 | m+1=>d (rE es i)||Iz es (i+1) m
def Fi (es:List PV) (i:Int):Nat->Int
 | 0 => -1
 | m+1=>bif d (rE es i) then i else Fi es (i+1) m
def G4:List PV->Int->Int->Nat->List PV × Int
 | es,i,_,0=>(es,i)
 | es,i,j,m+1=>bif d (rE es j) then G4 es i (j+1) m else G4 (es.set (0+i.toNat) (nE (rE es j))) (i+1) (j+1) m
def CU (es:List PV):List PV:=es.filter fun e => !d e
def Em (es:List PV):Prop:=∀ e,e ∈ es->nE e=e
end
variable {d:PV->Bool} {nE:PV->PV}
theorem rE_of {es:List PV} {i:Int} (h1:0<=i) (h2:i<(es.length:Int)):∃ h:i.toNat<es.length,rE es i=es[i.toNat]'h:=by
 refine⟨by omega,?_⟩;unfold rE;rw[AN,AA,Ae (by omega)];rfl
theorem G5 {es:List PV} {n l:Nat} {i:Int} {α:Type} {k:Option α} (hn:es.length=n) (h1:0<=i) (h2:i<(l:Int)):ixR es n l i k=k:=by
 unfold ixR;rw[hn,AR,Ac h1,Ac h2];rfl
theorem DQ {es:List PV} {n:Nat} {α:Type} {k:Option α} (hn:es.length=n):J0 es n k=k:=by unfold J0;rw[hn,AR];rfl
theorem stR_of {es:List PV} {n l:Nat} {i:Int} {α:Type} {k:Option α} (hn:es.length=n) (h1:0<=i) (h2:i<(l:Int)):stR es n l i k=k:=by
 unfold stR;rw[G5 hn h1 h2,hn,AR];rfl
theorem delG_len:∀ (m:Nat) (es:List PV) (i j:Int),(G4 d nE es i j m).1.length=es.length
 | 0,_,_,_=>rfl
 | m+1,es,i,j=>by
  rw[G4];cases d (rE es j) with
  | true=>exact delG_len m es i (j+1)
  | false=>simp only[At];rw[delG_len m];simp
theorem norm_at {es:List PV} (h:Em nE es) {i:Int} (h1:0<=i) (h2:i<(es.length:Int)):nE (rE es i)=rE es i:=by
 obtain⟨hl,he⟩:=rE_of h1 h2;rw[he];exact h _ (Bl hl)
theorem norm_set {es:List PV} (h:Em nE es) {i:Nat} {e:PV} (he:nE e=e):Em nE (es.set i e):=fun x hx=>by
 rcases BX hx with g | g
 ·exact h x g
 ·rw[g];exact he
theorem delG_take:∀ (m:Nat) (es:List PV) (i j:Int),Em nE es->0<=i->i<=j->j+m<=(es.length:Int) ->
  (G4 d nE es i j m).1.take (G4 d nE es i j m).2.toNat=es.take i.toNat++CU d ((es.drop j.toNat).take m)/\i<=(G4 d nE es i j m).2/\(G4 d nE es i j m).2<=i+m/\(G4 d nE es i j m).1.drop (j.toNat+m)=es.drop (j.toNat+m)/\Em nE (G4 d nE es i j m).1
 | 0,es,i,j,hN,_,_,_=>by simp[G4,CU];exact hN
 | m+1,es,i,j,hN,h0,h1,h2=>by
  obtain⟨hl,he⟩:=rE_of (es:=es) (i:=j) (by omega) (by omega);have hd:(es.drop j.toNat).take (m+1)=rE es j::(es.drop (j+1).toNat).take m:=by
   rw[he,BY hl,CC,show (j+1).toNat=j.toNat+1 by omega]
  have hj:j.toNat+(m+1)=(j+1).toNat+m:=by omega
  rw[G4,hj];cases hb:d (rE es j) with
  | true =>
   obtain⟨g1,g2,g3,g4,g5⟩:=delG_take m es i (j+1) hN h0 (by omega) (by omega);simp only[Am];refine⟨?_,g2,by omega,g4,g5⟩;rw[g1,hd];unfold CU;rw[B3,hb];rfl
  | false =>
   simp only[At];have hn:=norm_at hN (i:=j) (by omega) (by omega);rw[hn];have hN1:Em nE (es.set (0+i.toNat) (rE es j)):=norm_set hN hn;obtain⟨g1,g2,g3,g4,g5⟩:=delG_take m (es.set (0+i.toNat) (rE es j)) (i+1) (j+1) hN1 (by omega) (by omega) (by rw[Bv];omega);refine⟨?_,by omega,by omega,?_,g5⟩
   ·rw[g1,hd];have e1:(es.set (0+i.toNat) (rE es j)).take (i+1).toNat=es.take i.toNat++[rE es j]:=by
     rw[show (i+1).toNat=i.toNat+1 by omega,AN,List.take_add_one,Au,Ai rfl,Ai (by omega)];rw[List.take_set_of_le (Ak _)];rfl
    have e2:(es.set (0+i.toNat) (rE es j)).drop (j+1).toNat=es.drop (j+1).toNat:=by
     rw[List.drop_set_of_lt (by omega)]
    rw[e1,e2];unfold CU;rw[B3,hb,BG];rfl
   ·rw[g4,List.drop_set_of_lt (by omega)]
theorem idxG_spec (es:List PV):∀ (m:Nat) (i:Int),0<=i->i+m<=(es.length:Int)->Iz d es i m=true ->
  i<=Fi d es i m/\Fi d es i m<i+m/\d (rE es (Fi d es i m))=true/\CU d ((es.drop i.toNat).take (Fi d es i m-i).toNat)=(es.drop i.toNat).take (Fi d es i m-i).toNat
 | 0,_,_,_,h=>by cases h
 | m+1,i,h0,h1,h=>by
  obtain⟨hl,he⟩:=rE_of (es:=es) (i:=i) (by omega) (by omega);simp only[Iz] at h;simp only[Fi];cases hb:d (rE es i) with
  | true=>simp only[Am];exact⟨BS _,by omega,hb,by rw[Int.sub_self];rfl⟩
  | false =>
   rw[hb,By] at h;simp only[At];obtain⟨g1,g2,g3,g4⟩:=idxG_spec es m (i+1) (by omega) (by omega) h;refine⟨by omega,by omega,g3,?_⟩;have hd:(es.drop i.toNat).take (Fi d es (i+1) m-i).toNat=rE es i::(es.drop (i+1).toNat).take (Fi d es (i+1) m-(i+1)).toNat:=by
    rw[he,BY hl,show (Fi d es (i+1) m-i).toNat=(Fi d es (i+1) m-(i+1)).toNat+1 by omega,CC,show (i+1).toNat=i.toNat+1 by omega]
   rw[hd];unfold CU at g4 ⊢;rw[B3,hb,g4];rfl
theorem anyG_none (es:List PV):∀ (m:Nat) (i:Int),0<=i->i+m<=(es.length:Int)->Iz d es i m=false->CU d ((es.drop i.toNat).take m)=(es.drop i.toNat).take m
 | 0,_,_,_,_=>by simp[CU]
 | m+1,i,h0,h1,h=>by
  obtain⟨hl,he⟩:=rE_of (es:=es) (i:=i) (by omega) (by omega);simp only[Iz,BL] at h;have ih:=anyG_none es m (i+1) (by omega) (by omega) h.2;have hd:(es.drop i.toNat).take (m+1)=rE es i::(es.drop (i+1).toNat).take m:=by
   rw[he,BY hl,CC,show (i+1).toNat=i.toNat+1 by omega]
  rw[hd];unfold CU at ih ⊢;rw[B3,h.1,ih];rfl
def Fx (d:PV->Bool) (z:PV) (es:List PV) (l:Nat):List PV:=CU d (es.take l)++List.replicate (l-(CU d (es.take l)).length) z++es.drop l
theorem Eb (es:List PV):(CU d es).length<=es.length:=List.length_filter_le _ _
theorem HV {z:PV} {es:List PV} {l:Nat} (h:l<=es.length):(Fx d z es l).length=es.length:=by
 unfold Fx;have h1:(CU d (es.take l)).length<=l:=A_ (Eb _) (by rw[Az];omega);simp only[Ar,B8,B1];omega
theorem del_none {es:List PV} {l:Nat} (hl:l<=es.length) (h:Iz d es 0 l=false) (z:PV):CU d (es.take l)=es.take l/\Fx d z es l=es:=by
 have g:=anyG_none es l 0 (by omega) (by omega) h;rw[show (0:Int).toNat=0 from rfl,AM] at g;refine⟨g,?_⟩;unfold Fx;rw[g,Az,show min l es.length=l by omega,C7,List.replicate_zero,BW,List.take_append_drop]
theorem del_some {es:List PV} {l:Nat} (hN:Em nE es) (hl:l<=es.length) (h:Iz d es 0 l=true) (z:PV) {x:Int} (hx:x=Fi d es 0 l) {r:List PV × Int} (hr:r=G4 d nE es x (x+1) ((l:Int)-(x+1)).toNat):
  0<=x/\x<l/\x<=r.2/\r.2<l/\r.2.toNat=(CU d (es.take l)).length/\r.1.length=es.length/\r.1.take r.2.toNat=CU d (es.take l)/\r.1.drop l=es.drop l/\r.1.take r.2.toNat++List.replicate (l-r.2.toNat) z++r.1.drop l=Fx d z es l:=by
 obtain⟨g1,g2,g3,g4⟩:=idxG_spec es l 0 (by omega) (by omega) h;rw[<- hx] at g1 g2 g3 g4;have hlen:=delG_len (d:=d) (nE:=nE) ((l:Int)-(x+1)).toNat es x (x+1);obtain⟨t1,t2,t3,t4,t5⟩:=delG_take (d:=d) ((l:Int)-(x+1)).toNat es x (x+1) hN (by omega) (by omega) (by omega);rw[<- hr] at hlen t1 t2 t3 t4 t5;obtain⟨hl',he⟩:=rE_of (es:=es) (i:=x) (by omega) (by omega);have e0:(x+1).toNat+((l:Int)-(x+1)).toNat=l:=by omega
 rw[e0] at t4;have hF:r.1.take r.2.toNat=CU d (es.take l):=by
  rw[t1];rw[show (0:Int).toNat=0 from rfl,AM,Int.sub_zero] at g4;have hsplit:es.take l=es.take x.toNat++(rE es x::(es.drop (x+1).toNat).take ((l:Int)-(x+1)).toNat):=by
   have a1:es.take l=es.take x.toNat++(es.drop x.toNat).take (l-x.toNat):=by
    rw[<- List.take_add,show x.toNat+(l-x.toNat)=l by omega]
   rw[a1,BY hl',<- he,show l-x.toNat=((l:Int)-(x+1)).toNat+1 by omega,CC,show (x+1).toNat=x.toNat+1 by omega]
  rw[hsplit];unfold CU at g4 ⊢;rw[List.filter_append,g4,B3,g3];rfl
 have hk:(CU d (es.take l)).length=r.2.toNat:=by rw[<- hF,Az,hlen];omega
 refine⟨by omega,by omega,t2,by omega,hk.symm,hlen,hF,t4,?_⟩;unfold Fx;rw[hk,hF,t4]
theorem DI {b:Bool} {x r:PV} (h:(DT.br b (.leaf x) .no).run=some r):b=true/\r=x:=by
 cases b with
 | true=>cases h;exact⟨rfl,rfl⟩
 | false=>cases h
def cStops:List PV->Option (DT PV)
 | [.agg [.val (.int .i64 _),.CQ _ 28 L,.val (.int .i64 lv),.val (.string _),.val (.string _),.val (.bool _),.val (.int .i64 _),.val (.int .i64 _)]]=>some (.br (stB L) (.leaf (.D8 [stF L lv,stL L lv])) .no)
 | _=>none
theorem qStops (i:Int) (f:Bool) (L:List PV) (lv:Int) (cs nm:ByteArray) (st:Bool) (wt ds:Int) (h:stB L=true):Dw Try.prog R1 60 25 [wayv i f L lv cs nm st wt ds]=some (.D8 [stF L lv,stL L lv]):=by
 unfold stB at h;simp only[Aa,Al] at h;rw[qStops0,h.1,h.2.1.1,h.2.1.2,h.2.2.1,h.2.2.2];rfl
theorem eStops:Hx.CV Try.prog 25:=(CK okR1 (n:=60) (qStops 0 false [FC 0 0] 0 .empty .empty false 0 0 rfl)).1
theorem oStops (args:List PV) (d:DT PV) (r:PV) (h:cStops args=some d) (hr:d.run=some r):Da Try.prog 25 args r:=by
 unfold cStops at h;split at h
 ·rename_i i f L lv cs nm st wt ds;cases h;obtain⟨h1,rfl⟩:=DI hr;exact (CK okR1 (n:=60) (qStops i f L lv cs nm st wt ds h1)).2
 ·cases h
noncomputable def R2:CO:=(R0.DF 25 cStops).FN 68
theorem okR2:Ck Try.prog R2.env:=(okR0.DF eStops oStops).FN 68
abbrev wI (e:PV):Int:=(e.cellAt 0).Dn
abbrev wL (e:PV):List PV:=(e.cellAt 1).getL
abbrev wLv (e:PV):Int:=(e.cellAt 2).Dn
abbrev Lc (e:PV):Bool:=(e.cellAt 5).getB
abbrev fnO (j:Nat):X1:=.fn 69 [] [.ptr j 1 0 0]
def shX:S1:=⟨19,[(0,.sl 1),(1,fnO 0),(7,C4),(8,C4)],[.one 4 1 .bool,.many 49 8]⟩
abbrev lX (n l:Nat) (len i:Int) (fl nl:Bool) (es:List PV):LS:=([.n n,.n l,.i len,.i i],[.b fl,.l nl es])
noncomputable abbrev xX0 (fl nl:Bool) (es:List PV):PX × List PV × List Row:=(.exit 0,tm 19 [],(shX.put (lX 0 0 0 0 fl nl es)).2)
noncomputable abbrev xX1 (i:Int) (fl nl:Bool) (es:List PV):PX × List PV × List Row:=(.ret,tm 19 [(4,iv i)],(shX.put (lX 0 0 0 0 fl nl es)).2)
theorem qX (n l:Nat) (len i:Int) (fl nl:Bool) (es:List PV):CR Try.prog R2 60 39 (CZ Try.f39 2) [0,1,7,8] [4] (shX.put (lX n l len i fl nl es)).1 (shX.put (lX n l len i fl nl es)).2 =
 bif decide (i<len) then ixR es n l i (J0 es n (bif ((wL (rE es i)).length:Int)==0 then some (xX1 i fl nl es) else bif fl then bif Lc (rE es i) then some (xX1 i fl nl es) else some (.normal,shX.put (lX n l len (W (i+1)) fl nl es)) else some (.normal,shX.put (lX n l len (W (i+1)) fl nl es)))) else some (xX0 fl nl es):=by kernel_rfl
def CT (fl:Bool) (e:PV):Bool:=(((wL e).length:Int)==0)||(fl&&Lc e)
theorem shut_tree {fl:Bool} {e:PV} {α:Type} (x y:α):(bif ((wL e).length:Int)==0 then x else bif fl then bif Lc e then x else y else y)=bif CT fl e then x else y:=by
 unfold CT;cases ((wL e).length:Int)==0 <;> cases fl <;> cases Lc e <;> rfl
def pX:LS->Bool
 | ([.n n,.n l,.i len,.i i],[.b _,.l _ es])=>decide (n=es.length)&&decide (l=es.length)&&decide (len=(es.length:Int))&&decide (0<=i)&&decide (i<=len)&&decide (es.length<=1000)
 | _=>false
noncomputable def fX:LS->DT (PX × List PV × List Row)
 | ([.n _,.n _,.i len,.i i],[.b fl,.l nl es])=>.br (Iz (CT fl) es i (len-i).toNat) (.leaf (xX1 (Fi (CT fl) es i (len-i).toNat) fl nl es)) (.leaf (xX0 fl nl es))
 | _=>.no
def mX:LS->Nat
 | ([.n _,.n _,.i len,.i i],[.b _,.l _ _])=>(len-i).toNat
 | _=>0
theorem Il {α:Type} {b:Bool} {x y r:α} (h:(DT.br b (.leaf x) (.leaf y)).run=some r):r=bif b then x else y:=by cases b <;> (cases h;rfl)
theorem sX:∀ s r,pX s=true->(fX s).run=some r->r.1 ≠ .normal/\(CR Try.prog R2 60 39 (CZ Try.f39 2) [0,1,7,8] [4] (shX.put s).1 (shX.put s).2=some r \/
   ∃ s',CR Try.prog R2 60 39 (CZ Try.f39 2) [0,1,7,8] [4] (shX.put s).1 (shX.put s).2=some (.normal,shX.put s')/\pX s'=true/\mX s'<mX s/\(fX s').run=some r):=by
 intro t r hp hr;unfold pX at hp;split at hp
 ·rename_i n l len i fl nl es;simp only[Aa,Ab] at hp;obtain⟨⟨⟨⟨⟨rfl,rfl⟩,rfl⟩,h4⟩,h5⟩,h6⟩:=hp;have hr':=Il hr;refine⟨by rw[hr'];cases Iz (CT fl) es i ((es.length:Int)-i).toNat <;> simp,?_⟩;rw[show shX.put ([.n es.length,.n es.length,.i (es.length:Int),.i i],[.b fl,.l nl es])=shX.put (lX es.length es.length (es.length:Int) i fl nl es) from rfl,qX];by_cases hi:i<(es.length:Int)
  ·rw[Ac hi,Am,G5 rfl h4 hi,DQ rfl,shut_tree,Dc (by omega) (by omega)];obtain⟨m,hm⟩:∃ m,((es.length:Int)-i).toNat=m+1:=⟨((es.length:Int)-i).toNat-1,by omega⟩;have hm2:((es.length:Int)-(i+1)).toNat=m:=by omega
   rw[hm] at hr';simp only[Iz,Fi] at hr';cases c1:CT fl (rE es i) with
   | true=>rw[c1] at hr';exact .inl (by rw[hr'];rfl)
   | false =>
    rw[c1] at hr';refine .inr ⟨lX es.length es.length (es.length:Int) (i+1) fl nl es,rfl,by simp only[pX,Aa,Ab];exact⟨⟨⟨⟨⟨trivial,trivial⟩,trivial⟩,by omega⟩,by omega⟩,h6⟩,by simp only[mX];omega,?_⟩;rw[hr'];simp only[fX,hm2,By,At];show _=some (bif Iz (CT fl) es (i+1) m then _ else _)
    cases Iz (CT fl) es (i+1) m <;> rfl
  ·rw[Aj hi];rw[show ((es.length:Int)-i).toNat=0 by omega] at hr';exact .inl (by rw[hr'];rfl)
 ·cases hp
noncomputable def R3:CO:=R2.C8 39 2 [0,1,7,8] [] shX pX fX
theorem okR3:Ck Try.prog R3.env:=
 okR2.C8 (n:=60) Try.func39 (show Try.f39.body=some (DL Try.f39) by kernel_rfl) (show (loops (DL Try.f39)).filter (fun b=>Ed b==2)=[CZ Try.f39 2] by kernel_rfl) [0,1,7,8] [4] [] shX mX sX
def shY:S1:=⟨42,[(0,.sl 1),(1,fnO 0),(5,C4),(6,C4)],[.one 4 1 .bool,.many 49 8]⟩
abbrev lY (n l:Nat) (i j:Int) (fl nl:Bool) (es:List PV):LS:=([.n n,.n l,.i i,.i j],[.b fl,.l nl es])
noncomputable abbrev xY (n l:Nat) (i:Int) (fl nl:Bool) (es:List PV):PX × List PV × List Row:=(.exit 0,tm 42 [(0,.sl 1 n 0 l),(5,iv i)],(shY.put (lY n l i 0 fl nl es)).2)
def EK (e:PV):PV:=wayv (wI e) false (wL e) (wLv e) (e.cellAt 3).It (e.cellAt 4).It (Lc e) (e.cellAt 6).Dn (e.cellAt 7).Dn
theorem qY (n l:Nat) (i j:Int) (fl nl:Bool) (es:List PV):CR Try.prog R3 60 67 (CZ Try.f67 5) [0,1,5,6] [0,5] (shY.put (lY n l i j fl nl es)).1 (shY.put (lY n l i j fl nl es)).2 =
 bif decide (j<(l:Int)) then ixR es n l j (J0 es n (
  bif ((wL (rE es j)).length:Int)==0 then some (.normal,shY.put (lY n l i (W (j+1)) fl nl es)) else
  bif fl then (bif !Lc (rE es j) then stR es n l i (some (.normal,shY.put (lY n l (W (i+1)) (W (j+1)) fl nl (es.set (0+i.toNat) (EK (rE es j)))))) else some (.normal,shY.put (lY n l i (W (j+1)) fl nl es))) else
   stR es n l i (some (.normal,shY.put (lY n l (W (i+1)) (W (j+1)) fl nl (es.set (0+i.toNat) (EK (rE es j)))))))) else some (xY n l i fl nl es):=by kernel_rfl
def pY:LS->Bool
 | ([.n n,.n l,.i i,.i j],[.b _,.l _ es])=>decide (n=es.length)&&decide (l=es.length)&&decide (0<=i)&&decide (i<j)&&decide (j<=(es.length:Int))&&decide (es.length<=1000)
 | _=>false
noncomputable def fY:LS->DT (PX × List PV × List Row)
 | ([.n n,.n l,.i i,.i j],[.b fl,.l nl es])=>.leaf (xY n l (G4 (CT fl) EK es i j ((l:Int)-j).toNat).2 fl nl (G4 (CT fl) EK es i j ((l:Int)-j).toNat).1)
 | _=>.no
def mY:LS->Nat
 | ([.n _,.n l,.i _,.i j],[.b _,.l _ _])=>((l:Int)-j).toNat
 | _=>0
theorem shut_tree2 {fl:Bool} {e:PV} {α:Type} (x y:α):(bif ((wL e).length:Int)==0 then x else bif fl then bif !Lc e then y else x else y)=bif CT fl e then x else y:=by
 unfold CT;cases ((wL e).length:Int)==0 <;> cases fl <;> cases Lc e <;> rfl
theorem sY:∀ s r,pY s=true->(fY s).run=some r->r.1 ≠ .normal/\(CR Try.prog R3 60 67 (CZ Try.f67 5) [0,1,5,6] [0,5] (shY.put s).1 (shY.put s).2=some r \/
   ∃ s',CR Try.prog R3 60 67 (CZ Try.f67 5) [0,1,5,6] [0,5] (shY.put s).1 (shY.put s).2=some (.normal,shY.put s')/\pY s'=true/\mY s'<mY s/\(fY s').run=some r):=by
 intro t r hp hr;unfold pY at hp;split at hp
 ·rename_i n l i j fl nl es;simp only[Aa,Ab] at hp;obtain⟨⟨⟨⟨⟨rfl,rfl⟩,h3⟩,h4⟩,h5⟩,h6⟩:=hp;have hr':=(Ah hr).symm;refine⟨by rw[hr'];simp,?_⟩;rw[show shY.put ([.n es.length,.n es.length,.i i,.i j],[.b fl,.l nl es])=shY.put (lY es.length es.length i j fl nl es) from rfl,qY];by_cases hj:j<(es.length:Int)
  ·rw[Ac hj,Am,G5 rfl (by omega) hj,DQ rfl,Dc (n:=j+1) (by omega) (by omega),Dc (n:=i+1) (by omega) (by omega),shut_tree2,stR_of rfl h3 (by omega)];obtain⟨m,hm⟩:∃ m,((es.length:Int)-j).toNat=m+1:=⟨((es.length:Int)-j).toNat-1,by omega⟩;have hm2:((es.length:Int)-(j+1)).toNat=m:=by omega
   rw[hm] at hr';simp only[G4] at hr';right
   cases c1:CT fl (rE es j) with
   | true =>
    rw[c1] at hr';refine⟨lY es.length es.length i (j+1) fl nl es,rfl,by simp only[pY,Aa,Ab];exact⟨⟨⟨⟨⟨trivial,trivial⟩,h3⟩,by omega⟩,by omega⟩,h6⟩,by simp only[mY];omega,?_⟩;rw[hr'];simp only[fY,hm2,Am];rfl
   | false =>
    rw[c1] at hr';refine⟨lY es.length es.length (i+1) (j+1) fl nl (es.set (0+i.toNat) (EK (rE es j))),rfl,by
     simp only[pY,Aa,Ab,Bv];exact⟨⟨⟨⟨⟨trivial,trivial⟩,by omega⟩,by omega⟩,by omega⟩,h6⟩,by simp only[mY];omega,?_⟩
    rw[hr'];simp only[fY,hm2,At];rfl
  ·rw[Aj hj];rw[show ((es.length:Int)-j).toNat=0 by omega] at hr';exact .inl (by rw[hr'];rfl)
 ·cases hp
noncomputable def R4:CO:=R3.C8 67 5 [0,1,5,6] [] shY pY fY
theorem okR4:Ck Try.prog R4.env:=
 okR3.C8 (n:=60) Try.func67 (show Try.f67.body=some (DL Try.f67) by kernel_rfl) (show (loops (DL Try.f67)).filter (fun b=>Ed b==5)=[CZ Try.f67 5] by kernel_rfl) [0,1,5,6] [0,5] [] shY mY sY
noncomputable def R5:CO:=R4.FN 67
theorem okR5:Ck Try.prog R5.env:=okR4.FN 67
abbrev zW:PV:=wayv 0 false [] 0 (ByteArray.mk #[]) (ByteArray.mk #[]) false 0 0
def clrL (z:PV) (es:List PV) (i:Int) (l:Nat):List PV:=es.take (0+i.toNat)++List.replicate ((l:Int)-i).toNat z++es.drop (0+i.toNat+((l:Int)-i).toNat)
def endO (L:Nat) (D:List PV) (i:Int):Option PV:=
 bif (D.length==L)&&true then bif decide (0<=i)&&decide (i<(L:Int))&&decide (i<=(L:Int))&&decide ((L:Int)<=(L:Int)) then bif D.length==L then
  bif ((clrL zW D i L).length==L)&&true then bif decide (0<=i)&&decide (i<=(L:Int)) then J0 (clrL zW D i L) L (some (.CQ false 49 (((clrL zW D i L).drop 0).take i.toNat))) else none else none else none
  else (bif decide (i=(L:Int))&&decide ((L:Int)=(L:Int)) then none else none) else none
def opnT (fl:Bool) (E:List PV) (L:Nat):Option PV:=
 J0 E L (J0 E L (bif pX (lX L L (L:Int) 0 fl false E) then bif Iz (CT fl) E 0 ((L:Int)-0).toNat then
  bif Fi (CT fl) E 0 ((L:Int)-0).toNat == -1 then J0 E L (some (.CQ false 49 ((E.drop 0).take L))) else
   bif pY (lY L L (Fi (CT fl) E 0 ((L:Int)-0).toNat) (W (Fi (CT fl) E 0 ((L:Int)-0).toNat+1)) fl false E) then
    endO L (G4 (CT fl) EK E (Fi (CT fl) E 0 ((L:Int)-0).toNat) (W (Fi (CT fl) E 0 ((L:Int)-0).toNat+1)) ((L:Int)-W (Fi (CT fl) E 0 ((L:Int)-0).toNat+1)).toNat).1
     (G4 (CT fl) EK E (Fi (CT fl) E 0 ((L:Int)-0).toNat) (W (Fi (CT fl) E 0 ((L:Int)-0).toNat+1)) ((L:Int)-W (Fi (CT fl) E 0 ((L:Int)-0).toNat+1)).toNat).2 else none
  else J0 E L (some (.CQ false 49 ((E.drop 0).take L))) else none))
theorem qOpen (f fl:Bool) (es:List PV):Dw Try.prog R5 60 38 [.CQ f 49 es,bv fl] =
 bif decide (0<es.length) then bif decide ((0+es.length)*96<=140737488355328) then opnT fl ([]++es) (0+es.length) else none else none:=by kernel_rfl
theorem pcall_nil {P:Program} {k:FuncId} {args:List PV} {t:TypeId} (h:Da P k args (.val (.slice none 0 0))):Da P k args (.CQ false t []):=by
 intro C hR Vs hs;refine Calls.mono (h C hR Vs hs) fun e w' hq => ?_
 obtain⟨V,h1,h2,h3⟩:=hq;refine⟨V,h1,h2,?_⟩;cases h3;exact .CQ 0 0 (fun _ _=>undef) (Ak _) (fun h=>by cases h) (fun h=>by simp at h) (fun x e j p h1 _=>by simp at h1) (fun x e j p h1 _=>by simp at h1) (fun e h1=>by cases h1)
theorem pcall_empty {P:Program} {k:FuncId} {f:Bool} {t:TypeId} {ags:List PV} {r:PV} (h0:∀ cap,Da P k (.val (.slice none 0 cap)::ags) r) (h1:∀ a cap,Da P k (.val (.slice (some a) 0 cap)::ags) r):Da P k (.CQ f t []::ags) r:=by
 intro C hR Vs hs;have h0s:0<Vs.size:=by rw[hs.1];simp
 have hv:=hs.2 0 _ Vs[0] rfl (AB h0s);have go:∀ V:Value,V=Vs[0]->Cs P C (.val V::ags) Vs:=fun V hV=>⟨by rw[hs.1];simp,fun j c v g1 g2=>by
  match j with
  | 0 =>
   simp only[AV,A3] at g1;subst g1;rw[AB h0s] at g2;cases g2;rw[hV];exact .val
  | j+1=>exact hs.2 (j+1) c v (by simpa using g1) g2⟩
 generalize hV:Vs[0]=V at hv;cases hv with
 | @CQ _ _ _ a cap b off cv hcap hfull ha hc hr ht =>
  cases a with
  | none=>exact h0 cap C hR Vs (go _ hV.symm)
  | some ad=>exact h1 ad cap C hR Vs (go _ hV.symm)
noncomputable def ED (nE:PV->PV) (es:List PV):Bool:=@decide (Em nE es) (Classical.propDecidable _)
theorem DM {nE:PV->PV} {es:List PV}:ED nE es=true ↔ Em nE es:=by unfold ED;exact @BZ _ (Classical.propDecidable _)
theorem opnT_eq {fl:Bool} {es:List PV} (h:es.length<=1000) (hN:Em EK es):opnT fl es es.length=some (.CQ false 49 (CU (CT fl) es)):=by
 unfold opnT;have hp:pX (lX es.length es.length (es.length:Int) 0 fl false es)=true:=by simp only[pX,Aa,Ab];exact⟨⟨⟨⟨⟨trivial,trivial⟩,trivial⟩,by omega⟩,by omega⟩,h⟩
 rw[DQ rfl,DQ rfl,hp,show ((es.length:Int)-0).toNat=es.length by omega,Am,DQ rfl,AM,Be];cases ha:Iz (CT fl) es 0 es.length with
 | false =>
  have g:=(del_none (Ak _) ha zW).1;rw[Be] at g;rw[At,g]
 | true =>
  obtain⟨g1,g2,g3,g4,g5,g6,g7,g8,g9⟩:=del_some hN (Ak _) ha zW rfl rfl;rw[Be] at g5 g7;generalize Fi (CT fl) es 0 es.length=x at *;have hw:W (x+1)=x+1:=Dc (by omega) (by omega);have hy:pY (lY es.length es.length x (x+1) fl false es)=true:=by simp only[pY,Aa,Ab];exact⟨⟨⟨⟨⟨trivial,trivial⟩,by omega⟩,by omega⟩,by omega⟩,h⟩
  rw[hw,hy,Am,Am,show (x == -1)=false by rw[AQ];omega,At];generalize G4 (CT fl) EK es x (x+1) ((es.length:Int)-(x+1)).toNat=r at *;obtain⟨D,i⟩:=r;dsimp only at g3 g4 g5 g6 g7 g8 g9 ⊢;have hc:(clrL zW D i es.length).take i.toNat=D.take i.toNat:=by
   unfold clrL;rw[AN,BG,List.take_left' (by rw[Az];omega)]
  have hcl:(clrL zW D i es.length).length=es.length:=by
   unfold clrL;simp only[Ar,Az,B8,B1];omega
  unfold endO;rw[hcl,g6,AR,show (decide (0<=i)&&decide (i<(es.length:Int))&&decide (i<=(es.length:Int))&&decide ((es.length:Int)<=(es.length:Int)))=true by simp;omega,show (decide (0<=i)&&decide (i<=(es.length:Int)))=true by simp;omega,DQ hcl,AM,hc,g7];rfl
theorem qOpenN (f fl:Bool) (es:List PV) (h:es.length<=1000) (hN:Em EK es) (h0:0<es.length):Dw Try.prog R5 60 38 [.CQ f 49 es,bv fl]=some (.CQ false 49 (CU (CT fl) es)):=by
 rw[qOpen,Ac h0,Ac (show (0+es.length)*96<=140737488355328 by omega),BM,AN,opnT_eq h hN];rfl
theorem qOpA (a:Addr) (cap:Nat) (fl:Bool):Dw Try.prog R5 60 38 [.val (.slice (some a) 0 cap),bv fl]=some (.CQ false 49 []):=by kernel_rfl
theorem qOpZ (fl:Bool):Dw Try.prog R5 60 38 [.val (.slice none 0 0),bv fl]=some (.val (.slice none 0 0)):=by kernel_rfl
theorem qOpS (n:Nat) (fl:Bool):Dw Try.prog R5 60 38 [.val (.slice none 0 (n+1)),bv fl]=some (.val (.slice none 0 0)):=by kernel_rfl
theorem qOpN (fl:Bool):∀ cap:Nat,Dw Try.prog R5 60 38 [.val (.slice none 0 cap),bv fl]=some (.val (.slice none 0 0))
 | 0=>qOpZ fl
 | n+1=>qOpS n fl
noncomputable def cOpen:List PV->Option (DT PV)
 | [.CQ _ 49 es,.val (.bool fl)]=>some (.br (decide (es.length<=1000)&&ED EK es) (.leaf (.CQ false 49 (CU (CT fl) es))) .no)
 | [.val (.slice none 0 0),.val (.bool _)]=>some (.leaf (.CQ false 49 []))
 | _=>none
theorem eOpen:Hx.CV Try.prog 38:=(CK okR5 (n:=60) (qOpZ false)).1
theorem oOpen (args:List PV) (d:DT PV) (r:PV) (h:cOpen args=some d) (hr:d.run=some r):Da Try.prog 38 args r:=by
 unfold cOpen at h;split at h
 ·rename_i f es fl;cases h;obtain⟨h1,rfl⟩:=DI hr;simp only[Aa,Ab,DM] at h1;by_cases h0:0<es.length
  ·exact (CK okR5 (n:=60) (qOpenN f fl es h1.1 h1.2 h0)).2
  ·have:es=[]:=Bz (by omega);subst this;exact pcall_empty (fun cap=>pcall_nil (CK okR5 (n:=60) (qOpN fl cap)).2) fun a cap=>(CK okR5 (n:=60) (qOpA a cap fl)).2
 ·rename_i fl;cases h;cases hr;exact pcall_nil (CK okR5 (n:=60) (qOpN fl 0)).2
 ·cases h
noncomputable def R6:CO:=R5.DF 38 cOpen
theorem okR6:Ck Try.prog R6.env:=okR5.DF eOpen oOpen
noncomputable def R7:CO:=R6.D6 37 6
theorem okR7:Ck Try.prog R7.env:=okR6.D6 37 6
def shS:S1:=⟨27,[(3,.mp 0),(10,.CQ 49),(11,C4),(12,C4)],[.map 30 4]⟩
abbrev lS (f:Bool) (es:List PV) (len i:Int) (D:List (PV × PV)):LS:=([.l f es,.i len,.i i],[.m D])
def DG (D:List (PV × PV)) (e:PV):List (PV × PV):=Ej (Ej D (stF (wL e) (wLv e)) (bv true)) (stL (wL e) (wLv e)) (bv true)
def GD (es:List PV) (D:List (PV × PV)):List (PV × PV):=es.foldl DG D
noncomputable abbrev xS (D:List (PV × PV)):PX × List PV × List Row:=(.exit 0,tm 27 [(3,.mp 0)],[Dd k0 30 4 D])
theorem qS (f:Bool) (es:List PV) (len i:Int) (D:List (PV × PV)):CR Try.prog R7 60 37 (CZ Try.f37 3) [3,10,11,12] [3] (shS.put (lS f es len i D)).1 (shS.put (lS f es len i D)).2 =
 bif decide (i<len) then bif decide (0<=i)&&decide (i<(es.length:Int)) then bif stB (wL (es.getD i.toNat .any)) then
  some (.normal,shS.put (lS f es len (W (i+1)) (DG D (es.getD i.toNat .any)))) else none else none else some (xS D):=by kernel_rfl
def pS:LS->Bool
 | ([.l _ es,.i len,.i i],[.m _])=>decide (len=(es.length:Int))&&decide (0<=i)&&decide (i<=len)&&decide (es.length<=1000)&&(es.drop i.toNat).all fun e=>stB (wL e)
 | _=>false
noncomputable def fS:LS->DT (PX × List PV × List Row)
 | ([.l _ es,.i _,.i i],[.m D])=>.leaf (xS (GD (es.drop i.toNat) D))
 | _=>.no
def mS:LS->Nat
 | ([.l _ _,.i len,.i i],[.m _])=>(len-i).toNat
 | _=>0
theorem Db {es:List PV} {i:Int} (h1:0<=i) (h2:i<(es.length:Int)):es.drop i.toNat=es.getD i.toNat .any::es.drop (i+1).toNat:=by
 rw[BY (by omega),show (i+1).toNat=i.toNat+1 by omega,AA,Ae (by omega)];rfl
theorem sS:∀ s r,pS s=true->(fS s).run=some r->r.1 ≠ .normal/\(CR Try.prog R7 60 37 (CZ Try.f37 3) [3,10,11,12] [3] (shS.put s).1 (shS.put s).2=some r \/
   ∃ s',CR Try.prog R7 60 37 (CZ Try.f37 3) [3,10,11,12] [3] (shS.put s).1 (shS.put s).2=some (.normal,shS.put s')/\pS s'=true/\mS s'<mS s/\(fS s').run=some r):=by
 intro t r hp hr;unfold pS at hp;split at hp
 ·rename_i f es len i D;simp only[Aa,Ab] at hp;obtain⟨⟨⟨⟨rfl,h2⟩,h3⟩,h4⟩,h5⟩:=hp;have hr':=(Ah hr).symm;refine⟨by rw[hr'];simp,?_⟩;rw[show shS.put ([.l f es,.i (es.length:Int),.i i],[.m D])=shS.put (lS f es (es.length:Int) i D) from rfl,qS];by_cases hi:i<(es.length:Int)
  ·rw[Db h2 hi,Ce,Aa] at h5;rw[Ac hi,Ac h2,h5.1,Dc (by omega) (by omega)];refine .inr ⟨lS f es es.length (i+1) (DG D (es.getD i.toNat .any)),rfl,by simp only[pS,Aa,Ab];exact⟨⟨⟨⟨trivial,by omega⟩,by omega⟩,h4⟩,h5.2⟩,by simp only[mS];omega,?_⟩;rw[hr',Db h2 hi];rfl
  ·rw[Aj hi,AG (by omega)] at *;exact .inl (by rw[hr'];rfl)
 ·cases hp
noncomputable def R8:CO:=R7.C8 37 3 [3,10,11,12] [] shS pS fS
theorem okR8:Ck Try.prog R8.env:=
 okR7.C8 (n:=60) Try.func37 (show Try.f37.body=some (DL Try.f37) by kernel_rfl) (show (loops (DL Try.f37)).filter (fun b=>Ed b==3)=[CZ Try.f37 3] by kernel_rfl) [3,10,11,12] [3] [] shS mS sS
noncomputable def R9:CO:=(R8.FN 37).addRng Try.prog
theorem okR9:Ck Try.prog R9.env:=(okR8.FN 37).addRng
def cCmpI:List PV->Option PV | [.val (.int .i64 a),.val (.int .i64 b)]=>some (iv (sgn (a-b))) | _=>none
theorem cmp_tree (a b:Int):(bif a != a then (bif b != b then some (iv 0) else some (iv (-1))) else bif b != b then some (iv 1) else bif decide (a<b) then some (iv (-1)) else bif decide (a > b) then some (iv 1) else some (iv 0))=some (iv (sgn (a-b))):=by
 rw[bne_self_eq_false,bne_self_eq_false];unfold sgn;by_cases h1:a<b
 ·rw[Ac h1,Ai (by omega)];rfl
 ·rw[Aj h1,An (by omega)];by_cases h2:a > b
  ·rw[Ac h2,Ai (by omega)];rfl
  ·rw[Aj h2,An (by omega)];rfl
theorem qCmpI (a b:Int):Dw Try.prog R9 60 48 [iv a,iv b]=bif a != a then (bif b != b then some (iv 0) else some (iv (-1))) else bif b != b then some (iv 1) else bif decide (a<b) then some (iv (-1)) else bif decide (a > b) then some (iv 1) else some (iv 0):=by kernel_rfl
theorem oCmpI (args:List PV) (r:PV) (h:cCmpI args=some r):Hx.CV Try.prog 48/\Da Try.prog 48 args r:=by
 unfold cCmpI at h;split at h
 ·rename_i a b;cases h;exact CK okR9 (n:=60) ((qCmpI a b).trans (cmp_tree a b))
 ·cases h
noncomputable def R10:CO:=R9.EC 48 cCmpI
theorem okR10:Ck Try.prog R10.env:=okR9.EC oCmpI
def or4 (a b c d:Int):Int:=bif a != 0 then a else bif b != 0 then b else bif c != 0 then c else bif d != 0 then d else 0
def cOr:List PV->Option PV
 | [.CQ _ 3 [.val (.int .i64 a),.val (.int .i64 b),.val (.int .i64 c),.val (.int .i64 d)]]=>some (iv (or4 a b c d))
 | _=>none
theorem qOr4f (f:Bool) (a b c d:Int):Dw Try.prog R10 60 47 [.CQ f 3 [iv a,iv b,iv c,iv d]]=bif a != 0 then some (iv a) else bif b != 0 then some (iv b) else bif c != 0 then some (iv c) else bif d != 0 then some (iv d) else some (iv 0):=by kernel_rfl
theorem oOr (args:List PV) (r:PV) (h:cOr args=some r):Hx.CV Try.prog 47/\Da Try.prog 47 args r:=by
 unfold cOr at h;split at h
 ·rename_i f a b c d;cases h;refine CK okR10 (n:=60) ((qOr4f f a b c d).trans ?_);unfold or4;cases a != 0 <;> cases b != 0 <;> cases c != 0 <;> cases d != 0 <;> rfl
 ·cases h
noncomputable def R11:CO:=R10.EC 47 cOr
theorem okR11:Ck Try.prog R11.env:=okR10.EC oOr
def farI (px py x y:Int):Int:=W (W (W (px-x)*W (px-x))+W (W (py-y)*W (py-y)))
def cmpS (px py ax ay al bx bY bl:Int):Int:=or4 (sgn (farI px py ax ay-farI px py bx bY)) (sgn (ax-bx)) (sgn (ay-bY)) (sgn (al-bl))
abbrev pR (x y:Int):Row:={ es:=[FC x y],s:=2,t:=28,bv:=true }
abbrev fR:Row:={ es:=[.fn (.func 44) [] [.ptr 0 1 0 0]],s:=1,t:=92,bv:=false }
abbrev aS:X1:=.agg [C4,C4,C4]
def shL:S1:=⟨31,[(0,.CQ 30),(1,.fn 46 [] [.ptr 5 1 0 0]),(4,.ptr 6 1 0 0),(6,.ptr 7 1 0 0),(9,.CQ 30),(10,C4),(11,C4)],
 [.one 28 2 (.agg [C4,C4]),.one 30 3 aS,.map 30 4,.its 2,.dead,.Gl 92 1 (.fn 44 [] [.ptr 0 1 0 0]),.one 30 3 aS,.one 30 3 aS]⟩
abbrev gX (e:PV):Int:=(e.cellAt 0).Dn
abbrev gY (e:PV):Int:=(e.cellAt 1).Dn
abbrev gL (e:PV):Int:=(e.cellAt 2).Dn
abbrev lL (c0 c1 c2:Int) (D:List (PV × PV)) (g:Bool) (es0:List PV) (f:Bool) (es:List PV) (len i px py a0 a1 a2 b0 b1 b2:Int):LS:=([.l g es0,.l f es,.i len,.i i],[.i px,.i py,.i c0,.i c1,.i c2,.m D,.i a0,.i a1,.i a2,.i b0,.i b1,.i b2])
noncomputable abbrev xL (c0 c1 c2:Int) (D:List (PV × PV)) (g:Bool) (es0:List PV) (px py a0 a1 a2 b0 b1 b2:Int):PX × List PV × List Row:=(.exit 0,tm 31 [(0,.CQ g 30 es0),(4,.ptr 6 1 0 0),(6,.ptr 7 1 0 0)],(shL.put (lL c0 c1 c2 D g es0 g es0 0 0 px py a0 a1 a2 b0 b1 b2)).2)
theorem qL (c0 c1 c2:Int) (D:List (PV × PV)) (g:Bool) (es0:List PV) (f:Bool) (es:List PV) (len i px py a0 a1 a2 b0 b1 b2:Int):CR Try.prog R11 60 45 (CZ Try.f45 3) [0,1,4,6,9,10,11] [0,4,6] (shL.put (lL c0 c1 c2 D g es0 f es len i px py a0 a1 a2 b0 b1 b2)).1 (shL.put (lL c0 c1 c2 D g es0 f es len i px py a0 a1 a2 b0 b1 b2)).2 =
 bif decide (i<len) then bif decide (0<=i)&&decide (i<(es.length:Int)) then
  bif i==0 then some (.normal,shL.put (lL c0 c1 c2 D g es0 f es len (W (i+1)) px py a0 a1 a2 (gX (es.getD i.toNat .any)) (gY (es.getD i.toNat .any)) (gL (es.getD i.toNat .any)))) else
  bif decide (cmpS px py (gX (es.getD i.toNat .any)) (gY (es.getD i.toNat .any)) (gL (es.getD i.toNat .any)) b0 b1 b2<0) then some (.normal,shL.put (lL c0 c1 c2 D g es0 f es len (W (i+1)) px py a0 a1 a2 (gX (es.getD i.toNat .any)) (gY (es.getD i.toNat .any)) (gL (es.getD i.toNat .any))))
  else some (.normal,shL.put (lL c0 c1 c2 D g es0 f es len (W (i+1)) px py a0 a1 a2 b0 b1 b2)) else none else some (xL c0 c1 c2 D g es0 px py a0 a1 a2 b0 b1 b2):=by kernel_rfl
abbrev T3:=Int × Int × Int
abbrev EN (e:PV):T3:=(gX e,gY e,gL e)
def Im (px py:Int) (a b:T3):Bool:=decide (cmpS px py a.1 a.2.1 a.2.2 b.1 b.2.1 b.2.2<0)
def Io (px py:Int):Bool->T3->List PV->T3
 | _,b,[]=>b
 | first,b,e::es=>Io px py false (bif first then EN e else bif Im px py (EN e) b then EN e else b) es
def pL:LS->Bool
 | ([.l _ _,.l _ es,.i len,.i i],[.i _,.i _,.i _,.i _,.i _,.m _,.i _,.i _,.i _,.i _,.i _,.i _])=>decide (len=(es.length:Int))&&decide (0<=i)&&decide (i<=len)&&decide (es.length<=10000)
 | _=>false
noncomputable def fL:LS->DT (PX × List PV × List Row)
 | ([.l g es0,.l _ es,.i _,.i i],[.i px,.i py,.i c0,.i c1,.i c2,.m D,.i a0,.i a1,.i a2,.i b0,.i b1,.i b2]) =>
  .leaf (xL c0 c1 c2 D g es0 px py a0 a1 a2 (Io px py (i==0) (b0,b1,b2) (es.drop i.toNat)).1 (Io px py (i==0) (b0,b1,b2) (es.drop i.toNat)).2.1 (Io px py (i==0) (b0,b1,b2) (es.drop i.toNat)).2.2)
 | _=>.no
def mL:LS->Nat
 | ([.l _ _,.l _ _,.i len,.i i],_)=>(len-i).toNat
 | _=>0
theorem sLs:∀ s r,pL s=true->(fL s).run=some r->r.1 ≠ .normal/\(CR Try.prog R11 60 45 (CZ Try.f45 3) [0,1,4,6,9,10,11] [0,4,6] (shL.put s).1 (shL.put s).2=some r \/
   ∃ s',CR Try.prog R11 60 45 (CZ Try.f45 3) [0,1,4,6,9,10,11] [0,4,6] (shL.put s).1 (shL.put s).2=some (.normal,shL.put s')/\pL s'=true/\mL s'<mL s/\(fL s').run=some r):=by
 intro t r hp hr;unfold pL at hp;split at hp
 ·rename_i g es0 f es len i px py c0 c1 c2 D a0 a1 a2 b0 b1 b2;simp only[Aa,Ab] at hp;obtain⟨⟨⟨rfl,h2⟩,h3⟩,h4⟩:=hp;have hr':=(Ah hr).symm;refine⟨by rw[hr'];simp,?_⟩;rw[show shL.put ([.l g es0,.l f es,.i (es.length:Int),.i i],[.i px,.i py,.i c0,.i c1,.i c2,.m D,.i a0,.i a1,.i a2,.i b0,.i b1,.i b2])=shL.put (lL c0 c1 c2 D g es0 f es (es.length:Int) i px py a0 a1 a2 b0 b1 b2) from rfl,qL];by_cases hi:i<(es.length:Int)
  ·rw[Ac hi,Ac h2,Dc (by omega) (by omega)];have hi1:(i+1==0)=false:=by rw[AQ];omega
   have go:∀ e0 e1 e2:Int,(e0,e1,e2)=(bif i==0 then EN (es.getD i.toNat .any) else bif Im px py (EN (es.getD i.toNat .any)) (b0,b1,b2) then EN (es.getD i.toNat .any) else (b0,b1,b2)) ->
     ∃ s',shL.put (lL c0 c1 c2 D g es0 f es (es.length:Int) (i+1) px py a0 a1 a2 e0 e1 e2)=shL.put s'/\pL s'=true/\mL s'<mL (lL c0 c1 c2 D g es0 f es (es.length:Int) i px py a0 a1 a2 b0 b1 b2)/\(fL s').run=some r:=fun e0 e1 e2 hc=>by
    refine⟨lL c0 c1 c2 D g es0 f es (es.length:Int) (i+1) px py a0 a1 a2 e0 e1 e2,rfl,by simp only[pL,Aa,Ab];exact⟨⟨⟨trivial,by omega⟩,by omega⟩,h4⟩,by simp only[mL];omega,?_⟩;rw[hr',Db h2 hi];simp only[Io,fL,hi1];rw[<- hc];rfl
   simp only[Am,Bn];cases c1:i==0 with
   | true =>
    obtain⟨s',g1,g2,g3,g4⟩:=go (gX (es.getD i.toNat .any)) (gY (es.getD i.toNat .any)) (gL (es.getD i.toNat .any)) (by rw[c1];rfl);exact .inr ⟨s',by rw[Am,g1],g2,g3,g4⟩
   | false =>
    cases c2:decide (cmpS px py (gX (es.getD i.toNat .any)) (gY (es.getD i.toNat .any)) (gL (es.getD i.toNat .any)) b0 b1 b2<0) with
    | true =>
     obtain⟨s',g1,g2,g3,g4⟩:=go (gX (es.getD i.toNat .any)) (gY (es.getD i.toNat .any)) (gL (es.getD i.toNat .any)) (by rw[c1];simp only[Im,c2];rfl);exact .inr ⟨s',by rw[At,Am,g1],g2,g3,g4⟩
    | false =>
     obtain⟨s',g1,g2,g3,g4⟩:=go b0 b1 b2 (by rw[c1];simp only[Im,c2];rfl);exact .inr ⟨s',by rw[At,At,g1],g2,g3,g4⟩
  ·rw[Aj hi];rw[AG (by omega)] at hr';exact .inl (by rw[hr'];rfl)
 ·cases hp
noncomputable def R12:CO:=R11.C8 45 3 [0,1,4,6,9,10,11] [false,true,false,false,false,false,true,true] shL pL fL
theorem okR12:Ck Try.prog R12.env:=
 okR11.C8 (n:=60) Try.func45 (show Try.f45.body=some (DL Try.f45) by kernel_rfl) (show (loops (DL Try.f45)).filter (fun b=>Ed b==3)=[CZ Try.f45 3] by kernel_rfl) [0,1,4,6,9,10,11] [0,4,6] [false,true,false,false,false,false,true,true] shL mL sLs
theorem or4_neg {a b c d:Int}:or4 a b c d<0 ↔ a<0\/a=0/\(b<0\/b=0/\(c<0\/c=0/\d<0)):=by
 have nz:∀ {n:Int},n ≠ 0->(n != 0)=true:=fun h=>bne_iff_ne.2 h
 unfold or4;by_cases ha:a=0
 ·subst ha;by_cases hb:b=0
  ·subst hb;by_cases hc:c=0
   ·subst hc;by_cases hd:d=0
    ·subst hd;simp
    ·rw[nz hd];simp
   ·rw[nz hc];simp[hc]
  ·rw[nz hb];simp[hb]
 ·rw[nz ha];simp[ha]
theorem KX {n:Int}:sgn n<0 ↔ n<0:=by unfold sgn;split <;> (try split) <;> omega
theorem sgn_zero {n:Int}:sgn n=0 ↔ n=0:=by unfold sgn;split <;> (try split) <;> omega
abbrev farT (px py:Int) (a:T3):Int:=farI px py a.1 a.2.1
theorem IY {px py:Int} {a b:T3}:Im px py a b=true ↔ farT px py a<farT px py b\/farT px py a=farT px py b/\(a.1<b.1\/a.1=b.1/\(a.2.1<b.2.1\/a.2.1=b.2.1/\a.2.2<b.2.2)):=by
 unfold Im cmpS;rw[BZ,or4_neg,KX,KX,KX,KX,sgn_zero,sgn_zero,sgn_zero];simp only[farT];omega
theorem lessS_irr {px py:Int} {a:T3}:Im px py a a=false:=by
 rw[Cw,ne_eq,IY];omega
theorem lessS_tot {px py:Int} {a b:T3} (h1:Im px py a b=false) (h2:Im px py b a=false):a=b:=by
 rw[Cw,ne_eq,IY] at h1 h2;obtain⟨a1,a2,a3⟩:=a;obtain⟨b1,b2,b3⟩:=b;simp only at h1 h2;have e1:a1=b1:=by omega
 have e2:a2=b2:=by omega
 have e3:a3=b3:=by omega
 rw[e1,e2,e3]
theorem lessS_trans {px py:Int} {a b c:T3} (h1:Im px py b a=false) (h2:Im px py c b=false):Im px py c a=false:=by
 rw[Cw,ne_eq,IY] at *;omega
def Ip (px py:Int) (m:T3) (l:List T3):Prop:=m ∈ l/\∀ x ∈ l,Im px py x m=false
theorem Ip.uniq {px py:Int} {m n:T3} {l:List T3} (h:Ip px py m l) (k:Ip px py n l):m=n:=lessS_tot (k.2 m h.1) (h.2 n k.1)
theorem Ip.perm {px py:Int} {m:T3} {l l':List T3} (h:Ip px py m l) (p:l.Perm l'):Ip px py m l':=⟨p.mem_iff.1 h.1,fun x hx=>h.2 x (p.mem_iff.2 hx)⟩
theorem Kt {px py:Int}:∀ (es:List PV) (b:T3),Ip px py (Io px py false b es) (b::es.map EN)
 | [],b=>⟨by simp[Io],fun x hx=>by simp at hx;subst hx;exact lessS_irr⟩
 | e::es,b=>by
  rw[Io,At];cases h:Im px py (EN e) b with
  | true =>
   obtain⟨h1,h2⟩:=Kt (px:=px) (py:=py) es (EN e);rw[Am];refine⟨AU _ h1,fun x hx => ?_⟩;rcases AK.1 hx with rfl | hx
   ·have h3:=h2 (EN e) (AJ ..);refine lessS_trans h3 ?_;rw[Cw,ne_eq,IY];rw[IY] at h;omega
   ·exact h2 x hx
  | false =>
   obtain⟨h1,h2⟩:=Kt (px:=px) (py:=py) es b;rw[At];refine⟨?_,fun x hx => ?_⟩
   ·rcases AK.1 h1 with h1 | h1
    ·rw[h1];exact AJ ..
    ·exact AU _ (AU _ h1)
   ·rcases AK.1 hx with rfl | hx
    ·exact h2 _ (AJ ..)
    ·rcases AK.1 hx with rfl | hx
     ·exact lessS_trans (h2 b (AJ ..)) h
     ·exact h2 x (AU _ hx)
theorem bestS_true {px py:Int} {b:T3} {es:List PV} (h:es ≠ []):Ip px py (Io px py true b es) (es.map EN):=by
 cases es with
 | nil=>exact absurd rfl h
 | cons e es=>exact Kt es (EN e)
theorem bestS_perm {px py:Int} {b:T3} {es es':List PV} (h:es'.Perm es):Io px py true b es'=Io px py true b es:=by
 by_cases h0:es=[]
 ·subst h0;rw[h.eq_nil]
 ·have h1:es' ≠ []:=fun e=>h0 (by subst e;exact h.nil_eq.symm ▸ rfl)
  exact ((bestS_true (px:=px) (py:=py) (b:=b) h1).perm (h.map EN)).uniq (bestS_true h0)
abbrev fcmp:PV:=.fn (.func 46) [] [.ptr 5 1 0 0]
abbrev bstV (px py:Int) (es:List PV):PV:=.D8 [Dy (Io px py true (0,0,0) es).1 (Io px py true (0,0,0) es).2.1 (Io px py true (0,0,0) es).2.2,bv (decide ((es.length:Int) > 0))]
abbrev cellR (a b c:Int):Row:={ es:=[Dy a b c],s:=3,t:=30,bv:=true }
abbrev hL (px py c0 c1 c2:Int) (D:List (PV × PV)):List Row:=[pR px py,cellR c0 c1 c2,Dd k0 30 4 D,C9 (.mp 2) .some,C6,fR]
theorem qLeast (px py c0 c1 c2:Int) (D:List (PV × PV)) (f:Bool) (es:List PV):JV Try.prog R12 60 45 [.CQ f 30 es,fcmp] (hL px py c0 c1 c2 D) =
 bif pL (lL c0 c1 c2 D f es f es (es.length:Int) 0 px py 0 0 0 0 0 0) then some (bstV px py es,hL px py c0 c1 c2 D) else none:=by kernel_rfl
def cLeast:Nat->List PV->List Row->Option (DT (PV × List Row))
 | 0,[.KI 30 es,.fn (.func 46) [] [.ptr 5 1 0 0]],[⟨[.agg [.val (.int .i64 px),.val (.int .i64 py)]],2,28,true,true,false,none,false⟩,
   ⟨[.agg [.val (.int .i64 c0),.val (.int .i64 c1),.val (.int .i64 c2)]],3,30,true,true,false,none,false⟩,
   ⟨[],0,0,true,false,false,some ⟨⟨0,[],⟨[]⟩,.skip,.skip⟩,.map 30 4 D⟩,false⟩,
   ⟨[],0,0,true,false,false,some ⟨⟨0,[.mp 2],⟨[]⟩,.skip,.skip⟩,.iter .some⟩,false⟩,⟨[],0,0,true,false,false,none,false⟩,
   ⟨[.fn (.func 44) [] [.ptr 0 1 0 0]],1,92,false,true,false,none,false⟩] =>
  some (.br (decide (es.length<=10000)) (.leaf (bstV px py es,hL px py c0 c1 c2 D)) .no)
 | _,_,_=>none
theorem pL0 {c0 c1 c2:Int} {D:List (PV × PV)} {f:Bool} {es:List PV} {px py:Int} (h:es.length<=10000):pL (lL c0 c1 c2 D f es f es (es.length:Int) 0 px py 0 0 0 0 0 0)=true:=by
 simp only[pL,Aa,Ab];exact⟨⟨⟨trivial,by omega⟩,by omega⟩,h⟩
theorem qLeastN (px py c0 c1 c2:Int) (D:List (PV × PV)) (f:Bool) (es:List PV) (h:es.length<=10000):ET Try.prog 0 45 [.CQ f 30 es,fcmp] (hL px py c0 c1 c2 D) (bstV px py es) (hL px py c0 c1 c2 D):=
 (Dm okR12 ((qLeast px py c0 c1 c2 D f es).trans (by rw[pL0 h];rfl))).2
theorem eLeast:Hx.CV Try.prog 45:=(Dm okR12 ((qLeast 0 0 0 0 0 [] false []).trans (by rw[pL0 (by simp)];rfl))).1
theorem FK {α:Type} {b:Bool} {x r:α} (h:(DT.br b (.leaf x) .no).run=some r):b=true/\r=x:=by
 cases b with
 | true=>cases h;exact⟨rfl,rfl⟩
 | false=>cases h
theorem oLeast (ro:Nat) (args:List PV) (H:List Row) (d:DT (PV × List Row)) (q:PV) (H':List Row) (h:cLeast ro args H=some d) (hd:d.run=some (q,H')):ET Try.prog ro 45 args H q H':=by
 unfold cLeast at h;split at h
 ·rename_i es px py c0 c1 c2 D;cases h;obtain⟨hc,he⟩:=FK hd;cases he;have hc:=AS hc;intro C hH hro hR Vs hs;have h0s:0<Vs.size:=by rw[hs.1];simp
  have hv:=hs.2 0 _ Vs[0] rfl (AB h0s);generalize hV:Vs[0]=V at hv;cases hv with
  | @KI _ _ es' _ hp hv' =>
   have hl:es'.length=es.length:=hp.length_eq;have:=qLeastN px py c0 c1 c2 D false es' (by rw[hl];exact hc) C hH hro hR Vs ⟨by rw[hs.1];simp,fun j c v g1 g2=>by
    match j with
    | 0 =>
     simp only[AV,A3] at g1;subst g1;rw[AB h0s] at g2;cases g2;rw[hV];exact hv'
    | j+1=>exact hs.2 (j+1) c v (by simpa using g1) g2⟩
   unfold bstV at this ⊢;rw[bestS_perm hp,hl] at this;exact this
 ·cases h
noncomputable def R13:CO:=R12.addC 45 cLeast
theorem okR13:Ck Try.prog R13.env:=okR12.addC eLeast oLeast
def shSE:S1:=⟨27,[(3,.mp 2),(10,.CQ 49),(11,C4),(12,C4)],[.one 28 2 (.agg [C4,C4]),.one 30 3 aS,.map 30 4]⟩
abbrev lSE (f:Bool) (es:List PV) (len i:Int) (px py a0 a1 a2:Int) (D:List (PV × PV)):LS:=([.l f es,.i len,.i i],[.i px,.i py,.i a0,.i a1,.i a2,.m D])
noncomputable abbrev xSE (px py a0 a1 a2:Int) (D:List (PV × PV)):PX × List PV × List Row:=(.exit 0,tm 27 [(3,.mp 2)],(shSE.put (lSE false [] 0 0 px py a0 a1 a2 D)).2)
theorem qSE (f:Bool) (es:List PV) (len i:Int) (px py a0 a1 a2:Int) (D:List (PV × PV)):CR Try.prog R13 60 37 (CZ Try.f37 3) [3,10,11,12] [3] (shSE.put (lSE f es len i px py a0 a1 a2 D)).1 (shSE.put (lSE f es len i px py a0 a1 a2 D)).2 =
 bif decide (i<len) then bif decide (0<=i)&&decide (i<(es.length:Int)) then bif stB (wL (es.getD i.toNat .any)) then
  some (.normal,shSE.put (lSE f es len (W (i+1)) px py a0 a1 a2 (DG D (es.getD i.toNat .any)))) else none else none else some (xSE px py a0 a1 a2 D):=by kernel_rfl
def pSE:LS->Bool
 | ([.l _ es,.i len,.i i],[.i _,.i _,.i _,.i _,.i _,.m _])=>decide (len=(es.length:Int))&&decide (0<=i)&&decide (i<=len)&&decide (es.length<=1000)&&(es.drop i.toNat).all fun e=>stB (wL e)
 | _=>false
noncomputable def fSE:LS->DT (PX × List PV × List Row)
 | ([.l _ es,.i _,.i i],[.i px,.i py,.i a0,.i a1,.i a2,.m D])=>.leaf (xSE px py a0 a1 a2 (GD (es.drop i.toNat) D))
 | _=>.no
def mSE:LS->Nat
 | ([.l _ _,.i len,.i i],_)=>(len-i).toNat
 | _=>0
theorem sSE:∀ s r,pSE s=true->(fSE s).run=some r->r.1 ≠ .normal/\(CR Try.prog R13 60 37 (CZ Try.f37 3) [3,10,11,12] [3] (shSE.put s).1 (shSE.put s).2=some r \/
   ∃ s',CR Try.prog R13 60 37 (CZ Try.f37 3) [3,10,11,12] [3] (shSE.put s).1 (shSE.put s).2=some (.normal,shSE.put s')/\pSE s'=true/\mSE s'<mSE s/\(fSE s').run=some r):=by
 intro t r hp hr;unfold pSE at hp;split at hp
 ·rename_i f es len i px py a0 a1 a2 D;simp only[Aa,Ab] at hp;obtain⟨⟨⟨⟨rfl,h2⟩,h3⟩,h4⟩,h5⟩:=hp;have hr':=(Ah hr).symm;refine⟨by rw[hr'];simp,?_⟩;rw[show shSE.put ([.l f es,.i (es.length:Int),.i i],[.i px,.i py,.i a0,.i a1,.i a2,.m D])=shSE.put (lSE f es (es.length:Int) i px py a0 a1 a2 D) from rfl,qSE];by_cases hi:i<(es.length:Int)
  ·rw[Db h2 hi,Ce,Aa] at h5;rw[Ac hi,Ac h2,h5.1,Dc (by omega) (by omega)];refine .inr ⟨lSE f es es.length (i+1) px py a0 a1 a2 (DG D (es.getD i.toNat .any)),rfl,by simp only[pSE,Aa,Ab];exact⟨⟨⟨⟨trivial,by omega⟩,by omega⟩,h4⟩,h5.2⟩,by simp only[mSE];omega,?_⟩;rw[hr',Db h2 hi];rfl
  ·rw[Aj hi,AG (by omega)] at *;exact .inl (by rw[hr'];rfl)
 ·cases hp
noncomputable def R14:CO:=R13.C8 37 3 [3,10,11,12] [false,true,false] shSE pSE fSE
theorem okR14:Ck Try.prog R14.env:=
 okR13.C8 (n:=60) Try.func37 (show Try.f37.body=some (DL Try.f37) by kernel_rfl) (show (loops (DL Try.f37)).filter (fun b=>Ed b==3)=[CZ Try.f37 3] by kernel_rfl) [3,10,11,12] [3] [false,true,false] shSE mSE sSE
noncomputable def R15:CO:=R14.G3 23 3 [(6,30,3)]
theorem okR15:Ck Try.prog R15.env:=okR14.G3 23 3 [(6,30,3)]
theorem mlE0:(FJ (CZ Try.f23 3)).isSome=true:=by kernel_rfl
noncomputable def mlE:ML:=(FJ (CZ Try.f23 3)).get mlE0
theorem mlE_eq:FJ (CZ Try.f23 3)=some mlE:=(Option.some_get mlE0).symm
theorem mlE_out:mlE.out=0:=by kernel_rfl
theorem mlE_it:mlE.it=11:=by kernel_rfl
theorem mlE_d1:mlE.d1=12:=by kernel_rfl
theorem mlE_q:mlE.q=13:=by kernel_rfl
abbrev lstR (nl:Bool) (es:List PV):Row:={ es,s:=3,t:=30,bv:=true,nl }
abbrev sE (n:Nat):List PV:=tm 26 [(3,.ptr 0 1 0 0),(4,.ptr 1 1 0 0),(6,.sl 4 n 0 n),(11,.mp 3)]
abbrev hE (px py a b c:Int) (D:List (PV × PV)) (s:ItS) (nl:Bool) (es:List PV):List Row:=[pR px py,cellR a b c,Dd k0 30 4 D,C9 (.mp 2) s,lstR nl es]
theorem qM (px py a b c:Int) (D:List (PV × PV)) (bm s:Nat) (seen:Array Nat) (ck:Nat) (n:Nat) (nl:Bool) (es:List PV) (x y z:Int) (v:PV):
  rndM Try.prog R15 60 23 mlE [3,4,6,11] (sE n) (hE px py a b c D (.at bm s seen ck) nl es) (Dy x y z) v =
 bif decide (es.length=n)&&decide (n=n)&&decide ((n+1)*24<=140737488355328) then some (sE (n+1),hE px py a b c D (.at bm s seen ck) (nl&&false) (es++[Dy x y z])) else none:=by kernel_rfl
abbrev stE (k:PV):PV:=Dy (gX k) (gY k) (gL k)
def Ma (D:List (PV × PV)):Prop:=∀ x ∈ D,x.1=stE x.1
noncomputable def keyE (D:List (PV × PV)):Bool:=@decide (Ma D) (Classical.propDecidable _)
theorem keyE_iff {D:List (PV × PV)}:keyE D=true ↔ Ma D:=by unfold keyE;exact @BZ _ (Classical.propDecidable _)
abbrev OkE (D:List (PV × PV)) (j:Nat) (kv:PV × PV):Prop:=D[j]? = some kv/\kv.1=stE kv.1
abbrev kOf (x:Nat × (PV × PV)):PV:=x.2.1
abbrev visE (px py a b c:Int) (D:List (PV × PV)) (vis:List (Nat × (PV × PV))):List PV × List Row:=
 (sE vis.length,hE px py a b c D .some vis.isEmpty (vis.map kOf))
theorem vis_len {vis:List (Nat × (PV × PV))} {N:Nat} (hn:(vis.map (·.1)).Nodup) (hl:∀ x ∈ vis,x.1<N):vis.length<=N:=by
 have:=List.Nodup.length_le_of_subset hn (l₂:=List.range N) (fun x hx=>by
  obtain⟨y,hy,rfl⟩:=AW.1 hx;exact Bk.2 (hl y hy))
 simpa using this
theorem mapE {px py a b c:Int} {D:List (PV × PV)} (hk:Ma D) (hl:D.length<=5000):
  MLoop Try.prog R15 60 23 mlE [3,4,6,11] 3 2 D.length (OkE D) (visE px py a b c D) where
 ne:=by decide
 hd:=fun vis=>by rw[mlE_d1,mlE_q];exact⟨show 12<26 by decide,show 13<26 by decide⟩
 hS:=fun vis=>by rw[mlE_it];rfl
 hi:=fun vis=>rfl
 hm:=fun vis=>⟨_,_,rfl,rfl,rfl⟩
 G2:=fun vis C bm s hH hR hρ=>by
  have hrow:C.H[2]? = some (Dd k0 30 4 D):=by rw[hH];rfl
  obtain⟨es,ck,h1,h2,h3,h4⟩:=((hR.Hw 2 bm _ ⟨k0,.map 30 4 D⟩ hρ hrow rfl rfl).map 30 4 D rfl).mem;refine⟨es,by rw[h1,h3],h2,fun j e he => ?_⟩;have hj:j<D.length:=by rw[<- h2];exact (Aq.1 he).1
  obtain⟨g1,g2,g3⟩:=h4 j D[j].1 D[j].2 e (by rw[Ae hj]) he;exact⟨g1,D[j],⟨Ae hj,hk _ (Bl hj)⟩,g2,g3⟩
 step:=fun vis j kv bm s seen ck hok hkv hn hj hlt hjN=>by
  have hlen:=vis_len hn hlt;obtain⟨k,v⟩:=kv;have hkv2:k=stE k:=hkv.2;show rndM Try.prog R15 60 23 mlE [3,4,6,11] (sE vis.length) (hE px py a b c D (.at bm s seen ck) vis.isEmpty (vis.map kOf)) k v =
   some (sE (vis++[(j,k,v)]).length,hE px py a b c D (.at bm s seen ck) (vis++[(j,k,v)]).isEmpty ((vis++[(j,k,v)]).map kOf))
  have hq:=qM px py a b c D bm s seen ck vis.length vis.isEmpty (vis.map kOf) (gX k) (gY k) (gL k) v;have hkv3:Dy (gX k) (gY k) (gL k)=k:=hkv2.symm;rw[hkv3] at hq;rw[hq,A1,show (decide (vis.length=vis.length)&&decide (vis.length=vis.length)&&decide ((vis.length+1)*24<=140737488355328))=true by simp;omega,Am];rw[Ar,BB,BV];have:(vis++[(j,k,v)]).isEmpty=false:=by simp
  rw[this];rfl
def shM:S1:=⟨26,[(3,.ptr 0 1 0 0),(4,.ptr 1 1 0 0),(6,.sl 4),(11,.mp 3)],[.one 28 2 (.agg [C4,C4]),.one 30 3 aS,.map 30 4,.itr 2,.many 30 3]⟩
noncomputable def pM:LS->Bool
 | ([.n n,.n l],[.i _,.i _,.i _,.i _,.i _,.m D,.n N,.l nl es])=>decide (n=0)&&decide (l=0)&&decide (N=D.length)&&nl&&es.isEmpty&&decide (D.length<=5000)&&keyE D
 | _=>false
noncomputable abbrev xM (px py a b c:Int) (D:List (PV × PV)):PX × List PV × List Row:=
 (.exit 0,tm 26 [(3,.ptr 0 1 0 0),(4,.ptr 1 1 0 0),(6,.KI 30 (D.map (·.1)))],[pR px py,cellR a b c,Dd k0 30 4 D,C9 (.mp 2) .some,C6])
noncomputable def fM:LS->DT (PX × List PV × List Row)
 | ([.n _,.n _],[.i px,.i py,.i a,.i b,.i c,.m D,.n _,.l _ _])=>.leaf (xM px py a b c D)
 | _=>.no
theorem bag_vis {D:List (PV × PV)} {vis:List (Nat × (PV × PV))} (hok:∀ x ∈ vis,OkE D x.1 x.2) (hp:(vis.map (·.1)).Perm (List.range D.length)):(vis.map kOf).Perm (D.map (·.1)):=by
 have h1:(vis.map kOf)=(vis.map (·.1)).map fun j=>(D.getD j (.any,.any)).1:=by
  rw[Cb];apply BE
  intro x hx;show x.2.1=(D.getD x.1 (.any,.any)).1
  rw[AA,(hok x hx).1];rfl
 rw[h1];refine (hp.map _).trans ?_;have h2:(List.range D.length).map (fun j=>(D.getD j (.any,.any)).1)=D.map (·.1):=by
  apply Bc
  intro i;rw[Ao,Ao];by_cases hi:i<D.length
  ·rw[Ba hi,Ae hi];simp[List.getD_eq_getElem?_getD,List.getElem?_eq_getElem hi]
  ·rw[AD (by simpa using hi),AD (by omega)];rfl
 rw[h2]
theorem wkM {px py a b c:Int} {D:List (PV × PV)} {vis:List (Nat × (PV × PV))} (hok:∀ x ∈ vis,OkE D x.1 x.2) (hp:(vis.map (·.1)).Perm (List.range D.length)):
  Wk Try.prog (sE vis.length) (hE px py a b c D .some vis.isEmpty (vis.map kOf)) (xM px py a b c D).2.1 (xM px py a b c D).2.2:=by
 have h1:Wk Try.prog (sE vis.length) (hE px py a b c D .some vis.isEmpty (vis.map kOf)) _ _:=Wk.drop 4 (show 4<=5 by decide) (by rfl) (by rfl);refine h1.trans ?_;have hsl:lfz Try.prog (hE px py a b c D .some vis.isEmpty (vis.map kOf)) 4 (.sl 4 vis.length 0 vis.length)=.CQ false 30 (vis.map kOf):=by
  have hf:frz (hE px py a b c D .some vis.isEmpty (vis.map kOf)) 4 (.sl 4 vis.length 0 vis.length)=.CQ false 30 (vis.map kOf):=by
   show (if (lstR vis.isEmpty (vis.map kOf)).bv&&(lstR vis.isEmpty (vis.map kOf)).es.length==vis.length then PV.CQ false 30 (((vis.map kOf).drop 0).take vis.length) else _)=_
   rw[A1,AR,BD,Ai rfl,AM,Bi (by rw[A1];exact Ak _)]
  show (match mlt 4 (frz (hE px py a b c D .some vis.isEmpty (vis.map kOf)) 4 (.sl 4 vis.length 0 vis.length)) with | true=>frz (hE px py a b c D .some vis.isEmpty (vis.map kOf)) 4 (.sl 4 vis.length 0 vis.length) | false=>PV.any)=_
  rw[hf];rfl
 refine Wk.slot (by rw[A1];rfl) fun j p p' g1 g2 C V hv => ?_
 rw[Ao] at g1;by_cases h6:j=6
 ·subst h6;have e1:(sE vis.length)[6]? = some (.sl 4 vis.length 0 vis.length):=rfl;rw[e1,AH,hsl] at g1;cases g1;have e2:p'=.KI 30 (D.map (·.1)):=(Ah g2).symm;rw[e2];exact .KI (bag_vis hok hp) hv
 ·match j,h6 with
  | 3,_ =>
   have e1:p=.ptr 0 1 0 0:=(Ah g1).symm;have e2:p'=.ptr 0 1 0 0:=(Ah g2).symm;rw[e2];rw[e1] at hv;exact hv
  | 4,_ =>
   have e1:p=.ptr 1 1 0 0:=(Ah g1).symm;have e2:p'=.ptr 1 1 0 0:=(Ah g2).symm;rw[e2];rw[e1] at hv;exact hv
  | 0,_ | 1,_ | 2,_ | 5,_ | 7,_ | 8,_ | 9,_ | 10,_ | 11,_ | 12,_ | 13,_ | 14,_ | 15,_ | 16,_ | 17,_ | 18,_ | 19,_ | 20,_ | 21,_ | 22,_ | 23,_ | 24,_ | 25,_ =>
   have e2:p'=.any:=(Ah g2).symm;rw[e2];exact .any
  | n+26,_=>cases g2
noncomputable def R16:CO:=R15.C8 23 3 [3,4,6,11] [false,true,false,false,false] shM pM fM
theorem okR16:Ck Try.prog R16.env:=by
 refine okR15.addML (n:=60) Try.func23 (show Try.f23.body=some (DL Try.f23) by kernel_rfl) (show (loops (DL Try.f23)).filter (fun b=>Ed b==3)=[CZ Try.f23 3] by kernel_rfl) mlE_eq [3,4,6,11] [3,4,6] [false,true,false,false,false] shM fun s r hp hr => ?_
 unfold pM at hp;split at hp
 ·rename_i n l px py a b c D N nl es;simp only[Aa,Ab,List.isEmpty_iff,keyE_iff] at hp;obtain⟨⟨⟨⟨⟨⟨rfl,rfl⟩,rfl⟩,rfl⟩,rfl⟩,hl⟩,hk⟩:=hp;have hr':=(Ah hr).symm;subst hr';refine⟨by rw[mlE_out],3,2,D.length,OkE D,visE px py a b c D,mapE hk hl,rfl,rfl,fun vis hok hpm => ?_⟩;rw[mlE_d1,mlE_q];exact wkM hok hpm
 ·cases hp
theorem Ku {k v:PV}:∀ {D:List (PV × PV)} {x:PV × PV},x ∈ Ej D k v->x ∈ D\/x=(k,v)
 | [],x,h=>by simp only[Ej,AF] at h;exact .inr h
 | (a,w)::D,x,h=>by
  unfold Ej at h;cases hq:ID k a with
  | true =>
   rw[hq,Am] at h;rcases AK.1 h with h | h
   ·exact .inr h
   ·exact .inl (AU _ h)
  | false =>
   rw[hq,At] at h;rcases AK.1 h with h | h
   ·exact .inl (h ▸ AJ ..)
   ·rcases Ku h with h | h
    ·exact .inl (AU _ h)
    ·exact .inr h
theorem mput_len {k v:PV}:∀ {D:List (PV × PV)},(Ej D k v).length<=D.length+1
 | []=>by simp[Ej]
 | (a,w)::D=>by
  unfold Ej;cases ID k a with
  | true=>simp
  | false=>have:=mput_len (k:=k) (v:=v) (D:=D);simp only[At,Ay];omega
theorem Ma.put {D:List (PV × PV)} (h:Ma D) (x y z:Int) (v:PV):Ma (Ej D (Dy x y z) v):=fun u hu=>by
 rcases Ku hu with hu | rfl
 ·exact h u hu
 ·rfl
theorem stpD_key:∀ {es:List PV} {D:List (PV × PV)},Ma D->Ma (GD es D)/\(GD es D).length<=D.length+2*es.length
 | [],D,h=>⟨h,by simp[GD]⟩
 | e::es,D,h=>by
  have h1:Ma (DG D e):=(h.put _ _ _ _).put _ _ _ _;have h2:(DG D e).length<=D.length+2:=by
   unfold DG;have a:=mput_len (k:=stF (wL e) (wLv e)) (v:=bv true) (D:=D);have b:=mput_len (k:=stL (wL e) (wLv e)) (v:=bv true) (D:=Ej D (stF (wL e) (wLv e)) (bv true));omega
  obtain⟨g1,g2⟩:=stpD_key (es:=es) h1;exact⟨g1,by show (GD es (DG D e)).length<=_;simp only[Ay];omega⟩
def Kv (ws:List PV):Bool:=ws.all fun e=>decide ((wL e).length<=100000)
theorem Kw {L:List PV} (h1:L.length ≠ 0) (h2:L.length<=100000):stB L=true:=by
 unfold stB Na;rw[Dc (by omega) (by omega)];simp only[Aa,Al,AQ,Ab];omega
theorem Nc {fl:Bool} {ws:List PV} (h:Kv ws=true):((CU (CT fl) ws).all fun e=>stB (wL e))=true:=by
 rw[Ap];intro e he;unfold CU at he;rw[Bf] at he;have h1:=Ap.1 h e he.1;have h2:=he.2;simp only[CT,Al,BL,AQ] at h2;exact Kw (by omega) (AS h1)
abbrev stopsL (ws:List PV):List PV:=(GD (CU (CT false) ws) []).map (·.1)
theorem qEntry (f:Bool) (ws:List PV) (px py:Int):Dw Try.prog R16 60 23 [.CQ f 49 ws,FC px py] =
 bif decide (ws.length<=1000)&&ED EK ws then
  bif pSE (lSE false (CU (CT false) ws) ((CU (CT false) ws).length:Int) 0 px py 0 0 0 []) then
   bif pM ([.n 0,.n 0],[.i px,.i py,.i 0,.i 0,.i 0,.m (GD ((CU (CT false) ws).drop 0) []),.n (GD ((CU (CT false) ws).drop 0) []).length,.l true []]) then
    bif decide (((GD ((CU (CT false) ws).drop 0) []).map (·.1)).length<=10000) then
     some (bstV px py ((GD ((CU (CT false) ws).drop 0) []).map (·.1))) else none else none else none else none:=by kernel_rfl
theorem qEntryN (f:Bool) (ws:List PV) (px py:Int) (h1:ws.length<=1000) (h2:Em EK ws) (h3:Kv ws=true):Dw Try.prog R16 60 23 [.CQ f 49 ws,FC px py]=some (bstV px py (stopsL ws)):=by
 have hk:=Eb (d:=CT false) ws;obtain⟨k1,k2⟩:=stpD_key (es:=CU (CT false) ws) (D:=[]) (fun x hx=>by cases hx);simp only[AC] at k2;rw[qEntry,Ac h1,DM.2 h2,AM];have e1:pSE (lSE false (CU (CT false) ws) ((CU (CT false) ws).length:Int) 0 px py 0 0 0 [])=true:=by
  simp only[pSE,Aa,Ab];exact⟨⟨⟨⟨trivial,by omega⟩,by omega⟩,by omega⟩,by rw[show (0:Int).toNat=0 from rfl,AM];exact Nc h3⟩
 have e2:pM ([.n 0,.n 0],[.i px,.i py,.i 0,.i 0,.i 0,.m (GD (CU (CT false) ws) []),.n (GD (CU (CT false) ws) []).length,.l true []])=true:=by
  simp only[pM,Aa,Ab,keyE_iff];exact⟨⟨⟨⟨⟨⟨trivial,trivial⟩,trivial⟩,trivial⟩,rfl⟩,by omega⟩,k1⟩
 rw[e1,e2,Ac (show ((GD (CU (CT false) ws) []).map (·.1)).length<=10000 by rw[A1];omega)];rfl
theorem kE0:keyE []=true:=keyE_iff.2 (fun x hx=>by cases hx)
theorem qEntry0 (px py:Int):Dw Try.prog R16 60 23 [.val (.slice none 0 0),FC px py]=bif keyE [] then some (bstV px py []) else none:=by kernel_rfl
noncomputable def cEntry:List PV->Option (DT PV)
 | [.CQ _ 49 ws,.agg [.val (.int .i64 px),.val (.int .i64 py)]]=>some (.br (decide (ws.length<=1000)&&ED EK ws&&Kv ws) (.leaf (bstV px py (stopsL ws))) .no)
 | [.val (.slice none 0 0),.agg [.val (.int .i64 px),.val (.int .i64 py)]]=>some (.leaf (bstV px py []))
 | _=>none
theorem eEntry:Hx.CV Try.prog 23:=(CK okR16 (n:=60) ((qEntry0 0 0).trans (by rw[kE0];rfl))).1
theorem oEntry (args:List PV) (d:DT PV) (r:PV) (h:cEntry args=some d) (hr:d.run=some r):Da Try.prog 23 args r:=by
 unfold cEntry at h;split at h
 ·rename_i f ws px py;cases h;obtain⟨h1,rfl⟩:=DI hr;simp only[Aa,Ab,DM] at h1;exact (CK okR16 (n:=60) (qEntryN f ws px py h1.1.1 h1.1.2 h1.2)).2
 ·rename_i px py;cases h;cases hr;exact (CK okR16 (n:=60) ((qEntry0 px py).trans (by rw[kE0];rfl))).2
 ·cases h
noncomputable def R17:CO:=R16.DF 23 cEntry
theorem okR17:Ck Try.prog R17.env:=okR16.DF eEntry oEntry
def eqS (e:PV) (x y z:Int):Bool:=((gX e==x)&&((gY e==y)&&true))&&((gL e==z)&&true)
def En (x y z:Int) (i:Int):List PV->Int
 | [] => -1
 | e::es=>bif eqS e x y z then i else En x y z (i+1) es
def shF:S1:=⟨19,[(0,.CQ 30),(3,.ptr 0 1 0 0),(5,C4)],[.one 30 3 aS]⟩
abbrev lF (f:Bool) (es:List PV) (i x y z:Int):LS:=([.l f es,.i i],[.i x,.i y,.i z])
noncomputable abbrev xF0 (x y z:Int):PX × List PV × List Row:=(.exit 0,tm 19 [],[cellR x y z])
noncomputable abbrev xF1 (i x y z:Int):PX × List PV × List Row:=(.ret,tm 19 [(4,iv i)],[cellR x y z])
theorem qF (f:Bool) (es:List PV) (i x y z:Int):CR Try.prog R17 60 41 (CZ Try.f41 2) [0,3,5] [4] (shF.put (lF f es i x y z)).1 (shF.put (lF f es i x y z)).2 =
 bif decide (i<(es.length:Int)) then bif decide (0<=i)&&decide (i<(es.length:Int)) then bif eqS (es.getD i.toNat .any) x y z then some (xF1 i x y z) else some (.normal,shF.put (lF f es (W (i+1)) x y z)) else none else some (xF0 x y z):=by kernel_rfl
def shG:S1:=⟨19,[(0,.sl 0),(3,.ptr 1 1 0 0),(5,C4)],[.many 30 3,.one 30 3 aS]⟩
abbrev lG (n l:Nat) (i:Int) (nl:Bool) (es:List PV) (x y z:Int):LS:=([.n n,.n l,.i i],[.l nl es,.i x,.i y,.i z])
noncomputable abbrev xG0 (nl:Bool) (es:List PV) (x y z:Int):PX × List PV × List Row:=(.exit 0,tm 19 [],[lstR nl es,cellR x y z])
noncomputable abbrev xG1 (i:Int) (nl:Bool) (es:List PV) (x y z:Int):PX × List PV × List Row:=(.ret,tm 19 [(4,iv i)],[lstR nl es,cellR x y z])
def pF:LS->Bool
 | ([.l _ es,.i i],[.i _,.i _,.i _])=>decide (0<=i)&&decide (i<=(es.length:Int))&&decide (es.length<=10000)
 | _=>false
noncomputable def fF:LS->DT (PX × List PV × List Row)
 | ([.l _ es,.i i],[.i x,.i y,.i z])=>.br (En x y z i (es.drop i.toNat) == -1) (.leaf (xF0 x y z)) (.leaf (xF1 (En x y z i (es.drop i.toNat)) x y z))
 | _=>.no
def mF:LS->Nat
 | ([.l _ es,.i i],_)=>((es.length:Int)-i).toNat
 | _=>0
theorem sF:∀ s r,pF s=true->(fF s).run=some r->r.1 ≠ .normal/\(CR Try.prog R17 60 41 (CZ Try.f41 2) [0,3,5] [4] (shF.put s).1 (shF.put s).2=some r \/
   ∃ s',CR Try.prog R17 60 41 (CZ Try.f41 2) [0,3,5] [4] (shF.put s).1 (shF.put s).2=some (.normal,shF.put s')/\pF s'=true/\mF s'<mF s/\(fF s').run=some r):=by
 intro t r hp hr;unfold pF at hp;split at hp
 ·rename_i f es i x y z;simp only[Aa,Ab] at hp;obtain⟨⟨h2,h3⟩,h4⟩:=hp;have hr':=Il hr;refine⟨by rw[hr'];cases En x y z i (es.drop i.toNat) == -1 <;> simp,?_⟩;rw[show shF.put ([.l f es,.i i],[.i x,.i y,.i z])=shF.put (lF f es i x y z) from rfl,qF];by_cases hi:i<(es.length:Int)
  ·rw[Ac hi,Ac h2,Dc (by omega) (by omega)];rw[Db h2 hi] at hr';simp only[En] at hr';cases c1:eqS (es.getD i.toNat .any) x y z with
   | true =>
    rw[c1,Am,show (i == -1)=false by rw[AQ];omega] at hr';exact .inl (by rw[hr'];rfl)
   | false =>
    rw[c1] at hr';refine .inr ⟨lF f es (i+1) x y z,rfl,by simp only[pF,Aa,Ab];exact⟨⟨by omega,by omega⟩,h4⟩,by simp only[mF];omega,?_⟩;rw[hr'];simp only[fF,At];cases En x y z (i+1) (es.drop (i+1).toNat) == -1 <;> rfl
  ·rw[Aj hi];rw[AG (by omega)] at hr';exact .inl (by rw[hr'];rfl)
 ·cases hp
noncomputable def R18:CO:=R17.C8 41 2 [0,3,5] [] shF pF fF
theorem okR18:Ck Try.prog R18.env:=
 okR17.C8 (n:=60) Try.func41 (show Try.f41.body=some (DL Try.f41) by kernel_rfl) (show (loops (DL Try.f41)).filter (fun b=>Ed b==2)=[CZ Try.f41 2] by kernel_rfl) [0,3,5] [4] [] shF mF sF
def pG:LS->Bool
 | ([.n n,.n l,.i i],[.l _ es,.i _,.i _,.i _])=>decide (n=es.length)&&decide (l=es.length)&&decide (0<=i)&&decide (i<=(es.length:Int))&&decide (es.length<=10000)
 | _=>false
noncomputable def fG:LS->DT (PX × List PV × List Row)
 | ([.n _,.n _,.i i],[.l nl es,.i x,.i y,.i z])=>.br (En x y z i (es.drop i.toNat) == -1) (.leaf (xG0 nl es x y z)) (.leaf (xG1 (En x y z i (es.drop i.toNat)) nl es x y z))
 | _=>.no
def mG:LS->Nat
 | ([.n _,.n _,.i i],[.l _ es,.i _,.i _,.i _])=>((es.length:Int)-i).toNat
 | _=>0
theorem rE_getD (es:List PV) (i:Int):rE es i=es.getD i.toNat .any:=by unfold rE;rw[AN]
theorem qG' (n l:Nat) (i:Int) (nl:Bool) (es:List PV) (x y z:Int):CR Try.prog R18 60 41 (CZ Try.f41 2) [0,3,5] [4] (shG.put (lG n l i nl es x y z)).1 (shG.put (lG n l i nl es x y z)).2 =
 bif decide (i<(l:Int)) then ixR es n l i (J0 es n (bif eqS (rE es i) x y z then some (xG1 i nl es x y z) else some (.normal,shG.put (lG n l (W (i+1)) nl es x y z)))) else some (xG0 nl es x y z):=by kernel_rfl
theorem sG:∀ s r,pG s=true->(fG s).run=some r->r.1 ≠ .normal/\(CR Try.prog R18 60 41 (CZ Try.f41 2) [0,3,5] [4] (shG.put s).1 (shG.put s).2=some r \/
   ∃ s',CR Try.prog R18 60 41 (CZ Try.f41 2) [0,3,5] [4] (shG.put s).1 (shG.put s).2=some (.normal,shG.put s')/\pG s'=true/\mG s'<mG s/\(fG s').run=some r):=by
 intro t r hp hr;unfold pG at hp;split at hp
 ·rename_i n l i nl es x y z;simp only[Aa,Ab] at hp;obtain⟨⟨⟨⟨rfl,rfl⟩,h2⟩,h3⟩,h4⟩:=hp;have hr':=Il hr;refine⟨by rw[hr'];cases En x y z i (es.drop i.toNat) == -1 <;> simp,?_⟩;rw[show shG.put ([.n es.length,.n es.length,.i i],[.l nl es,.i x,.i y,.i z])=shG.put (lG es.length es.length i nl es x y z) from rfl,qG'];by_cases hi:i<(es.length:Int)
  ·rw[Ac hi,Am,G5 rfl h2 hi,DQ rfl,rE_getD,Dc (by omega) (by omega)];rw[Db h2 hi] at hr';simp only[En] at hr';cases c1:eqS (es.getD i.toNat .any) x y z with
   | true =>
    rw[c1,Am,show (i == -1)=false by rw[AQ];omega] at hr';exact .inl (by rw[hr'];rfl)
   | false =>
    rw[c1] at hr';refine .inr ⟨lG es.length es.length (i+1) nl es x y z,rfl,by simp only[pG,Aa,Ab];exact⟨⟨⟨⟨trivial,trivial⟩,by omega⟩,by omega⟩,h4⟩,by simp only[mG];omega,?_⟩;rw[hr'];simp only[fG,At];cases En x y z (i+1) (es.drop (i+1).toNat) == -1 <;> rfl
  ·rw[Aj hi];rw[AG (by omega)] at hr';exact .inl (by rw[hr'];rfl)
 ·cases hp
noncomputable def R19:CO:=R18.C8 41 2 [0,3,5] [] shG pG fG
theorem okR19:Ck Try.prog R19.env:=
 okR18.C8 (n:=60) Try.func41 (show Try.f41.body=some (DL Try.f41) by kernel_rfl) (show (loops (DL Try.f41)).filter (fun b=>Ed b==2)=[CZ Try.f41 2] by kernel_rfl) [0,3,5] [4] [] shG mG sG
theorem qFind (f:Bool) (es:List PV) (x y z:Int):Dw Try.prog R19 60 41 [.CQ f 30 es,Dy x y z] =
 bif pF (lF f es 0 x y z) then bif En x y z 0 (es.drop (0:Int).toNat) == -1 then some (iv (-1)) else some (iv (En x y z 0 (es.drop (0:Int).toNat))) else none:=by kernel_rfl
theorem pF0 {f:Bool} {es:List PV} {x y z:Int} (h:es.length<=10000):pF (lF f es 0 x y z)=true:=by
 simp only[pF,Aa,Ab];exact⟨⟨by omega,by omega⟩,h⟩
theorem qFindN (f:Bool) (es:List PV) (x y z:Int) (h:es.length<=10000):Dw Try.prog R19 60 41 [.CQ f 30 es,Dy x y z]=some (iv (En x y z 0 es)):=by
 rw[qFind,pF0 h,show (0:Int).toNat=0 from rfl,AM];cases hq:En x y z 0 es == -1 with
 | true=>rw[eq_of_beq hq];rfl
 | false=>rfl
def cFind:List PV->Option (DT PV)
 | [.CQ _ 30 es,.agg [.val (.int .i64 x),.val (.int .i64 y),.val (.int .i64 z)]]=>some (.br (decide (es.length<=10000)) (.leaf (iv (En x y z 0 es))) .no)
 | _=>none
theorem eFind:Hx.CV Try.prog 41:=(CK okR19 (n:=60) (qFindN false [] 0 0 0 (by simp))).1
theorem oFind (args:List PV) (d:DT PV) (r:PV) (h:cFind args=some d) (hr:d.run=some r):Da Try.prog 41 args r:=by
 unfold cFind at h;split at h
 ·rename_i f es x y z;cases h;obtain⟨h1,rfl⟩:=DI hr;exact (CK okR19 (n:=60) (qFindN f es x y z (AS h1))).2
 ·cases h
theorem qFindR (n l:Nat) (nl:Bool) (es:List PV) (x y z:Int):JV Try.prog R19 60 41 [.sl 0 n 0 l,Dy x y z] [lstR nl es] =
 bif pG (lG n l 0 nl es x y z) then bif En x y z 0 (es.drop (0:Int).toNat) == -1 then some (iv (-1),[lstR nl es]) else some (iv (En x y z 0 (es.drop (0:Int).toNat)),[lstR nl es]) else none:=by kernel_rfl
def cFindR:List PV->List Row->Option (DT (PV × List Row))
 | [.sl 0 n 0 l,.agg [.val (.int .i64 x),.val (.int .i64 y),.val (.int .i64 z)]],[⟨es,3,30,true,true,nl,none,false⟩] =>
  some (.br (decide (es.length<=10000)&&(decide (n=es.length)&&decide (l=es.length))) (.leaf (iv (En x y z 0 es),[lstR nl es])) .no)
 | _,_=>none
theorem oFindR (args:List PV) (H:List Row) (d:DT (PV × List Row)) (q:PV) (H':List Row) (h:cFindR args H=some d) (hd:d.run=some (q,H')):ET Try.prog 0 41 args H q H':=by
 unfold cFindR at h;split at h
 ·rename_i n l x y z es nl;cases h;obtain⟨hc,he⟩:=FK hd;cases he;simp only[Aa,Ab] at hc;obtain⟨h1,rfl,rfl⟩:=hc;refine (Dm okR19 ((qFindR es.length es.length nl es x y z).trans ?_)).2;have hp:pG (lG es.length es.length 0 nl es x y z)=true:=by
   simp only[pG,Aa,Ab];exact⟨⟨⟨⟨trivial,trivial⟩,by omega⟩,by omega⟩,h1⟩
  rw[hp,show (0:Int).toNat=0 from rfl,AM];cases hq:En x y z 0 es == -1 with
  | true=>rw[eq_of_beq hq];rfl
  | false=>rfl
 ·cases h
noncomputable def R20:CO:=(R19.DF 41 cFind).ER 41 cFindR
theorem okR20:Ck Try.prog R20.env:=(okR19.DF eFind oFind).ER eFind oFindR
theorem qStops2 (i:Int) (f:Bool) (L:List PV) (lv:Int) (cs nm:ByteArray) (st:Bool) (wt ds:Int):Dw Try.prog R20 60 43 [wayv i f L lv cs nm st wt ds] =
 bif (L.length:Int)==0 then some (.D8 [Dy 0 0 0,Dy 0 0 0]) else
  bif decide ((0:Int)<=0)&&decide ((0:Int)<(L.length:Int)) then bif decide (0<=Na L)&&decide (Na L<(L.length:Int)) then
   some (.D8 [stF L lv,stL L lv]) else none else none:=by kernel_rfl
theorem qStops2N (i:Int) (f:Bool) (L:List PV) (lv:Int) (cs nm:ByteArray) (st:Bool) (wt ds:Int) (h:stB L=true):Dw Try.prog R20 60 43 [wayv i f L lv cs nm st wt ds]=some (.D8 [stF L lv,stL L lv]):=by
 unfold stB at h;simp only[Aa,Al] at h;rw[qStops2,h.1,h.2.1.1,h.2.1.2,h.2.2.1,h.2.2.2];rfl
theorem eStops2:Hx.CV Try.prog 43:=(CK okR20 (n:=60) (qStops2N 0 false [FC 0 0] 0 .empty .empty false 0 0 rfl)).1
theorem oStops2 (args:List PV) (d:DT PV) (r:PV) (h:cStops args=some d) (hr:d.run=some r):Da Try.prog 43 args r:=by
 unfold cStops at h;split at h
 ·rename_i i f L lv cs nm st wt ds;cases h;obtain⟨h1,rfl⟩:=DI hr;exact (CK okR20 (n:=60) (qStops2N i f L lv cs nm st wt ds h1)).2
 ·cases h
noncomputable def R21:CO:=(R20.DF 43 cStops).G3 32 3 [(3,30,3)]
theorem okR21:Ck Try.prog R21.env:=(okR20.DF eStops2 oStops2).G3 32 3 [(3,30,3)]
def shH:S1:=⟨45,[(0,.CQ 49),(3,.sl 0),(4,C4)],[.many 30 3]⟩
abbrev lH (f:Bool) (ws:List PV) (n l:Nat) (i:Int) (nl:Bool) (es:List PV):LS:=([.l f ws,.n n,.n l,.i i],[.l nl es])
def fdK {α:Type} (n l:Nat) (es:List PV) (s:PV) (x y:Option α):Option α:=
 J0 es n (bif decide (((es.drop 0).take l).length<=10000) then bif decide (En (gX s) (gY s) (gL s) 0 ((es.drop 0).take l)<0) then x else y else none)
def apK {α:Type} (n l:Nat) (es:List PV) (k:Option α):Option α:=bif decide (es.length=n)&&decide (n=l)&&decide ((n+1)*24<=140737488355328) then k else none
abbrev eF (e:PV):PV:=stF (wL e) (wLv e)
abbrev eL (e:PV):PV:=stL (wL e) (wLv e)
def rdH (f:Bool) (ws:List PV) (i:Int) (e:PV) (n l:Nat) (nl:Bool) (es:List PV):Option (PX × List PV × List Row):=
 fdK n l es (eL e) (apK n l es (some (.normal,shH.put (lH f ws (n+1) (n+1) (W (i+1)) (nl&&false) (es++[eL e]))))) (some (.normal,shH.put (lH f ws n l (W (i+1)) nl es)))
theorem qH (f:Bool) (ws:List PV) (n l:Nat) (i:Int) (nl:Bool) (es:List PV):CR Try.prog R21 60 32 (CZ Try.f32 3) [0,3,4] [3] (shH.put (lH f ws n l i nl es)).1 (shH.put (lH f ws n l i nl es)).2 =
 bif decide (i<(ws.length:Int)) then bif decide (0<=i)&&decide (i<(ws.length:Int)) then
  bif ((wL (ws.getD i.toNat .any)).length:Int)==0 then some (.normal,shH.put (lH f ws n l (W (i+1)) nl es)) else
  bif decide (0<=i)&&decide (i<(ws.length:Int)) then bif stB (wL (ws.getD i.toNat .any)) then
   fdK n l es (eF (ws.getD i.toNat .any)) (apK n l es (rdH f ws i (ws.getD i.toNat .any) (n+1) (n+1) (nl&&false) (es++[eF (ws.getD i.toNat .any)]))) (rdH f ws i (ws.getD i.toNat .any) n l nl es)
  else none else none else none else some (.exit 0,tm 45 [(3,.sl 0 n 0 l)],[lstR nl es]):=by kernel_rfl
def JW (es:List PV) (s:PV):List PV:=bif decide (En (gX s) (gY s) (gL s) 0 es<0) then es++[s] else es
def Jz (es:List PV) (e:PV):List PV:=bif ((wL e).length:Int)==0 then es else JW (JW es (eF e)) (eL e)
def Mb (ws es:List PV):List PV:=ws.foldl Jz es
theorem addS_len (es:List PV) (s:PV):es.length<=(JW es s).length/\(JW es s).length<=es.length+1:=by
 unfold JW;cases decide (En (gX s) (gY s) (gL s) 0 es<0) <;> simp
theorem wayS_len (es:List PV) (e:PV):es.length<=(Jz es e).length/\(Jz es e).length<=es.length+2:=by
 unfold Jz;cases ((wL e).length:Int)==0 with
 | true=>simp
 | false =>
  have h1:=addS_len es (eF e);have h2:=addS_len (JW es (eF e)) (eL e);simp only[At];omega
theorem fdK_of {α:Type} {es:List PV} {s:PV} {x y:Option α} (h:es.length<=10000):fdK es.length es.length es s x y=bif decide (En (gX s) (gY s) (gL s) 0 es<0) then x else y:=by
 unfold fdK;rw[DQ rfl,AM,Be,Ac h];rfl
theorem apK_of {α:Type} {es:List PV} {k:Option α} (h:es.length<=10000):apK es.length es.length es k=k:=by
 unfold apK;rw[show (decide (es.length=es.length)&&decide (es.length=es.length)&&decide ((es.length+1)*24<=140737488355328))=true by simp;omega];rfl
theorem rdH_of {f:Bool} {ws:List PV} {i:Int} {e:PV} {nl:Bool} {es:List PV} (h:es.length<=9999) (hn:nl=es.isEmpty):
  rdH f ws i e es.length es.length nl es=some (.normal,shH.put (lH f ws (JW es (eL e)).length (JW es (eL e)).length (W (i+1)) (JW es (eL e)).isEmpty (JW es (eL e)))):=by
 unfold rdH;rw[fdK_of (by omega),apK_of (by omega)];unfold JW;cases decide (En (gX (eL e)) (gY (eL e)) (gL (eL e)) 0 es<0) with
 | true=>simp only[Am,BV,Ar,Ay,AC];rw[show (es++[eL e]).isEmpty=false by simp]
 | false=>simp only[At];rw[hn]
def pH:LS->Bool
 | ([.l _ ws,.n n,.n l,.i i],[.l nl es])=>decide (n=es.length)&&decide (l=es.length)&&decide (0<=i)&&decide (i<=(ws.length:Int))&&decide (ws.length<=1000)&&decide ((es.length:Int)<=2*i)&&(nl==es.isEmpty)&&(ws.drop i.toNat).all fun e=>decide ((wL e).length<=100000)
 | _=>false
noncomputable abbrev xH (es:List PV):PX × List PV × List Row:=(.exit 0,tm 45 [(3,.sl 0 es.length 0 es.length)],[lstR es.isEmpty es])
noncomputable def fH:LS->DT (PX × List PV × List Row)
 | ([.l _ ws,.n _,.n _,.i i],[.l _ es])=>.leaf (xH (Mb (ws.drop i.toNat) es))
 | _=>.no
def mH:LS->Nat
 | ([.l _ ws,.n _,.n _,.i i],_)=>((ws.length:Int)-i).toNat
 | _=>0
theorem sH:∀ s r,pH s=true->(fH s).run=some r->r.1 ≠ .normal/\(CR Try.prog R21 60 32 (CZ Try.f32 3) [0,3,4] [3] (shH.put s).1 (shH.put s).2=some r \/
   ∃ s',CR Try.prog R21 60 32 (CZ Try.f32 3) [0,3,4] [3] (shH.put s).1 (shH.put s).2=some (.normal,shH.put s')/\pH s'=true/\mH s'<mH s/\(fH s').run=some r):=by
 intro t r hp hr;unfold pH at hp;split at hp
 ·rename_i f ws n l i nl es;simp only[Aa,Ab,Aw] at hp;obtain⟨⟨⟨⟨⟨⟨⟨rfl,rfl⟩,h2⟩,h3⟩,h4⟩,h5⟩,h6⟩,h7⟩:=hp;have hr':=(Ah hr).symm;refine⟨by rw[hr'];simp,?_⟩;rw[show shH.put ([.l f ws,.n es.length,.n es.length,.i i],[.l nl es])=shH.put (lH f ws es.length es.length i nl es) from rfl,qH];by_cases hi:i<(ws.length:Int)
  ·rw[Db h2 hi,Ce,Aa] at h7;rw[Ac hi,Ac h2];simp only[Am,Bn];rw[Db h2 hi] at hr';have hl:=wayS_len es (ws.getD i.toNat .any);have go:∃ s',(some (PX.normal,shH.put (lH f ws (Jz es (ws.getD i.toNat .any)).length (Jz es (ws.getD i.toNat .any)).length (W (i+1)) (Jz es (ws.getD i.toNat .any)).isEmpty (Jz es (ws.getD i.toNat .any)))):Option (PX × List PV × List Row))=some (.normal,shH.put s')/\pH s'=true/\mH s'<mH (lH f ws es.length es.length i nl es)/\(fH s').run=some r:=by
    rw[Dc (by omega) (by omega)];refine⟨lH f ws (Jz es (ws.getD i.toNat .any)).length (Jz es (ws.getD i.toNat .any)).length (i+1) (Jz es (ws.getD i.toNat .any)).isEmpty (Jz es (ws.getD i.toNat .any)),rfl,by
     simp only[pH,Aa,Ab,Aw];exact⟨⟨⟨⟨⟨⟨⟨trivial,trivial⟩,by omega⟩,by omega⟩,h4⟩,by omega⟩,trivial⟩,h7.2⟩,by simp only[mH];omega,?_⟩
    rw[hr'];rfl
   obtain⟨s',g1,g2,g3,g4⟩:=go;refine .inr ⟨s',?_,g2,g3,g4⟩;rw[<- g1];cases c0:((wL (ws.getD i.toNat .any)).length:Int)==0 with
   | true=>simp only[Am,Jz,c0,h6]
   | false =>
    have hst:=Kw (L:=wL (ws.getD i.toNat .any)) (by rw[AQ] at c0;omega) (AS h7.1);rw[hst];simp only[Am,At];have h1:=addS_len es (eF (ws.getD i.toNat .any));rw[fdK_of (by omega),apK_of (by omega)];simp only[Jz,c0,At];have e1:(bif decide (En (gX (eF (ws.getD i.toNat .any))) (gY (eF (ws.getD i.toNat .any))) (gL (eF (ws.getD i.toNat .any))) 0 es<0) then rdH f ws i (ws.getD i.toNat .any) (es.length+1) (es.length+1) (nl&&false) (es++[eF (ws.getD i.toNat .any)]) else rdH f ws i (ws.getD i.toNat .any) es.length es.length nl es) =
      rdH f ws i (ws.getD i.toNat .any) (JW es (eF (ws.getD i.toNat .any))).length (JW es (eF (ws.getD i.toNat .any))).length (JW es (eF (ws.getD i.toNat .any))).isEmpty (JW es (eF (ws.getD i.toNat .any))):=by
     unfold JW;cases decide (En (gX (eF (ws.getD i.toNat .any))) (gY (eF (ws.getD i.toNat .any))) (gL (eF (ws.getD i.toNat .any))) 0 es<0) with
     | true=>simp only[Am,BV,Ar,Ay,AC];rw[show (es++[eF (ws.getD i.toNat .any)]).isEmpty=false by simp]
     | false=>simp only[At];rw[h6]
    rw[e1,rdH_of (by omega) rfl]
  ·rw[Aj hi];rw[AG (by omega)] at hr';exact .inl (by rw[hr',h6];rfl)
 ·cases hp
noncomputable def R22:CO:=R21.C8 32 3 [0,3,4] [] shH pH fH
theorem okR22:Ck Try.prog R22.env:=
 okR21.C8 (n:=60) Try.func32 (show Try.f32.body=some (DL Try.f32) by kernel_rfl) (show (loops (DL Try.f32)).filter (fun b=>Ed b==3)=[CZ Try.f32 3] by kernel_rfl) [0,3,4] [3] [] shH mH sH
theorem qRS (f:Bool) (ws:List PV):Dw Try.prog R22 60 32 [.CQ f 49 ws] =
 bif pH (lH f ws 0 0 0 true []) then J0 (Mb (ws.drop 0) []) (Mb (ws.drop 0) []).length (some (.CQ false 30 (((Mb (ws.drop 0) []).drop 0).take (Mb (ws.drop 0) []).length))) else none:=by kernel_rfl
theorem qRS0:Dw Try.prog R22 60 32 [.val (.slice none 0 0)]=some (.CQ false 30 []):=by kernel_rfl
theorem qRSN (f:Bool) (ws:List PV) (h1:ws.length<=1000) (h2:Kv ws=true):Dw Try.prog R22 60 32 [.CQ f 49 ws]=some (.CQ false 30 (Mb ws [])):=by
 have hp:pH (lH f ws 0 0 0 true [])=true:=by
  simp only[pH,Aa,Ab,Aw];exact⟨⟨⟨⟨⟨⟨⟨rfl,rfl⟩,by omega⟩,by omega⟩,h1⟩,by simp⟩,rfl⟩,h2⟩
 rw[qRS,hp,AM,DQ rfl,AM,Be];rfl
def cRS:List PV->Option (DT PV)
 | [.CQ _ 49 ws]=>some (.br (decide (ws.length<=1000)&&Kv ws) (.leaf (.CQ false 30 (Mb ws []))) .no)
 | [.val (.slice none 0 0)]=>some (.leaf (.CQ false 30 []))
 | _=>none
theorem eRS:Hx.CV Try.prog 32:=(CK okR22 (n:=60) qRS0).1
theorem oRS (args:List PV) (d:DT PV) (r:PV) (h:cRS args=some d) (hr:d.run=some r):Da Try.prog 32 args r:=by
 unfold cRS at h;split at h
 ·rename_i f ws;cases h;obtain⟨h1,rfl⟩:=DI hr;simp only[Aa,Ab] at h1;exact (CK okR22 (n:=60) (qRSN f ws h1.1 h1.2)).2
 ·cases h;cases hr;exact (CK okR22 (n:=60) qRS0).2
 ·cases h
noncomputable def R23:CO:=R22.DF 32 cRS
theorem okR23:Ck Try.prog R23.env:=okR22.DF eRS oRS

abbrev g0 (es:List PV):PV:=es.getD (0:Int).toNat .any
theorem stpR_len:∀ (ws es:List PV),(Mb ws es).length<=es.length+2*ws.length
 | [],es=>by simp[Mb]
 | e::ws,es=>by
  have h1:=wayS_len es e;have h2:=stpR_len ws (Jz es e);show (Mb ws (Jz es e)).length<=_
  simp only[Ay];omega
theorem eqS_iff {e:PV} {x y z:Int}:eqS e x y z=true ↔ EN e=(x,y,z):=by
 unfold eqS;simp only[BD,Aa,Aw,Cq];constructor
 ·rintro⟨⟨a,b⟩,c⟩;exact⟨a,b,c⟩
 ·rintro⟨a,b,c⟩;exact⟨⟨a,b⟩,c⟩
theorem findS_iff {x y z:Int}:∀ {es:List PV} {i:Int},0<=i->(En x y z i es<0 ↔ (x,y,z) ∉ es.map EN)
 | [],i,h=>by simp[En]
 | e::es,i,h=>by
  rw[En,AZ,AK];cases hq:eqS e x y z with
  | true=>rw[eqS_iff] at hq;rw[Am,hq];simp;omega
  | false =>
   rw[Cw,ne_eq,eqS_iff] at hq;rw[At,findS_iff (by omega)];simp only[not_or];exact⟨fun h=>⟨fun h'=>hq h'.symm,h⟩,fun h=>h.2⟩
theorem addS_mem {es:List PV} {s:PV} {t:T3}:t ∈ (JW es s).map EN ↔ t ∈ es.map EN\/t=EN s:=by
 unfold JW;cases hd:decide (En (gX s) (gY s) (gL s) 0 es<0) with
 | true=>rw[Am,BB,A5];simp
 | false =>
  rw[AP,findS_iff (by omega),Classical.not_not] at hd;rw[At];exact⟨.inl,fun h=>h.elim id fun e=>e ▸ hd⟩
def Eo (ws:List PV) (t:T3):Prop:=∃ e ∈ ws,(wL e).length ≠ 0/\(t=EN (eF e)\/t=EN (eL e))
theorem stpR_mem {t:T3}:∀ {ws es:List PV},t ∈ (Mb ws es).map EN ↔ t ∈ es.map EN\/Eo ws t
 | [],es=>by
  have:¬ Eo [] t:=fun ⟨e,h,_⟩=>by cases h
  simp only[Mb,List.foldl_nil,this,B6]
 | e::ws,es=>by
  show t ∈ (Mb ws (Jz es e)).map EN ↔ _
  rw[stpR_mem];have h1:t ∈ (Jz es e).map EN ↔ t ∈ es.map EN\/((wL e).length ≠ 0/\(t=EN (eF e)\/t=EN (eL e))):=by
   unfold Jz;cases h0:((wL e).length:Int)==0 with
   | true =>
    rw[Aw] at h0;have:(wL e).length=0:=by omega
    rw[Am];simp[this]
   | false =>
    rw[AQ] at h0;have:(wL e).length ≠ 0:=by omega
    rw[At,addS_mem,addS_mem];constructor
    ·rintro ((h | h) | h)
     ·exact .inl h
     ·exact .inr ⟨this,.inl h⟩
     ·exact .inr ⟨this,.inr h⟩
    ·rintro (h | ⟨_,h | h⟩)
     ·exact .inl (.inl h)
     ·exact .inl (.inr h)
     ·exact .inr h
  rw[h1];constructor
  ·rintro ((h | h) | ⟨x,hx,h⟩)
   ·exact .inl h
   ·exact .inr ⟨e,AJ ..,h⟩
   ·exact .inr ⟨x,AU _ hx,h⟩
  ·rintro (h | ⟨x,hx,h⟩)
   ·exact .inl (.inl h)
   ·rcases AK.1 hx with rfl | hx
    ·exact .inl (.inr h)
    ·exact .inr ⟨x,hx,h⟩
theorem keq_stv {x y z a b c:Int}:ID (Dy x y z) (Dy a b c)=true ↔ x=a/\y=b/\z=c:=by
 show ((x==a)&&((y==b)&&((z==c)&&true)))=true ↔ _
 simp only[BD,Aa,Aw]
theorem IZ {x y z:Int} {v:PV} {t:T3}:∀ {D:List (PV × PV)},Ma D->(t ∈ (Ej D (Dy x y z) v).map (fun u=>EN u.1) ↔ t ∈ D.map (fun u=>EN u.1)\/t=(x,y,z))
 | [],_=>by simp only[Ej,AZ,Bu,AF,BN,Dk];rfl
 | (a,w)::D,h=>by
  have ha:a=stE a:=h (a,w) (AJ ..);unfold Ej;cases hq:ID (Dy x y z) a with
  | true =>
   rw[ha,keq_stv] at hq;have:EN a=(x,y,z):=by simp only[Cq];exact⟨hq.1.symm,hq.2.1.symm,hq.2.2.symm⟩
   rw[Am,AZ,AZ,AK,AK];show t=(x,y,z)\/_ ↔ (t=EN a\/_)\/_
   rw[this];constructor
   ·rintro (h | h)
    ·exact .inr h
    ·exact .inl (.inr h)
   ·rintro ((h | h) | h)
    ·exact .inl h
    ·exact .inr h
    ·exact .inl h
  | false =>
   have ih:=IZ (x:=x) (y:=y) (z:=z) (v:=v) (t:=t) (D:=D) (fun u hu=>h u (AU _ hu));rw[At,AZ,AZ,AK,AK,ih];constructor
   ·rintro (h | h | h)
    ·exact .inl (.inl h)
    ·exact .inl (.inr h)
    ·exact .inr h
   ·rintro ((h | h) | h)
    ·exact .inl h
    ·exact .inr (.inl h)
    ·exact .inr (.inr h)
theorem stpD_mem {t:T3}:∀ {es:List PV} {D:List (PV × PV)},Ma D->(t ∈ (GD es D).map (fun u=>EN u.1) ↔ t ∈ D.map (fun u=>EN u.1)\/∃ e ∈ es,t=EN (eF e)\/t=EN (eL e))
 | [],D,_=>by simp[GD]
 | e::es,D,h=>by
  have h1:Ma (Ej D (stF (wL e) (wLv e)) (bv true)):=h.put _ _ _ _;show t ∈ (GD es (DG D e)).map (fun u=>EN u.1) ↔ _
  rw[stpD_mem (show Ma (DG D e) from h1.put _ _ _ _)];unfold DG;rw[IZ h1,IZ h];constructor
  ·rintro (((h | h) | h) | ⟨x,hx,h⟩)
   ·exact .inl h
   ·exact .inr ⟨e,AJ ..,.inl h⟩
   ·exact .inr ⟨e,AJ ..,.inr h⟩
   ·exact .inr ⟨x,AU _ hx,h⟩
  ·rintro (h | ⟨x,hx,h⟩)
   ·exact .inl (.inl (.inl h))
   ·rcases AK.1 hx with rfl | hx
    ·rcases h with h | h
     ·exact .inl (.inl (.inr h))
     ·exact .inl (.inr h)
    ·exact .inr ⟨x,hx,h⟩
theorem stopsL_mem {ws:List PV} {t:T3}:t ∈ (stopsL ws).map EN ↔ Eo ws t:=by
 show t ∈ ((GD (CU (CT false) ws) []).map (·.1)).map EN ↔ _
 rw[Cb];have:=stpD_mem (t:=t) (es:=CU (CT false) ws) (D:=[]) (fun x hx=>by cases hx);simp only[Bu,BN,Dk] at this;refine this.trans ?_;constructor
 ·rintro⟨e,he,h⟩
  unfold CU at he;rw[Bf] at he;have h2:=he.2;simp only[CT,Al,BL,AQ] at h2;exact⟨e,he.1,by omega,h⟩
 ·rintro⟨e,he,h0,h⟩
  refine⟨e,?_,h⟩;unfold CU;rw[Bf];refine⟨he,?_⟩;simp only[CT,Bool.false_and,Bool.or_false,Al,AQ];omega
theorem stpR0_mem {ws:List PV} {t:T3}:t ∈ (Mb ws []).map EN ↔ Eo ws t:=by
 rw[stpR_mem];simp
def dMod:List PV->Option (DT PV) | [.val (.int .i64 n),.val (.int .i64 m)]=>some (.br (decide (0<m)&&decide (m<=4611686018427387904)) (.leaf (iv (n % m))) .no) | _=>none
theorem qMod (n m:Int):Dw Try.prog {} 60 20 [iv n,iv m]=bif !decide (m=0) then (bif !decide (m=0) then some (iv (Int.tmod (W (Int.tmod n m+m)) m)) else none) else none:=by kernel_rfl
theorem mod_math {n m:Int} (h0:0<m) (h1:m<=4611686018427387904):Int.tmod (W (Int.tmod n m+m)) m=n % m:=by
 have hb:=Int.lt_tmod_of_pos n h0;have hb2:=Int.tmod_lt_of_pos n h0;rw[Dc (by omega) (by omega),Int.tmod_eq_emod_of_nonneg (by omega),Int.add_emod_right];rcases Int.le_total 0 n with hn | hn
 ·rw[Int.tmod_eq_emod_of_nonneg hn,Int.emod_emod]
 ·rw[Int.tmod_def,Int.sub_emod,Int.mul_emod_right];simp
theorem eMod:Hx.CV Try.prog 20:=(CK Fm (n:=60) (args:=[iv 0,iv 1]) (p:=iv 0) (by kernel_rfl)).1
theorem oMod (args:List PV) (d:DT PV) (r:PV) (h:dMod args=some d) (hd:d.run=some r):Da Try.prog 20 args r:=by
 unfold dMod at h;split at h
 ·rename_i n m;cases h;obtain⟨hc,rfl⟩:=DI hd;simp only[Aa,Ab] at hc;refine (CK Fm (n:=60) ?_).2;rw[qMod,show decide (m=0)=false by simp;omega,mod_math hc.1 hc.2];rfl
 ·cases h
def M6:CO:=M5.DF 20 dMod
theorem okM6:Ck Try.prog M6.env:=okM5.DF eMod oMod
def dv (es:List PV) (k:Nat):Int:=((es.getD k .any).cellAt 0).Dn
def dI (es:List PV) (a n:Int):Int:=if (es.length:Int)<=a then 0 else dv es a.toNat % n
def aI (es:List PV) (a:Int):Int:=if (es.length:Int)<=a then a else a+1
abbrev HC (f:Bool) (es:List PV) (a:Int):Row:=r1 103 2 (.agg [.CQ f 3 es,iv a])
def EE (a n:Int):Bool:=decide (0<=a)&&decide (a<4611686018427387904)&&decide (0<n)&&decide (n<=4611686018427387904)
def fI (f:Bool) (es:List PV) (a:Int):Bool:=f&&decide ((es.length:Int)<=a)
def cNxI:List PV->List Row->Option (DT (PV × List Row))
 | [.ptr 0 1 0 0,.val (.int .i64 n)],[⟨[.agg [.CQ f 3 es,.val (.int .i64 a)]],2,103,true,true,false,none,false⟩] =>
  some (.br (EE a n) (.leaf (iv (dI es a n),[HC (fI f es a) es (aI es a)])) .no)
 | _,_=>none
theorem qNxI (es:List PV) (a:Int) (f:Bool) (n:Int):runR Try.prog M6 60 0 55 [.ptr 0 1 0 0,iv n] [HC f es a] =
 bif decide (a ≥ ((es.length:Nat):Int)) then some (iv 0,[HC f es a])
 else bif decide (0<=W (W (a+1)-1))&&decide (W (W (a+1)-1)<((es.length:Nat):Int)) then
  bif decide (0<n)&&decide (n<=4611686018427387904) then some (iv (dv es (W (W (a+1)-1)).toNat % n),[HC false es (W (a+1))]) else none
 else none:=by kernel_rfl
theorem eNxt:Hx.CV Try.prog 55:=(runR_sound okM6 (n:=60) (ro:=0) (args:=[.ptr 0 1 0 0,iv 1]) (H:=[HC true [] 0]) (p:=iv 0) (H':=[HC true [] 0]) (by kernel_rfl)).1
theorem oNxI (args:List PV) (H:List Row) (d:DT (PV × List Row)) (p:PV) (H':List Row) (h:cNxI args H=some d) (hd:d.run=some (p,H')):ET Try.prog 0 55 args H p H':=by
 unfold cNxI at h;split at h
 ·rename_i n f es a;cases h;obtain⟨hc,he⟩:=FK hd;cases he;unfold EE at hc;simp only[Aa,Ab] at hc;obtain⟨⟨⟨h0,h3⟩,h1⟩,h2⟩:=hc;refine (runR_sound okM6 (n:=60) ?_).2;rw[qNxI];have hw1:W (a+1)=a+1:=Dc (by omega) (by omega);have hw:W (W (a+1)-1)=a:=by rw[hw1,Dc (by omega) (by omega)];omega
  unfold dI aI fI;by_cases hk:(es.length:Int)<=a
  ·have g1:decide (a ≥ ((es.length:Nat):Int))=true:=by simp;omega
   rw[g1,Ai hk,Ai hk,BD];rfl
  ·have g1:decide (a ≥ ((es.length:Nat):Int))=false:=by simp;omega
   have g2:(decide (0<=a)&&decide (a<((es.length:Nat):Int)))=true:=by simp;omega
   rw[g1,hw,g2,hw1,An hk,An hk];simp only[BV,h1,h2,decide_true,BD,Am,At]
 ·cases h
def M7:CO:=M6.ER 55 cNxI
theorem Ia:Ck Try.prog M7.env:=okM6.ER eNxt oNxI
theorem Iq (es:List PV) (k:Int) {n:Int} (h:0<n):0<=dI es k n:=by unfold dI;split;exact BS _;exact Int.emod_nonneg _ (by omega)
theorem HY (es:List PV) (k:Int) {n:Int} (h:0<n):dI es k n<n:=by unfold dI;split;exact h;exact Int.emod_lt_of_pos _ h
theorem FF (es:List PV) (a:Int):a<=aI es a/\aI es a<=a+1:=by unfold aI;split <;> omega
def ndK (i j:Int):Int:=W (2*W (W (4*j)+i))
def ndX (L:List PV) (i j:Int):Int:=W (W (40+W (100*i))+(bif decide (W (ndK i j+1)<(L.length:Int)) then W (((L.getD (ndK i j).toNat .any).cellAt 0).Dn % 21-10) else 0))
def ndY (L:List PV) (i j:Int):Int:=W (W (40+W (100*j))+(bif decide (W (ndK i j+1)<(L.length:Int)) then W (((L.getD (W (ndK i j+1)).toNat .any).cellAt 0).Dn % 21-10) else 0))
theorem qNode (f:Bool) (L:List PV) (i j:Int):Dw Try.prog M7 60 73 [.CQ f 3 L,iv i,iv j] =
 bif decide (W (ndK i j+1)<(L.length:Int)) then bif decide (0<=ndK i j)&&decide (ndK i j<(L.length:Int)) then bif decide (0<=W (ndK i j+1))&&decide (W (ndK i j+1)<(L.length:Int)) then
  some (FC (W (W (40+W (100*i))+W (((L.getD (ndK i j).toNat .any).cellAt 0).Dn % 21-10))) (W (W (40+W (100*j))+W (((L.getD (W (ndK i j+1)).toNat .any).cellAt 0).Dn % 21-10)))) else none else none
 else some (FC (W (W (40+W (100*i))+0)) (W (W (40+W (100*j))+0))):=by kernel_rfl
theorem qNodeZ (i j:Int):Dw Try.prog M7 60 73 [.val (.slice none 0 0),iv i,iv j] =
 bif decide (W (ndK i j+1)<0) then none else some (FC (W (W (40+W (100*i))+0)) (W (W (40+W (100*j))+0))):=by kernel_rfl
def Ld (i j:Int):Bool:=decide (0<=i)&&decide (i<=10)&&decide (0<=j)&&decide (j<=10)
theorem ndK_of {i j:Int} (h:Ld i j=true):ndK i j=2*(4*j+i)/\W (ndK i j+1)=2*(4*j+i)+1/\0<=2*(4*j+i):=by
 unfold Ld at h;simp only[Aa,Ab] at h;have h1:ndK i j=2*(4*j+i):=by
  unfold ndK;rw[Dc (n:=4*j) (by omega) (by omega),Dc (n:=4*j+i) (by omega) (by omega),Dc (by omega) (by omega)]
 exact⟨h1,by rw[h1,Dc (by omega) (by omega)],by omega⟩
def cNode:List PV->Option (DT PV)
 | [.CQ _ 3 L,.val (.int .i64 i),.val (.int .i64 j)]=>some (.br (Ld i j) (.leaf (FC (ndX L i j) (ndY L i j))) .no)
 | [.val (.slice none 0 0),.val (.int .i64 i),.val (.int .i64 j)]=>some (.br (Ld i j) (.leaf (FC (ndX [] i j) (ndY [] i j))) .no)
 | _=>none
theorem eNode:Hx.CV Try.prog 73:=(CK Ia (n:=60) ((qNodeZ 0 0).trans (by rfl))).1
theorem oNode (args:List PV) (d:DT PV) (r:PV) (h:cNode args=some d) (hr:d.run=some r):Da Try.prog 73 args r:=by
 unfold cNode at h;split at h
 ·rename_i f L i j;cases h;obtain⟨h1,rfl⟩:=DI hr;refine (CK Ia (n:=60) ((qNode f L i j).trans ?_)).2;obtain⟨k1,k2,k3⟩:=ndK_of h1;unfold ndX ndY;rw[k1,k2] at *;by_cases hl:2*(4*j+i)+1<(L.length:Int)
  ·rw[Ac hl,show (decide (0<=2*(4*j+i))&&decide (2*(4*j+i)<(L.length:Int)))=true by simp;omega,show (decide (0<=2*(4*j+i)+1)&&true)=true by simp;omega];rfl
  ·rw[Aj hl];rfl
 ·rename_i i j;cases h;obtain⟨h1,rfl⟩:=DI hr;refine (CK Ia (n:=60) ((qNodeZ i j).trans ?_)).2;obtain⟨k1,k2,k3⟩:=ndK_of h1;unfold ndX ndY;rw[k2] at *;rw[Aj (show ¬ 2*(4*j+i)+1<0 by omega),show decide (2*(4*j+i)+1<(([]:List PV).length:Int))=false by simp;omega];rfl
 ·cases h
def a1 (L:List PV) (a:Int):Nat->Int
 | 0=>a
 | n+1=>aI L (a1 L a n)
def f1 (f:Bool) (L:List PV) (a:Int):Nat->Bool
 | 0=>f
 | n+1=>fI (f1 f L a n) L (a1 L a n)
theorem GV (L:List PV) (a:Int):∀ n:Nat,a<=a1 L a n/\a1 L a n<=a+n
 | 0=>by simp[a1]
 | n+1=>by
  have h1:=GV L a n;have h2:=FF L (a1 L a n);simp only[a1];omega
theorem Nd (L:List PV) (a:Int):∀ n:Nat,a1 L (aI L a) n=a1 L a (n+1)
 | 0=>rfl
 | n+1=>by
  show aI L (a1 L (aI L a) n)=aI L (a1 L a (n+1))
  rw[Nd L a n]
theorem f1_next (f:Bool) (L:List PV) (a:Int):∀ n:Nat,f1 (fI f L a) L (aI L a) n=f1 f L a (n+1)
 | 0=>rfl
 | n+1=>by
  show fI (f1 (fI f L a) L (aI L a) n) L (a1 L (aI L a) n)=fI (f1 f L a (n+1)) L (a1 L a (n+1))
  rw[f1_next f L a n,Nd]
noncomputable def M8:CO:=(M7.DF 73 cNode).Jv Try.prog 47
theorem okM8:Ck Try.prog M8.env:=(Ia.DF eNode oNode).Jv 47
abbrev aP:X1:=.agg [C4,C4]
def Le:S1:=⟨76,[(2,.ptr 0 1 0 0),(3,.ptr 1 1 0 0),(4,.ptr 2 1 0 0),(7,.sl 3),(8,C4),(9,.ptr 4 1 0 0),(10,C4)],[.one 103 2 (.agg [.CQ 3,C4]),.one 28 2 aP,.one 28 2 aP,.many 28 2,.one 28 2 aP]⟩
abbrev lWg (n l:Nat) (many k:Int) (f:Bool) (L:List PV) (a x0 y0 x1 y1:Int) (nl:Bool) (es:List PV) (u0 u1:Int):LS:=([.n n,.n l,.i many,.i k],[.l f L,.i a,.i x0,.i y0,.i x1,.i y1,.l nl es,.i u0,.i u1])
noncomputable abbrev xWg (n l:Nat) (f:Bool) (L:List PV) (a x0 y0 x1 y1:Int) (nl:Bool) (es:List PV) (u0 u1:Int):PX × List PV × List Row:=
 (.exit 0,tm 76 [(2,.ptr 0 1 0 0),(4,.ptr 2 1 0 0),(7,.sl 3 n 0 l)],(Le.put (lWg n l 0 0 f L a x0 y0 x1 y1 nl es u0 u1)).2)
abbrev wgA (x u many k:Int):Int:=W (x+W (Int.tdiv (W (u*k)) (W (many+1))))
abbrev wgB (many d:Int):Int:=W (Int.tdiv (W (d-10)) (W (1+W (Int.tdiv many 2))))
def roomP (es:List PV) (n l:Nat):Bool:=(es.length==n)&&(decide (l<=n)&&decide ((n+1)*16<=140737488355328))
theorem qWg (n l:Nat) (many k:Int) (f:Bool) (L:List PV) (a x0 y0 x1 y1:Int) (es:List PV) (u0 u1:Int):CR Try.prog M8 60 72 (CZ Try.f72 5) [2,3,4,7,8,9,10] [2,4,7] (Le.put (lWg n l many k f L a x0 y0 x1 y1 false es u0 u1)).1 (Le.put (lWg n l many k f L a x0 y0 x1 y1 false es u0 u1)).2 =
 bif decide (k<=many) then bif true && !decide (W (many+1)=0) then bif true && !decide (W (many+1)=0) then bif EE a 21 then bif true && !decide (W (1+W (Int.tdiv many 2))=0) then
  bif decide (u0 > u1) then bif roomP es n l then
   some (.normal,Le.put (lWg (max n (l+1)) (l+1) many (W (k+1)) (fI f L a) L (aI L a) x0 y0 x1 y1 false (es.take l++FC (wgA x0 u0 many k) (W (wgA y0 u1 many k+wgB many (dI L a 21)))::es.drop (l+1)) u0 u1)) else none
  else bif roomP es n l then
   some (.normal,Le.put (lWg (max n (l+1)) (l+1) many (W (k+1)) (fI f L a) L (aI L a) x0 y0 x1 y1 false (es.take l++FC (W (wgA x0 u0 many k+wgB many (dI L a 21))) (wgA y0 u1 many k)::es.drop (l+1)) u0 u1)) else none
 else none else none else none else none else some (xWg n l f L a x0 y0 x1 y1 false es u0 u1):=by kernel_rfl
def wgP (x0 y0 u0 u1 many k d:Int):PV:=bif decide (u0 > u1) then FC (wgA x0 u0 many k) (W (wgA y0 u1 many k+wgB many d)) else FC (W (wgA x0 u0 many k+wgB many d)) (wgA y0 u1 many k)
def wgL (x0 y0 u0 u1 many:Int) (L:List PV):Nat->Int->Int->List PV
 | 0,_,_=>[]
 | m+1,k,a=>wgP x0 y0 u0 u1 many k (dI L a 21)::wgL x0 y0 u0 u1 many L m (k+1) (aI L a)
theorem wgL_len {x0 y0 u0 u1 many:Int} {L:List PV}:∀ {m:Nat} {k a:Int},(wgL x0 y0 u0 u1 many L m k a).length=m
 | 0,_,_=>rfl
 | m+1,k,a=>by rw[wgL,Ay,wgL_len]
def pWg:LS->Bool
 | ([.n n,.n l,.i many,.i k],[.l _ _,.i a,.i _,.i _,.i _,.i _,.l nl es,.i _,.i _])=>decide (n=es.length)&&decide (l=es.length)&&decide (0<=many)&&decide (many<=3)&&decide (1<=k)&&decide (k<=many+1)&&decide (es.length<=1000+k.toNat)&&decide (0<=a)&&decide (a<=1000000000+k) && !nl
 | _=>false
noncomputable def fWg:LS->DT (PX × List PV × List Row)
 | ([.n _,.n _,.i many,.i k],[.l f L,.i a,.i x0,.i y0,.i x1,.i y1,.l _ es,.i u0,.i u1]) =>
  .leaf (xWg (es.length+(many+1-k).toNat) (es.length+(many+1-k).toNat) (f1 f L a (many+1-k).toNat) L (a1 L a (many+1-k).toNat) x0 y0 x1 y1 false (es++wgL x0 y0 u0 u1 many L (many+1-k).toNat k a) u0 u1)
 | _=>.no
def mWg:LS->Nat
 | ([.n _,.n _,.i many,.i k],_)=>(many+1-k).toNat
 | _=>0
theorem sWg:∀ s r,pWg s=true->(fWg s).run=some r->r.1 ≠ .normal/\(CR Try.prog M8 60 72 (CZ Try.f72 5) [2,3,4,7,8,9,10] [2,4,7] (Le.put s).1 (Le.put s).2=some r \/
   ∃ s',CR Try.prog M8 60 72 (CZ Try.f72 5) [2,3,4,7,8,9,10] [2,4,7] (Le.put s).1 (Le.put s).2=some (.normal,Le.put s')/\pWg s'=true/\mWg s'<mWg s/\(fWg s').run=some r):=by
 intro t r hp hr;unfold pWg at hp;split at hp
 ·rename_i n l many k f L a x0 y0 x1 y1 nl es u0 u1;simp only[Aa,Ab,Al] at hp;obtain⟨⟨⟨⟨⟨⟨⟨⟨⟨rfl,rfl⟩,h2⟩,h3⟩,h4⟩,h5⟩,h6⟩,h7⟩,h8⟩,rfl⟩:=hp;have hr':=(Ah hr).symm;refine⟨by rw[hr'];simp,?_⟩;rw[show Le.put ([.n es.length,.n es.length,.i many,.i k],[.l f L,.i a,.i x0,.i y0,.i x1,.i y1,.l false es,.i u0,.i u1])=Le.put (lWg es.length es.length many k f L a x0 y0 x1 y1 false es u0 u1) from rfl,qWg];by_cases hi:k<=many
  ·obtain⟨m,hm⟩:∃ m,(many+1-k).toNat=m+1:=⟨(many+1-k).toNat-1,by omega⟩;have hm2:(many+1-(k+1)).toNat=m:=by omega
   have hq:Int.tdiv many 2=0\/Int.tdiv many 2=1:=by
    have:many=0\/many=1\/many=2\/many=3:=by omega
    rcases this with rfl | rfl | rfl | rfl <;> decide
   have hw1:W (many+1)=many+1:=Dc (by omega) (by omega);have hw2:W (1+W (Int.tdiv many 2))=1+Int.tdiv many 2:=by rw[Dc (n:=Int.tdiv many 2) (by omega) (by omega),Dc (by omega) (by omega)]
   have hroom:roomP es es.length es.length=true:=by unfold roomP;simp;omega
   have hok:EE a 21=true:=by unfold EE;simp;omega
   rw[Ac hi,hok,hroom,Dc (n:=k+1) (by omega) (by omega),show (!decide (W (many+1)=0))=true by rw[hw1];simp;omega,show (!decide (W (1+W (Int.tdiv many 2))=0))=true by rw[hw2];simp;omega];simp only[Bn,Am];rw[Be,AG (by omega),show max es.length (es.length+1)=es.length+1 by omega];rw[hm] at hr';simp only[wgL] at hr';have key:∀ p:PV,p=wgP x0 y0 u0 u1 many k (dI L a 21)->∃ s',some (PX.normal,Le.put (lWg (es.length+1) (es.length+1) many (k+1) (fI f L a) L (aI L a) x0 y0 x1 y1 false (es++[p]) u0 u1))=some (PX.normal,Le.put s')/\pWg s'=true /\
     mWg s'<mWg ([.n es.length,.n es.length,.i many,.i k],[.l f L,.i a,.i x0,.i y0,.i x1,.i y1,.l false es,.i u0,.i u1])/\(fWg s').run=some r:=by
    rintro p rfl
    have ha:=FF L a;refine⟨_,rfl,?_,by simp only[mWg];omega,?_⟩
    ·simp only[pWg,Aa,Ab,Al,Ar,Ay,AC];exact⟨⟨⟨⟨⟨⟨⟨⟨⟨trivial,trivial⟩,h2⟩,h3⟩,by omega⟩,by omega⟩,by omega⟩,by omega⟩,by omega⟩,trivial⟩
    ·rw[hr'];simp only[fWg,hm2,DT.run,Ar,Ay,AC];rw[Nd,f1_next,BG,show es.length+(0+1)+m=es.length+(m+1) by omega];rfl
   unfold wgP at key;cases hb:decide (u0 > u1) with
   | true=>rw[hb] at key;exact .inr (key _ rfl)
   | false=>rw[hb] at key;exact .inr (key _ rfl)
  ·rw[Aj hi];refine .inl ?_;rw[hr',show (many+1-k).toNat=0 by omega,Bq];simp only[wgL,BW];rfl
 ·cases hp
noncomputable def M9:CO:=M8.C8 72 5 [2,3,4,7,8,9,10] [true,true,true,false,true] Le pWg fWg
theorem okM9:Ck Try.prog M9.env:=
 okM8.C8 (n:=60) Try.func72 (show Try.f72.body=some (DL Try.f72) by kernel_rfl) (show (loops (DL Try.f72)).filter (fun b=>Ed b==5)=[CZ Try.f72 5] by kernel_rfl) [2,3,4,7,8,9,10] [2,4,7] [true,true,true,false,true] Le mWg sWg
abbrev Lg (L:List PV) (a:Int):Nat:=(dI L a 4+1-1).toNat
abbrev wgM (x0 y0 x1 y1:Int) (L:List PV) (a:Int):List PV:=[FC x0 y0]++wgL x0 y0 (W (x1-x0)) (W (y1-y0)) (dI L a 4) L (Lg L a) 1 (aI L a)
theorem qWig (x0 y0 x1 y1:Int) (f:Bool) (L:List PV) (a:Int):JV Try.prog M9 60 72 [FC x0 y0,FC x1 y1,.ptr 0 1 0 0] [HC f L a] =
 bif EE a 4 then bif pWg (lWg 1 1 (dI L a 4) 1 (fI f L a) L (aI L a) x0 y0 x1 y1 false [FC x0 y0] (W (x1-x0)) (W (y1-y0))) then
  bif roomP (wgM x0 y0 x1 y1 L a) (1+Lg L a) (1+Lg L a) then
  J0 ((wgM x0 y0 x1 y1 L a).take (1+Lg L a)++FC x1 y1::(wgM x0 y0 x1 y1 L a).drop (1+Lg L a+1)) (max (1+Lg L a) (1+Lg L a+1))
   (some (.CQ false 28 ((((wgM x0 y0 x1 y1 L a).take (1+Lg L a)++FC x1 y1::(wgM x0 y0 x1 y1 L a).drop (1+Lg L a+1)).drop 0).take (1+Lg L a+1)),[HC (f1 (fI f L a) L (aI L a) (Lg L a)) L (a1 L (aI L a) (Lg L a))]))
  else none else none else none:=by kernel_rfl
abbrev wigL (x0 y0 x1 y1:Int) (L:List PV) (a:Int):List PV:=wgM x0 y0 x1 y1 L a++[FC x1 y1]
theorem qWigN (x0 y0 x1 y1:Int) (f:Bool) (L:List PV) (a:Int) (h:0<=a) (h2:a<=1000000000):JV Try.prog M9 60 72 [FC x0 y0,FC x1 y1,.ptr 0 1 0 0] [HC f L a] =
  some (.CQ false 28 (wigL x0 y0 x1 y1 L a),[HC (f1 f L a (Lg L a+1)) L (a1 L a (Lg L a+1))]):=by
 have h3:=Iq L a (n:=4) (by omega);have h4:=HY L a (n:=4) (by omega);have ha:=FF L a;have hok:EE a 4=true:=by unfold EE;simp;omega
 have hp:pWg (lWg 1 1 (dI L a 4) 1 (fI f L a) L (aI L a) x0 y0 x1 y1 false [FC x0 y0] (W (x1-x0)) (W (y1-y0)))=true:=by
  simp only[pWg,Aa,Ab,Al,Ay,AC];exact⟨⟨⟨⟨⟨⟨⟨⟨⟨trivial,trivial⟩,by omega⟩,by omega⟩,by omega⟩,by omega⟩,by omega⟩,by omega⟩,by omega⟩,trivial⟩
 have hlen:(wgM x0 y0 x1 y1 L a).length=1+Lg L a:=by
  show (([FC x0 y0]++wgL x0 y0 (W (x1-x0)) (W (y1-y0)) (dI L a 4) L (Lg L a) 1 (aI L a)):List PV).length=_
  rw[Ar,wgL_len];rfl
 have hN:Lg L a<=3:=by show (dI L a 4+1-1).toNat<=3;omega
 have hroom:roomP (wgM x0 y0 x1 y1 L a) (1+Lg L a) (1+Lg L a)=true:=by unfold roomP;rw[hlen];simp;omega
 rw[qWig,hok,hp,hroom];simp only[Am];rw[<- hlen,Be,AG (by omega),show max (wgM x0 y0 x1 y1 L a).length ((wgM x0 y0 x1 y1 L a).length+1)=(wgM x0 y0 x1 y1 L a).length+1 by omega,
  DQ (by rw[Ar];rfl),AM,Bi (by rw[Ar];simp),Nd,f1_next]
def cWig:List PV->List Row->Option (DT (PV × List Row))
 | [.agg [.val (.int .i64 x0),.val (.int .i64 y0)],.agg [.val (.int .i64 x1),.val (.int .i64 y1)],.ptr 0 1 0 0],[⟨[.agg [.CQ f 3 L,.val (.int .i64 a)]],2,103,true,true,false,none,false⟩] =>
  some (.br (decide (0<=a)&&decide (a<=1000000000)) (.leaf (.CQ false 28 (wigL x0 y0 x1 y1 L a),[HC (f1 f L a (Lg L a+1)) L (a1 L a (Lg L a+1))])) .no)
 | _,_=>none
theorem eWig:Hx.CV Try.prog 72:=(Dm okM9 (qWigN 0 0 0 0 false [] 0 (by omega) (by omega))).1
theorem oWig (args:List PV) (H:List Row) (d:DT (PV × List Row)) (q:PV) (H':List Row) (h:cWig args H=some d) (hd:d.run=some (q,H')):ET Try.prog 0 72 args H q H':=by
 unfold cWig at h;split at h
 ·rename_i x0 y0 x1 y1 f L a;cases h;obtain⟨hc,he⟩:=FK hd;cases he;simp only[Aa,Ab] at hc;exact (Dm okM9 (qWigN x0 y0 x1 y1 f L a hc.1 hc.2)).2
 ·cases h
noncomputable def M10:CO:=M9.ER 72 cWig
theorem okM10:Ck Try.prog M10.env:=okM9.ER eWig oWig
end Go.Hr
namespace Go.Hr
open Go.Hx Go.Hg Go.Hn Go.Proofs Ieee
theorem cut_le (way:Toward) (n drop:Nat):way.cut false n drop<=n / (1 <<< min drop (n.log2+2))+1:=by
 unfold Toward.cut;have:∀ b:Bool,b.toNat<=1:=fun b=>by cases b <;> decide
 exact Nat.add_le_add_left (this _) _
theorem cut_zero (n drop:Nat):Toward.zero.cut false n drop<=n:=by
 unfold Toward.cut;show n / _+0<=n
 rw[Bq];exact Nat.div_le_self _ _
theorem lt_log2 (n:Nat):n<2 ^ (n.log2+1):=Nat.lt_log2_self
theorem even_kept {mag:Nat} {place last:Int} (h:place+mag.log2<=last+52):Toward.even.cut false (mag <<< (place-last).toNat) (last-place).toNat<=2 ^ 53:=by
 by_cases hp:last<=place
 ·refine A_ (cut_le _ _ _) ?_;have hd:(last-place).toNat=0:=by omega
  rw[hd,Nat.zero_min,CG,Nat.div_one,Nat.shiftLeft_eq];have h1:=lt_log2 mag;have h2:mag*2 ^ (place-last).toNat<2 ^ (mag.log2+1)*2 ^ (place-last).toNat:=Nat.mul_lt_mul_of_pos_right h1 (Nat.two_pow_pos _);rw[<- Nat.pow_add] at h2;have h3:2 ^ (mag.log2+1+(place-last).toNat)<=2 ^ 53:=Nat.pow_le_pow_right (by omega) (by omega);exact Ax h2 h3
 ·refine A_ (cut_le _ _ _) ?_;have hd:(place-last).toNat=0:=by omega
  rw[hd,CG,Nat.shiftLeft_eq,BJ];have h1:=lt_log2 mag;have:mag / 2 ^ min (last-place).toNat (mag.log2+2)<2 ^ 53:=by
   rw[Cr (Nat.two_pow_pos _),<- Nat.pow_add];exact Ax h1 (Nat.pow_le_pow_right (by omega) (by omega))
  exact this
theorem add_B {a e B k:Nat} (h1:a<=e+1022) (h2:k<=2*B):a*B+k<=(e+1024)*B:=by
 have h3:a*B<=(e+1022)*B:=AY _ h1;have h4:(e+1022)*B+2*B=(e+1024)*B:=by rw[<- A9]
 omega
theorem nearest_le {mag:Nat} {place:Int} {e:Nat} (h:place+mag.log2<=e):double.nearest false mag place<=(e+1024)*double.binade:=by
 have hl:double.leastPlace = -1074:=by decide
 have hf:double.fractionBits=52:=rfl;have h53:(2:Nat) ^ 53=2*double.binade:=by decide
 unfold Format.nearest Format.word;by_cases h0:mag=0
 ·rw[Ai h0,An (by decide)];exact A4 _
 rw[An h0,An (by decide),hl,hf];refine A_ (Nat.min_le_left _ _) ?_;generalize hlast:max (place+(mag.log2:Int)-(52:Nat)) (-1074)=last;have hk:=even_kept (mag:=mag) (place:=place) (last:=last) (by omega);rw[h53] at hk;generalize double.binade=B at *;exact add_B (by omega) hk
theorem read_le {w K:Nat} (h:w<=K*double.binade) (hK:1<=K) (hK2:K<=1900):∃ m i,double.read w=.number false m i/\m<2 ^ 53/\i<=(K:Int)-1075:=by
 have hs:double.signWeight=2 ^ 63:=rfl;have hb:double.binade=2 ^ 52:=rfl;have hi:double.infRung=2047*2 ^ 52:=rfl;have hl:double.leastPlace = -1074:=by decide
 rw[hb] at h;have hw:w<2 ^ 63:=by omega
 unfold Format.read;dsimp only;rw[hs,hb,hi,hl,Nat.div_eq_of_lt hw,Nat.mod_eq_of_lt hw,show ((0 % 2==1):Bool)=false from rfl];by_cases h1:w<2 ^ 52
 ·rw[Ai h1];exact⟨w,-1074,rfl,by omega,by omega⟩
 ·rw[An h1,Ai (by omega)];refine⟨_,_,rfl,?_,?_⟩
  ·have:=Nat.mod_lt w (show 0<2 ^ 52 by decide);omega
  ·have:w / 2 ^ 52<=K:=Nat.div_le_of_le_mul (by omega);omega
theorem Kx (n:Nat):∀ (todo root:Nat),Datum.rootFrom n todo root<root+2 ^ todo
 | 0,root=>by simp[Datum.rootFrom]
 | todo+1,root=>by
  unfold Datum.rootFrom;have h1:=Kx n todo (root+1 <<< todo);have h2:=Kx n todo root;rw[Nat.shiftLeft_eq,BJ] at h1 ⊢;have h3:2 ^ (todo+1)=2 ^ todo+2 ^ todo:=by rw[Nat.pow_succ];omega
  rw[h3];generalize 2 ^ todo=b at *;show Datum.rootFrom n todo (if (root+b)*(root+b)<=n then root+b else root)<root+(b+b)
  by_cases hc:(root+b)*(root+b)<=n
  ·rw[Ai hc];omega
  ·rw[An hc];omega
theorem log2_le {n k:Nat} (h:n<2 ^ (k+1)):n.log2<=k:=by
 by_cases h0:n=0
 ·subst h0;exact A4 _
 ·have:=(Nat.log2_lt h0).2 h;omega
theorem root_le {m:Nat} {i:Int} (hm:m<2 ^ 53) (hi:i<=11):∃ m2 i2,Datum.root 54 (.number false m i)=some (.number false m2 i2)/\(m2=0\/i2+(m2.log2:Int)<=40):=by
 unfold Datum.root;dsimp only;by_cases h0:m=0
 ·rw[Ai h0];exact⟨m,i,rfl,.inl h0⟩
 ·rw[An h0,An (by decide)];refine⟨_,_,rfl,.inr ?_⟩;have hl:m.log2<=52:=log2_le hm;generalize hmore:2*54-m.log2+((i-((2*54-m.log2:Nat):Int)) % 2).toNat=more;generalize hN:m <<< more=N;have hNl:N.log2<=m.log2+more:=by
   apply log2_le
   rw[<- hN,Nat.shiftLeft_eq];have h1:=Nat.mul_lt_mul_of_pos_right (lt_log2 m) (Nat.two_pow_pos more);rw[<- Nat.pow_add] at h1;exact Ax h1 (Nat.pow_le_pow_right (by omega) (by omega))
  have hw:=Kx N (N.log2 / 2+1) 0;rw[AN] at hw;generalize Datum.rootFrom N (N.log2 / 2+1) 0=w at *;have hb:(w*w != N).toNat<=1:=by cases (w*w != N) <;> decide
  generalize (w*w != N).toNat=b at *;have h2:(2*w+b).log2<=N.log2 / 2+1:=by
   apply log2_le
   rw[show N.log2 / 2+1+1=(N.log2 / 2+1)+1 from rfl,Nat.pow_succ];omega
  omega
theorem toInt_fit {m:Nat} {i:Int} (hm:m<2 ^ 53) (hi:i<=0):∃ t:Int,(Datum.number false m i).toInt .zero=some t/\0<=t/\t<2 ^ 53:=by
 have hz:i.toNat=0:=by omega
 refine⟨_,rfl,?_⟩;show 0<=signed false (Toward.zero.cut false (m <<< i.toNat) (-i).toNat) 0/\signed false (Toward.zero.cut false (m <<< i.toNat) (-i).toNat) 0<2 ^ 53
 rw[hz,CG];have:=cut_zero m (-i).toNat;generalize Toward.zero.cut false m (-i).toNat=c at *;unfold signed;rw[An (by decide),CG];omega
theorem sqrt_fit {n:Int} (h1:0<=n) (h2:n<9223372036854775808):∃ r,FloatKind.f64.format.sqrt (FloatKind.f64.nearest n)=some r/\∃ t:Int,(FloatKind.f64.decode r).toInt .zero=some t/\0<=t/\t<2 ^ 53:=by
 have e1:FloatKind.f64.nearest n=double.nearest false n.natAbs 0:=by
  show double.nearest (decide (n<0)) n.natAbs 0=_
  rw[Aj (by omega)]
 have hn:n.natAbs.log2<=62:=log2_le (by omega);obtain⟨m,i,g1,g2,g3⟩:=read_le (nearest_le (mag:=n.natAbs) (place:=0) (e:=62) (by omega)) (by decide) (by decide);obtain⟨m2,i2,g4,g5⟩:=root_le g2 (show i<=11 by omega);have e2:double.nearest false m2 i2<=(40+1024)*double.binade:=by
  rcases g5 with g5 | g5
  ·subst g5;unfold Format.nearest Format.word;rw[Ai rfl,An (by decide)];exact A4 _
  ·exact nearest_le g5
 obtain⟨m3,i3,g6,g7,g8⟩:=read_le e2 (by decide) (by decide);refine⟨double.nearest false m2 i2,?_,?_⟩
 ·show ((double.read (FloatKind.f64.nearest n)).root 54).map double.write=_
  rw[e1,g1,g4];rfl
 ·show ∃ t:Int,(double.read (double.nearest false m2 i2)).toInt .zero=some t/\_
  rw[g6];exact toInt_fit g7 (by omega)
noncomputable def R27:CO:=R23.addCv Try.prog
theorem okR27:Ck Try.prog R27.env:=okR23.addCv
abbrev sqF (n:Int):Nat:=(FloatKind.f64.format.sqrt (FloatKind.f64.nearest n)).getD 0
abbrev sqT (n:Int):Option Int:=(FloatKind.f64.decode (sqF n)).toInt .zero
def shE:S1:=⟨32,[(0,C4),(3,C4)],[]⟩
theorem qE1 (n s:Int):CR Try.prog R27 60 65 (CZ Try.f65 4) [0,3] [0,3] (shE.put ([.i n,.i s],[])).1 (shE.put ([.i n,.i s],[])).2 =
 bif decide (W (s*s) > n) then some (.normal,shE.put ([.i n,.i (W (s-1))],[])) else some (.exit 0,shE.put ([.i n,.i s],[])):=by kernel_rfl
def okR (n s:Int):Prop:=0<=s/\s<=3037000499/\(s=0\/s*s<=n)/\(s=3037000499\/n<(s+1)*(s+1))
theorem sq_lt {a b:Int} (h0:0<=a) (h:a<b):(a+1)*(a+1)<=b*b:=Int.mul_le_mul (by omega) (by omega) (by omega) (by omega)
theorem okR.uniq {n s t:Int} (h:okR n s) (k:okR n t):s=t:=by
 obtain⟨h1,h2,h3,h4⟩:=h;obtain⟨k1,k2,k3,k4⟩:=k;by_cases a:s<t
 ·have:=sq_lt h1 a;omega
 ·by_cases b:t<s
  ·have:=sq_lt k1 b;omega
  ·omega
def sqB (n:Int):Nat->Int->Int
 | 0,s=>s
 | k+1,s=>sqB n k (bif decide (s+2 ^ k<=3037000499)&&decide ((s+2 ^ k)*(s+2 ^ k)<=n) then s+2 ^ k else s)
def sqR (n:Int):Int:=sqB n 32 0
theorem sqB_ok {n:Int}:∀ {k:Nat} {s:Int},0<=s->s<=3037000499->(s=0\/s*s<=n)->(3037000499<s+2 ^ k\/n<(s+2 ^ k)*(s+2 ^ k))->okR n (sqB n k s)
 | 0,s,h0,h1,h2,h3=>by
  refine⟨h0,h1,h2,?_⟩;rw[Int.pow_zero] at h3;rcases h3 with h3 | h3
  ·left;show s=_;omega
  ·exact .inr h3
 | k+1,s,h0,h1,h2,h3=>by
  have hp:(0:Int)<2 ^ k:=Int.pow_pos (by decide);have he:(2:Int) ^ (k+1)=2 ^ k+2 ^ k:=by rw[Int.pow_succ];omega
  rw[he] at h3;rw[sqB];cases hc:decide (s+2 ^ k<=3037000499)&&decide ((s+2 ^ k)*(s+2 ^ k)<=n) with
  | true =>
   simp only[Aa,Ab] at hc;rw[Am];refine sqB_ok (by omega) hc.1 (.inr hc.2) ?_;rw[Int.add_assoc];exact h3
  | false =>
   rw[Bool.and_eq_false_iff,AP,AP] at hc;rw[At];exact sqB_ok h0 h1 h2 (by omega)
theorem sqR_ok (n:Int) (_:n<9223372036854775808):okR n (sqR n):=sqB_ok (BS _) (by decide) (.inl rfl) (.inl (by decide))
theorem sq_mono {a b:Int} (h0:0<=a) (h:a<=b):a*a<=b*b:=Int.mul_le_mul h h (by omega) (by omega)
theorem sq_fit {a:Int} (h0:0<=a) (h:a<=3037000499):W (a*a)=a*a:=by
 have h1:=Int.mul_nonneg h0 h0;have h2:=sq_mono h0 h;exact Dc (by omega) (by omega)
abbrev dnR (n s:Int):Int:=bif decide (s*s > n) then sqR n else s
def pE1:LS->Bool
 | ([.i n,.i s],[])=>decide (1<=n)&&decide (n<9223372036854775808)&&decide (0<=s)&&decide (s<=3037000499)
 | _=>false
noncomputable def fE1:LS->DT (PX × List PV × List Row)
 | ([.i n,.i s],[])=>.leaf (.exit 0,shE.put ([.i n,.i (dnR n s)],[]))
 | _=>.no
def mE1:LS->Nat
 | ([.i _,.i s],[])=>s.toNat
 | _=>0
theorem sE1:∀ s r,pE1 s=true->(fE1 s).run=some r->r.1 ≠ .normal/\(CR Try.prog R27 60 65 (CZ Try.f65 4) [0,3] [0,3] (shE.put s).1 (shE.put s).2=some r \/
   ∃ s',CR Try.prog R27 60 65 (CZ Try.f65 4) [0,3] [0,3] (shE.put s).1 (shE.put s).2=some (.normal,shE.put s')/\pE1 s'=true/\mE1 s'<mE1 s/\(fE1 s').run=some r):=by
 intro t r hp hr;unfold pE1 at hp;split at hp
 ·rename_i n s;simp only[Aa,Ab] at hp;obtain⟨⟨⟨h1,h2⟩,h3⟩,h4⟩:=hp;have hr':=(Ah hr).symm;refine⟨by rw[hr'];simp,?_⟩;rw[qE1,sq_fit h3 h4];by_cases hs:s*s > n
  ·have hs0:s ≠ 0:=fun e=>by rw[e] at hs;omega
   rw[Ac hs,Dc (n:=s-1) (by omega) (by omega)];refine .inr ⟨([.i n,.i (s-1)],[]),rfl,by simp only[pE1,Aa,Ab];exact⟨⟨⟨h1,h2⟩,by omega⟩,by omega⟩,by simp only[mE1];omega,?_⟩;rw[hr'];have e1:dnR n s=sqR n:=by unfold dnR;rw[Ac hs,Am]
   have e2:dnR n (s-1)=sqR n:=by
    unfold dnR;by_cases hs2:(s-1)*(s-1) > n
    ·rw[Ac hs2,Am]
    ·rw[Aj hs2,At];exact okR.uniq ⟨by omega,by omega,.inr (by omega),.inr (by rw[show s-1+1=s by omega];exact hs)⟩ (sqR_ok n h2)
   simp only[fE1,e1,e2];rfl
  ·rw[Aj hs];refine .inl ?_;rw[hr'];have e1:dnR n s=s:=by unfold dnR;rw[Aj hs,At]
   simp only[e1];rfl
 ·cases hp
noncomputable def R28:CO:=R27.C8 65 4 [0,3] [] shE pE1 fE1
theorem okR28:Ck Try.prog R28.env:=
 okR27.C8 (n:=60) Try.func65 (show Try.f65.body=some (DL Try.f65) by kernel_rfl) (show (loops (DL Try.f65)).filter (fun b=>Ed b==4)=[CZ Try.f65 4] by kernel_rfl) [0,3] [0,3] [] shE mE1 sE1
theorem qE2' (n s:Int):CR Try.prog R28 60 65 (CZ Try.f65 6) [0,3] [3] (shE.put ([.i n,.i s],[])).1 (shE.put ([.i n,.i s],[])).2 =
 bif decide (s<3037000499) then bif decide (W (W (s+1)*W (s+1))<=n) then some (.normal,shE.put ([.i n,.i (W (s+1))],[])) else some (.exit 2,tm 32 [(3,iv s)],[]) else some (.exit 2,tm 32 [(3,iv s)],[]):=by kernel_rfl
def pE2:LS->Bool
 | ([.i n,.i s],[])=>decide (1<=n)&&decide (n<9223372036854775808)&&decide (0<=s)&&decide (s<=3037000499)&&decide (s*s<=n)
 | _=>false
noncomputable def fE2:LS->DT (PX × List PV × List Row)
 | ([.i n,.i _],[])=>.leaf (.exit 2,tm 32 [(3,iv (sqR n))],[])
 | _=>.no
def mE2:LS->Nat
 | ([.i _,.i s],[])=>(3037000499-s).toNat
 | _=>0
theorem sE2:∀ s r,pE2 s=true->(fE2 s).run=some r->r.1 ≠ .normal/\(CR Try.prog R28 60 65 (CZ Try.f65 6) [0,3] [3] (shE.put s).1 (shE.put s).2=some r \/
   ∃ s',CR Try.prog R28 60 65 (CZ Try.f65 6) [0,3] [3] (shE.put s).1 (shE.put s).2=some (.normal,shE.put s')/\pE2 s'=true/\mE2 s'<mE2 s/\(fE2 s').run=some r):=by
 intro t r hp hr;unfold pE2 at hp;split at hp
 ·rename_i n s;simp only[Aa,Ab] at hp;obtain⟨⟨⟨⟨h1,h2⟩,h3⟩,h4⟩,h5⟩:=hp;have hr':=(Ah hr).symm;refine⟨by rw[hr'];simp,?_⟩;rw[qE2'];have fin:okR n s->(some (PX.exit 2,tm 32 [(3,iv s)],[]):Option (PX × List PV × List Row))=some r:=fun h=>by rw[hr',h.uniq (sqR_ok n h2)]
  by_cases hs:s<3037000499
  ·rw[Ac hs,Dc (n:=s+1) (by omega) (by omega),sq_fit (a:=s+1) (by omega) (by omega)];by_cases hn:(s+1)*(s+1)<=n
   ·rw[Ac hn];exact .inr ⟨([.i n,.i (s+1)],[]),rfl,by simp only[pE2,Aa,Ab];exact⟨⟨⟨⟨h1,h2⟩,by omega⟩,by omega⟩,hn⟩,by simp only[mE2];omega,by rw[hr'];rfl⟩
   ·rw[Aj hn];exact .inl (fin ⟨h3,h4,.inr h5,.inr (by omega)⟩)
  ·rw[Aj hs];exact .inl (fin ⟨h3,h4,.inr h5,.inl (by omega)⟩)
 ·cases hp
noncomputable def R29:CO:=R28.C8 65 6 [0,3] [] shE pE2 fE2
theorem okR29:Ck Try.prog R29.env:=
 okR28.C8 (n:=60) Try.func65 (show Try.f65.body=some (DL Try.f65) by kernel_rfl) (show (loops (DL Try.f65)).filter (fun b=>Ed b==6)=[CZ Try.f65 6] by kernel_rfl) [0,3] [3] [] shE mE2 sE2
def sqM (n:Int):Int:=if 3037000499<(sqT n).getD 0 then 3037000499 else (sqT n).getD 0
theorem qSq (n:Int):Dw Try.prog R29 60 65 [iv n]=bif decide (n<=0) then some (iv 0) else
 bif (FloatKind.f64.format.sqrt (FloatKind.f64.nearest n)).isSome then bif (sqT n).isSome&&(decide (IntKind.i64.min<=(sqT n).getD 0)&&decide ((sqT n).getD 0<=IntKind.i64.max)) then
  bif pE1 ([.i n,.i (sqM n)],[]) then bif pE2 ([.i n,.i (dnR n (sqM n))],[]) then some (iv (sqR n)) else none else none else none else none:=by kernel_rfl
theorem sqR_neg {n:Int} (h:n<=0):sqR n=0:=by
 have h1:=sqR_ok n (by omega);refine h1.uniq ⟨BS _,by decide,.inl rfl,.inr (by omega)⟩
theorem qSqN (n:Int) (h:n<9223372036854775808):Dw Try.prog R29 60 65 [iv n]=some (iv (sqR n)):=by
 rw[qSq];by_cases h0:n<=0
 ·rw[Ac h0,sqR_neg h0];rfl
 ·rw[Aj h0];obtain⟨x,h1,t,h2,h3,h4⟩:=sqrt_fit (n:=n) (by omega) h;have e1:sqT n=some t:=by
   show (FloatKind.f64.decode ((FloatKind.f64.format.sqrt (FloatKind.f64.nearest n)).getD 0)).toInt .zero=some t
   rw[h1];exact h2
  have hm:sqM n=if 3037000499<t then 3037000499 else t:=by unfold sqM;rw[e1];rfl
  have b1:0<=sqM n:=by rw[hm];split <;> omega
  have b2:sqM n<=3037000499:=by rw[hm];split <;> omega
  rw[h1,e1,show (some x).isSome=true from rfl,show (some t).isSome=true from rfl,Bw,
   Ac (show IntKind.i64.min<=t by show (-9223372036854775808:Int)<=t;omega),Ac (show t<=IntKind.i64.max by show t<=(9223372036854775807:Int);omega)]
  have p1:pE1 ([.i n,.i (sqM n)],[])=true:=by simp only[pE1,Aa,Ab];exact⟨⟨⟨by omega,h⟩,b1⟩,b2⟩
  have p2:pE2 ([.i n,.i (dnR n (sqM n))],[])=true:=by
   simp only[pE2,Aa,Ab];unfold dnR;by_cases hs:sqM n*sqM n > n
   ·rw[Ac hs,Am];obtain⟨g1,g2,g3,g4⟩:=sqR_ok n h;refine⟨⟨⟨⟨by omega,h⟩,g1⟩,g2⟩,?_⟩;rcases g3 with g3 | g3
    ·rw[g3];omega
    ·exact g3
   ·rw[Aj hs,At];exact⟨⟨⟨⟨by omega,h⟩,b1⟩,b2⟩,by omega⟩
  rw[p1,p2];rfl
def cSq:List PV->Option (DT PV)
 | [.val (.int .i64 n)]=>some (.br (decide (n<9223372036854775808)) (.leaf (iv (sqR n))) .no)
 | _=>none
theorem eSq:Hx.CV Try.prog 65:=(CK okR29 (n:=60) (qSqN 0 (by decide))).1
theorem oSq (args:List PV) (d:DT PV) (r:PV) (h:cSq args=some d) (hr:d.run=some r):Da Try.prog 65 args r:=by
 unfold cSq at h;split at h
 ·rename_i n;cases h;obtain⟨h1,rfl⟩:=DI hr;exact (CK okR29 (n:=60) (qSqN n (AS h1))).2
 ·cases h
noncomputable def R30:CO:=R29.DF 65 cSq
theorem okR30:Ck Try.prog R30.env:=okR29.DF eSq oSq
end Go.Hr
namespace Go.Hr
open Go.Hx Go.Hg Go.Hn Go.Proofs
noncomputable def R33:CO:=(R30.FN 64).addV 35 2 [2,7]
theorem okR33:Ck Try.prog R33.env:=(okR30.FN 64).addV 35 2 [2,7]
noncomputable def lrT (st:LSt):Row:=lrow 35 Try.f35 2 (tm 22 [(2,.ptr 0 1 0 0),(7,.fn (.func 83) [] [.ptr 1 1 0 0])]) st
def shT:S1:=⟨25,[(0,.HE 2),(1,.ptr 1 1 0 0),(3,C4)],[.one 3 1 C4,.one 47 1 (.CQ 28),.raw]⟩
abbrev lT (i n:Int) (f:Bool) (es:List PV) (r:Row):LS:=([.i i],[.i n,.l f es,.r r])
abbrev pX8 (es:List PV) (i:Int):Int:=ptX es i.toNat
abbrev pY8 (es:List PV) (i:Int):Int:=ptY es i.toNat
def sgQ (es:List PV) (i j:Int):Int:=W (W (W (pX8 es j-pX8 es i)*W (pX8 es j-pX8 es i))+W (W (pY8 es j-pY8 es i)*W (pY8 es j-pY8 es i)))
abbrev H8 (es:List PV) (i:Int):Bool:=decide (0<=i)&&decide (i<(es.length:Int))
theorem qT (i n:Int) (f:Bool) (es:List PV):CR Try.prog R33 60 83 (CZ Try.f83 1) [0,1,3] [] (shT.put (lT i n f es (lrT .ready))).1 (shT.put (lT i n f es (lrT .ready))).2 =
 bif decide (W (i+1)<(es.length:Int)) then bif H8 es i then bif H8 es (W (i+1)) then bif decide (sgQ es i (W (i+1))<9223372036854775808) then
  some (.normal,shT.put (lT (W (i+1)) (W (n+sqR (sgQ es i (W (i+1))))) f es (lrT .ready))) else none else none else none else some (.exit 0,tm 25 [],(shT.put (lT 0 n f es (lrT .ready))).2):=by kernel_rfl
def lsum (es:List PV) (i:Int):Nat->Int
 | 0=>0
 | m+1=>sqR (sgQ es i (i+1))+lsum es (i+1) m
abbrev I0 (es:List PV) (i:Int):Nat:=((es.length:Int)-1-i).toNat
def Df (es:List PV):Int:=lsum es 0 (I0 es 0)
theorem sgQ_fit (es:List PV) (i j:Int):sgQ es i j<9223372036854775808:=(W_range _).2
theorem sqR_fit (n:Int) (h:n<9223372036854775808):0<=sqR n/\sqR n<=3037000499:=let h:=sqR_ok n h; ⟨h.1,h.2.1⟩
theorem lsum_fit (es:List PV):∀ (m:Nat) (i:Int),0<=lsum es i m/\lsum es i m<=3037000499*m
 | 0,_=>⟨BS _,BS _⟩
 | m+1,i=>by
  have h1:=lsum_fit es m (i+1);have h2:=sqR_fit _ (sgQ_fit es i (i+1));rw[lsum];omega
theorem restN_succ {es:List PV} {i:Int} (h:i+1<(es.length:Int)):I0 es i=I0 es (i+1)+1:=by unfold I0;omega
def pTq:LS->Bool
 | ([.i i],[.i n,.l _ es,.r _])=>decide (0<=i)&&decide (es.length<=100000)&&decide (0<=n)&&decide (n<=3037000499*i)&&decide (i<=100000)
 | _=>false
noncomputable def pTr:LS->Bool
 | ([.i i],[.i n,.l f es,.r r])=>pTq ([.i i],[.i n,.l f es,.r r])&&same r (lrT .ready)
 | _=>false
noncomputable def fT:LS->DT (PX × List PV × List Row)
 | ([.i i],[.i n,.l f es,.r _])=>.leaf (.exit 0,tm 25 [],(shT.put (lT 0 (n+lsum es i (I0 es i)) f es (lrT .ready))).2)
 | _=>.no
def mT:LS->Nat
 | ([.i i],[.i _,.l _ es,.r _])=>((es.length:Int)-i).toNat
 | _=>0
theorem sT:∀ s r,pTr s=true->(fT s).run=some r->r.1 ≠ .normal/\(CR Try.prog R33 60 83 (CZ Try.f83 1) [0,1,3] [] (shT.put s).1 (shT.put s).2=some r \/
   ∃ s',CR Try.prog R33 60 83 (CZ Try.f83 1) [0,1,3] [] (shT.put s).1 (shT.put s).2=some (.normal,shT.put s')/\pTr s'=true/\mT s'<mT s/\(fT s').run=some r):=by
 intro t r hp hr;unfold pTr at hp;split at hp
 ·rename_i i n f es rr;simp only[pTq,Aa,Ab,same_iff] at hp;obtain⟨⟨⟨⟨⟨h1,h2⟩,h3⟩,h4⟩,h5⟩,rfl⟩:=hp;have hr':=(Ah hr).symm;refine⟨by rw[hr'];simp,?_⟩;rw[qT,Dc (n:=i+1) (by omega) (by omega)];by_cases hi:i+1<(es.length:Int)
  ·have hq:=sqR_fit _ (sgQ_fit es i (i+1));rw[Ac hi,show H8 es i=true by simp;omega,show H8 es (i+1)=true by simp;omega,Ac (sgQ_fit es i (i+1)),Dc (n:=n+sqR (sgQ es i (i+1))) (by omega) (by omega)];refine .inr ⟨lT (i+1) (n+sqR (sgQ es i (i+1))) f es (lrT .ready),rfl,by simp only[pTr,pTq,Aa,Ab,same_iff];exact⟨⟨⟨⟨⟨by omega,h2⟩,by omega⟩,by omega⟩,by omega⟩,trivial⟩,by simp only[mT];omega,?_⟩;rw[hr',restN_succ hi,lsum];simp only[fT,Int.add_assoc];rfl
  ·have:I0 es i=0:=by unfold I0;omega
   rw[Aj hi,hr',this,lsum,Int.add_zero];exact .inl rfl
 ·cases hp
noncomputable def R34:CO:=R33.C8 83 1 [0,1,3] [] shT pTr fT
theorem okR34:Ck Try.prog R34.env:=
 okR33.C8 (n:=60) Try.func83 (show Try.f83.body=some (DL Try.f83) by kernel_rfl) (show (loops (DL Try.f83)).filter (fun b=>Ed b==1)=[CZ Try.f83 1] by kernel_rfl) [0,1,3] [] [] shT mT sT
theorem qLen (f:Bool) (es:List PV):Dw Try.prog R34 60 35 [.CQ f 28 es]=bif pTr (lT 0 0 f es (lrT .ready)) then some (iv (0+lsum es 0 (I0 es 0))) else none:=by kernel_rfl
def cLen:List PV->Option (DT PV)
 | [.CQ _ 28 es]=>some (.br (decide (es.length<=100000)) (.leaf (iv (Df es))) .no)
 | [.val (.slice none 0 0)]=>some (.leaf (iv 0))
 | _=>none
theorem qLenN (f:Bool) (es:List PV) (h:es.length<=100000):Dw Try.prog R34 60 35 [.CQ f 28 es]=some (iv (Df es)):=by
 rw[qLen,show pTr (lT 0 0 f es (lrT .ready))=true by simp only[pTr,pTq,Aa,Ab,same_iff];exact⟨⟨⟨⟨⟨by omega,h⟩,by omega⟩,by omega⟩,by omega⟩,trivial⟩,Int.zero_add];rfl
theorem qLen0:Dw Try.prog R34 60 35 [.val (.slice none 0 0)]=some (iv 0):=by kernel_rfl
theorem eLen:Hx.CV Try.prog 35:=(CK okR34 (n:=60) qLen0).1
theorem oLen (args:List PV) (d:DT PV) (r:PV) (h:cLen args=some d) (hr:d.run=some r):Da Try.prog 35 args r:=by
 unfold cLen at h;split at h
 ·rename_i f es;cases h;obtain⟨h1,rfl⟩:=DI hr;exact (CK okR34 (n:=60) (qLenN f es (AS h1))).2
 ·cases h;cases hr;exact (CK okR34 (n:=60) qLen0).2
 ·cases h
noncomputable def R36:CO:=R34.DF 35 cLen
theorem okR36:Ck Try.prog R36.env:=okR34.DF eLen oLen
end Go.Hr
namespace Go.Hr
abbrev Ky:=Int × List Int
def EX:List Int->List Int->Int
 | [],[]=>0
 | [],_::_ => -1
 | _::_,[]=>1
 | a::l,b::m=>if a<b then -1 else if b<a then 1 else EX l m
def kLt (a b:Ky):Prop:=a.1<b.1\/a.1=b.1/\(a.2.length<b.2.length\/a.2.length=b.2.length/\EX a.2 b.2<0)
instance (a b:Ky):Decidable (kLt a b):=inferInstanceAs (Decidable (_\/_))
theorem lexC_self:∀ l:List Int,EX l l=0
 | []=>rfl
 | a::l=>by rw[EX,An (by omega),An (by omega),lexC_self]
theorem lexC_zero:∀ {l m:List Int},EX l m=0->l=m
 | [],[],_=>rfl
 | [],_::_,h=>by simp[EX] at h
 | _::_,[],h=>by simp[EX] at h
 | a::l,b::m,h=>by
  rw[EX] at h;split at h
  ·cases h
  ·split at h
   ·cases h
   ·rw[lexC_zero h,show a=b by omega]
theorem I1:∀ (l m:List Int),(EX l m<0 ↔ 0<EX m l)
 | [],[]=>by simp[EX]
 | [],_::_=>by simp[EX]
 | _::_,[]=>by simp[EX]
 | a::l,b::m=>by
  rw[EX,EX];by_cases h1:a<b
  ·rw[Ai h1,An (by omega),Ai h1];decide
  ·rw[An h1];by_cases h2:b<a
   ·rw[Ai h2,Ai h2];decide
   ·rw[An h2,An h2,An h1];exact I1 l m
theorem LB:∀ {l m n:List Int},EX l m<=0->EX m n<=0->EX l n<=0
 | [],_,[],_,_=>by simp[EX]
 | [],_,_::_,_,_=>by simp[EX]
 | _::_,[],_,h,_=>by simp[EX] at h
 | _::_,_::_,[],_,h=>by simp[EX] at h
 | a::l,b::m,c::n,h,k=>by
  rw[EX] at h k ⊢;by_cases h1:a<b
  ·by_cases k1:b<c
   ·rw[Ai (by omega)];decide
   ·rw[An k1] at k;by_cases k2:c<b
    ·rw[Ai k2] at k;exact absurd k (by decide)
    ·rw[Ai (by omega)];decide
  ·rw[An h1] at h;by_cases h2:b<a
   ·rw[Ai h2] at h;exact absurd h (by decide)
   ·rw[An h2] at h;by_cases k1:b<c
    ·rw[Ai (by omega)];decide
    ·rw[An k1] at k;by_cases k2:c<b
     ·rw[Ai k2] at k;exact absurd k (by decide)
     ·rw[An k2] at k;rw[An (by omega),An (by omega)];exact LB h k
theorem lexC_snoc:∀ {l m:List Int} (x:Int),l.length=m.length->EX (l++[x]) (m++[x])=EX l m
 | [],[],x,_=>by simp[EX]
 | [],_::_,_,h=>by simp at h
 | _::_,[],_,h=>by simp at h
 | a::l,b::m,x,h=>by
  rw[List.cons_append,List.cons_append,EX,EX,lexC_snoc x (by simpa using h)]
theorem kLt_irr {a:Ky}:¬ kLt a a:=by
 unfold kLt;rw[lexC_self];omega
theorem kLt_tot {a b:Ky} (h1:¬ kLt a b) (h2:¬ kLt b a):a=b:=by
 unfold kLt at h1 h2;obtain⟨a1,a2⟩:=a;obtain⟨b1,b2⟩:=b;simp only at h1 h2;have e1:a1=b1:=by omega
 have e2:a2.length=b2.length:=by omega
 have h3:¬ EX a2 b2<0:=by omega
 have h4:¬ EX b2 a2<0:=by omega
 rw[I1] at h4;rw[e1,lexC_zero (l:=a2) (m:=b2) (by omega)]
abbrev kLe (a b:Ky):Prop:=¬ kLt b a
theorem kLe_iff {a b:Ky}:kLe a b ↔ a.1<b.1\/a.1=b.1/\(a.2.length<b.2.length\/a.2.length=b.2.length/\EX a.2 b.2<=0):=by
 unfold kLe kLt;have:=I1 b.2 a.2;have:=I1 a.2 b.2;omega
theorem Nf {a:Ky}:kLe a a:=kLt_irr
theorem I2 {a b c:Ky} (h:kLe a b) (k:kLe b c):kLe a c:=by
 rw[kLe_iff] at *;rcases h with h | ⟨h1,h | ⟨h2,h3⟩⟩
 ·omega
 ·omega
 ·rcases k with k | ⟨k1,k | ⟨k2,k3⟩⟩
  ·omega
  ·omega
  ·exact .inr ⟨by omega,.inr ⟨by omega,LB h3 k3⟩⟩
theorem kLe_anti {a b:Ky} (h:kLe a b) (k:kLe b a):a=b:=kLt_tot k h
theorem kLt_le {a b:Ky} (h:kLt a b):kLe a b:=fun k=>by
 unfold kLt at h k;have:=I1 b.2 a.2;omega
abbrev kAdd (a:Ky) (id w:Int):Ky:=(a.1+w,a.2++[id])
theorem kAdd_mono {a b:Ky} {id w:Int} (h:kLe a b):kLe (kAdd a id w) (kAdd b id w):=by
 rw[kLe_iff] at *;simp only[Ar,Ay,AC];rcases h with h | ⟨h1,h | ⟨h2,h3⟩⟩
 ·omega
 ·omega
 ·rw[lexC_snoc id h2];omega
theorem kAdd_le {a:Ky} {id w:Int} (hw:0<=w):kLe a (kAdd a id w):=by
 rw[kLe_iff];simp only[Ar,Ay,AC];omega
abbrev Eg:=T3 × T3 × Int × Int
inductive Mc (G:List Eg) (s:T3):T3->Ky->Prop
 | nil:Mc G s s (0,[])
 | step {t u:T3} {id w:Int} {k:Ky} (h:Mc G s t k) (he:(t,u,id,w) ∈ G):Mc G s u (kAdd k id w)
abbrev NonNeg (G:List Eg):Prop:=∀ e ∈ G,0<=e.2.2.2
theorem Mc.Kz {G:List Eg} {s t:T3} {k:Ky} (hG:NonNeg G) (h:Mc G s t k):kLe (0,[]) k:=by
 induction h with
 | nil=>exact Nf
 | step h he ih=>exact I2 ih (kAdd_le (hG _ he))
theorem Mc.cost {G:List Eg} {s t:T3} {k:Ky} (hG:NonNeg G) (h:Mc G s t k):0<=k.1:=by
 induction h with
 | nil=>exact BS _
 | step h he ih=>have:=hG _ he;simp only at this ⊢;omega
def LC (G:List Eg) (s t:T3) (k:Ky):Prop:=Mc G s t k/\∀ k',Mc G s t k'->kLe k k'
theorem LC.uniq {G:List Eg} {s t:T3} {k k':Ky} (h:LC G s t k) (h':LC G s t k'):k=k':=kLe_anti (h.2 _ h'.1) (h'.2 _ h.1)
structure Dij (G:List Eg) (s:T3) (D N:List (T3 × Ky)):Prop where
 wN:∀ x ∈ N,Mc G s x.1 x.2
 wD:∀ x ∈ D,LC G s x.1 x.2
 clo:∀ x ∈ D,∀ u id w,(x.1,u,id,w) ∈ G->u ∈ D.map (·.1)\/(u,kAdd x.2 id w) ∈ N
 from_:s ∈ D.map (·.1)\/(s,(0,[])) ∈ N
 nd:(D.map (·.1)).Nodup
theorem Dij.some {G:List Eg} {s u:T3} {D N:List (T3 × Ky)} {k:Ky} (hG:NonNeg G) (h:Dij G s D N) (hw:Mc G s u k):u ∈ D.map (·.1)\/∃ n ∈ N,kLe n.2 k:=by
 induction hw with
 | nil=>exact h.from_.imp_right fun h=>⟨_,h,Nf⟩
 | @step t u id w k hw he ih =>
  rcases ih with ih | ⟨n,hn,ih⟩
  ·obtain⟨x,hx,rfl⟩:=AW.1 ih;rcases h.clo x hx u id w he with h1 | h1
   ·exact .inl h1
   ·exact .inr ⟨_,h1,kAdd_mono ((h.wD x hx).2 _ hw)⟩
  ·exact .inr ⟨n,hn,I2 ih (kAdd_le (hG _ he))⟩
def Hb (G:List Eg) (D:List (T3 × Ky)) (r:T3 × Ky):List (T3 × Ky):=
 G.filterMap fun e=>if e.1=r.1/\e.2.1 ∉ D.map (·.1) then some (e.2.1,kAdd r.2 e.2.2.1 e.2.2.2) else none
theorem Dij.init {G:List Eg} {s:T3}:Dij G s [] [(s,(0,[]))] where
 wN x hx:=by rw[AF.1 hx];exact .nil
 wD x hx:=by cases hx
 clo x hx:=by cases hx
 from_:=.inr (AF.2 rfl)
 nd:=.nil
theorem Dij.known {G:List Eg} {s:T3} {D N:List (T3 × Ky)} (h:Dij G s D N) {r:T3} (hr:r ∈ D.map (·.1)):Dij G s D (N.filter fun x => !decide (x.1=r)) where
 wN x hx:=h.wN x (Bf.1 hx).1
 wD:=h.wD
 clo x hx u id w he:=(h.clo x hx u id w he).elim .inl fun hn=>by
  by_cases hu:u=r
  ·exact .inl (hu ▸ hr)
  ·exact .inr (Bf.2 ⟨hn,by simpa using hu⟩)
 from_:=h.from_.elim .inl fun hn=>by
  by_cases hu:s=r
  ·exact .inl (hu ▸ hr)
  ·exact .inr (Bf.2 ⟨hn,by simpa using hu⟩)
 nd:=h.nd
theorem Dij.take {G:List Eg} {s:T3} {D N:List (T3 × Ky)} (hG:NonNeg G) (h:Dij G s D N) {r:T3 × Ky} (hr:r ∈ N) (hl:∀ x ∈ N,kLe r.2 x.2) (hn:r.1 ∉ D.map (·.1)):
  Dij G s (D++[r]) ((N.filter fun x => !decide (x.1=r.1))++Hb G (D++[r]) r) where
 wN x hx:=by
  rcases A5.1 hx with hx | hx
  ·exact h.wN x (Bf.1 hx).1
  ·obtain⟨e,he,hx⟩:=B2.1 hx;split at hx
   ·rename_i hc;cases hx;have:=(h.wN r hr);rw[<- hc.1] at this;exact .step this he
   ·cases hx
 wD x hx:=by
  rcases A5.1 hx with hx | hx
  ·exact h.wD x hx
  ·rw[AF.1 hx];refine⟨h.wN r hr,fun k' hk => ?_⟩;rcases h.some hG hk with h1 | ⟨n,h1,h2⟩
   ·exact absurd h1 hn
   ·exact I2 (hl n h1) h2
 clo x hx u id w he:=by
  have key:u ∈ D.map (·.1)\/(u,kAdd x.2 id w) ∈ N\/x=r:=by
   rcases A5.1 hx with hx | hx
   ·exact (h.clo x hx u id w he).elim .inl fun h=>.inr (.inl h)
   ·exact .inr (.inr (AF.1 hx))
  rcases key with h1 | h1 | h1
  ·exact .inl (by rw[BB];exact BK _ h1)
  ·by_cases hu:u=r.1
   ·exact .inl (by rw[BB,hu];exact List.mem_append_right _ (AF.2 rfl))
   ·exact .inr (BK _ (Bf.2 ⟨h1,by simpa using hu⟩))
  ·subst h1;by_cases hu:u ∈ (D++[x]).map (·.1)
   ·exact .inl hu
   ·exact .inr (List.mem_append_right _ (B2.2 ⟨_,he,by rw[Ai ⟨rfl,hu⟩]⟩))
 from_:=by
  rcases h.from_ with h1 | h1
  ·exact .inl (by rw[BB];exact BK _ h1)
  ·by_cases hu:s=r.1
   ·exact .inl (by rw[BB,hu];exact List.mem_append_right _ (AF.2 rfl))
   ·exact .inr (BK _ (Bf.2 ⟨h1,by simpa using hu⟩))
 nd:=by
  rw[BB,List.nodup_append];exact⟨h.nd,by simp,fun a ha b hb=>by rw[AZ,Bu,AF] at hb;subst hb;exact fun e=>hn (e ▸ ha)⟩
theorem Dij.done {G:List Eg} {s u:T3} {D:List (T3 × Ky)} {k:Ky} (hG:NonNeg G) (h:Dij G s D []) (hw:Mc G s u k):u ∈ D.map (·.1):=
 (h.some hG hw).elim id fun ⟨_,hn,_⟩=>by cases hn
abbrev OF:=T3->Option Ky
noncomputable def minF (G:List Eg) (s:T3):OF:=fun v => @dite _ (∃ k,LC G s v k) (Classical.propDecidable _) (fun h=>some h.choose) (fun _=>none)
theorem KY {G:List Eg} {s v:T3} {k:Ky}:minF G s v=some k ↔ LC G s v k:=by
 unfold minF;split
 ·rename_i h;constructor
  ·intro e;cases e;exact h.choose_spec
  ·intro e;rw[h.choose_spec.uniq e]
 ·rename_i h;exact⟨fun e=>(nomatch e),fun e=>absurd ⟨_,e⟩ h⟩
def bet (k:Ky):Option Ky->Bool
 | none=>true
 | some k'=>decide (kLt k k')
def imp (f:OF) (e:Eg):Bool:=
 match f e.1 with
 | none=>false
 | some k=>bet (kAdd k e.2.2.1 e.2.2.2) (f e.2.1)
def rlx (f:OF) (e:Eg):OF:=fun v=>bif decide (v=e.2.1)&&imp f e then (f e.1).map fun k=>kAdd k e.2.2.1 e.2.2.2 else f v
def again:List Eg->OF->Bool
 | [],_=>false
 | e::G,f=>imp f e||again G (rlx f e)
end Go.Hr
namespace Go.Hr
open Go.Hx Go.Hg Go.Hn Go.Proofs
abbrev Dh (es:List PV):List Int:=es.map fun e=>(e.cellAt 0).Dn
theorem E6 (es:List PV):(Dh es).length=es.length:=A1 ..
theorem KA {es:List PV} {i:Int} (h0:0<=i) (h1:i<(es.length:Int)):(Dh es).drop i.toNat=((es.getD i.toNat .any).cellAt 0).Dn::(Dh es).drop (i+1).toNat:=by
 show (es.map _).drop _=_::(es.map _).drop _
 rw[<- List.map_drop,<- List.map_drop,Db h0 h1];rfl
theorem D1 {es:List PV} {i:Int} (h0:0<=i) (h1:i<(es.length:Int)):H8 es i=true:=by
 show (decide (0<=i)&&decide (i<(es.length:Int)))=true
 rw[Ac h0,Ac h1];rfl
def shCp:Hx.S1:=⟨36,[(0,.CQ 3),(1,.CQ 3),(9,.CQ 3),(10,C4),(11,C4)],[]⟩
abbrev lCp (f:Bool) (es:List PV) (g:Bool) (bs:List PV) (f':Bool) (es':List PV) (n i:Int):LS:=([.l f es,.l g bs,.l f' es',.i n,.i i],[])
abbrev xCp (f:Bool) (es:List PV) (g:Bool) (bs:List PV):PX × List PV × List Row:=(.exit 0,tm 36 [(0,.CQ f 3 es),(1,.CQ g 3 bs)],[])
abbrev rCp (f:Bool) (es:List PV) (g:Bool) (bs:List PV) (c:Int):PX × List PV × List Row:=(.ret,tm 36 [(0,.CQ f 3 es),(1,.CQ g 3 bs),(4,iv c)],[])
abbrev nI (es:List PV) (i:Int):Int:=((es.getD i.toNat .any).cellAt 0).Dn
theorem qCp (f:Bool) (es:List PV) (g:Bool) (bs:List PV) (f':Bool) (es':List PV) (n i:Int):
 CR Try.prog R36 60 81 (CZ Try.f81 2) [0,1,9,10,11] [0,1,4] (shCp.put (lCp f es g bs f' es' n i)).1 (shCp.put (lCp f es g bs f' es' n i)).2 =
 bif decide (i<n) then bif H8 es' i then bif decide (i ≥ (bs.length:Int)) then some (rCp f es g bs 1) else bif H8 bs i then
  bif sgn (nI es' i-nI bs i) != 0 then some (rCp f es g bs (sgn (nI es' i-nI bs i))) else some (.normal,shCp.put (lCp f es g bs f' es' n (W (i+1)))) else none else none
 else some (xCp f es g bs):=by kernel_rfl
def cmR:List Int->List Int->Int
 | [],_=>0
 | _::_,[]=>1
 | a::l,b::m=>bif sgn (a-b) != 0 then sgn (a-b) else cmR l m
def pCp:LS->Bool
 | ([.l _ _,.l _ _,.l _ es',.i n,.i i],[])=>decide (n=(es'.length:Int))&&decide (0<=i)&&decide (es'.length<=1000000)
 | _=>false
def fCp:LS->DT (PX × List PV × List Row)
 | ([.l f es,.l g bs,.l _ es',.i _,.i i],[])=>.br (cmR ((Dh es').drop i.toNat) ((Dh bs).drop i.toNat)==0) (.leaf (xCp f es g bs)) (.leaf (rCp f es g bs (cmR ((Dh es').drop i.toNat) ((Dh bs).drop i.toNat))))
 | _=>.no
def mCp:LS->Nat
 | ([.l _ _,.l _ _,.l _ _,.i n,.i i],[])=>(n-i).toNat
 | _=>0
theorem sCp:∀ s r,pCp s=true->(fCp s).run=some r->r.1 ≠ .normal/\(CR Try.prog R36 60 81 (CZ Try.f81 2) [0,1,9,10,11] [0,1,4] (shCp.put s).1 (shCp.put s).2=some r \/
   ∃ s',CR Try.prog R36 60 81 (CZ Try.f81 2) [0,1,9,10,11] [0,1,4] (shCp.put s).1 (shCp.put s).2=some (.normal,shCp.put s')/\pCp s'=true/\mCp s'<mCp s/\(fCp s').run=some r):=by
 intro s r hp hr;unfold pCp at hp;split at hp
 ·rename_i f es g bs f' es' n i;simp only[Aa,Ab] at hp;obtain⟨⟨rfl,h2⟩,h3⟩:=hp;have hr':=Il hr;refine⟨by rw[hr'];cases (cmR ((Dh es').drop i.toNat) ((Dh bs).drop i.toNat)==0) <;> simp,?_⟩;rw[show shCp.put ([.l f es,.l g bs,.l f' es',.i (es'.length:Int),.i i],[])=shCp.put (lCp f es g bs f' es' (es'.length:Int) i) from rfl,qCp];by_cases hi:i<(es'.length:Int)
  ·rw[Ac hi,Am,D1 h2 hi,Am];rw[KA h2 hi] at hr';by_cases hb:i ≥ (bs.length:Int)
   ·rw[Ac hb];rw[AG (show (Dh bs).length<=i.toNat by rw[E6];omega)] at hr';exact .inl (by rw[hr'];rfl)
   ·rw[Aj hb,At,D1 h2 (show i<(bs.length:Int) by omega),Am];rw[KA h2 (show i<(bs.length:Int) by omega),cmR] at hr';cases hc:sgn (nI es' i-nI bs i) != 0 with
    | true =>
     rw[hc] at hr';simp only[Am] at hr';rw[show (sgn (nI es' i-nI bs i)==0)=false by rw[bne] at hc;simpa using hc] at hr';exact .inl (by rw[hr'];rfl)
    | false =>
     rw[hc] at hr';refine .inr ⟨lCp f es g bs f' es' (es'.length:Int) (i+1),by rw[Dc (by omega) (by omega)];rfl,by simp only[pCp,Aa,Ab];exact⟨⟨trivial,by omega⟩,h3⟩,by simp only[mCp];omega,?_⟩;rw[hr'];simp only[fCp,At];cases (cmR ((Dh es').drop (i+1).toNat) ((Dh bs).drop (i+1).toNat)==0) <;> rfl
  ·rw[Aj hi];rw[AG (show (Dh es').length<=i.toNat by rw[E6];omega)] at hr';exact .inl (by rw[hr'];rfl)
 ·cases hp
noncomputable def R37:CO:=R36.C8 81 2 [0,1,9,10,11] [] shCp pCp fCp
theorem okR37:Ck Try.prog R37.env:=
 okR36.C8 (n:=60) Try.func81 (show Try.f81.body=some (DL Try.f81) by kernel_rfl) (show (loops (DL Try.f81)).filter (fun b=>Ed b==2)=[CZ Try.f81 2] by kernel_rfl) [0,1,9,10,11] [0,1,4] [] shCp mCp sCp
theorem qCpr (f:Bool) (es:List PV) (g:Bool) (bs:List PV):Dw Try.prog R37 60 81 [.CQ f 3 es,.CQ g 3 bs] =
 bif pCp (lCp f es g bs f es es.length 0) then bif cmR ((Dh es).drop (0:Int).toNat) ((Dh bs).drop (0:Int).toNat)==0 then bif decide ((es.length:Int)<(bs.length:Int)) then some (iv (-1)) else some (iv 0)
  else some (iv (cmR ((Dh es).drop (0:Int).toNat) ((Dh bs).drop (0:Int).toNat))) else none:=by kernel_rfl
theorem sgn_ne {n:Int}:(sgn n != 0)=decide (n ≠ 0):=by
 by_cases h:n=0
 ·subst h;decide
 ·rw[Ac h];unfold sgn;split
  ·decide
  ·rw[Ai (by omega)];decide
theorem cmR_lex:∀ {l m:List Int},(bif cmR l m==0 then (bif decide ((l.length:Int)<(m.length:Int)) then (-1:Int) else 0) else cmR l m)=EX l m
 | [],[]=>by simp[cmR,EX]
 | [],b::m=>by
  have:decide ((([]:List Int).length:Int)<((b::m).length:Int))=true:=by rw[BZ];simp only[AC,Ay];omega
  rw[cmR,this];rfl
 | a::l,[]=>by simp[cmR,EX]
 | a::l,b::m=>by
  rw[cmR,EX,sgn_ne];by_cases h1:a<b
  ·rw[Ai h1,Ac (show a-b ≠ 0 by omega),Am,show sgn (a-b) = -1 by unfold sgn;rw[Ai (by omega)]];rfl
  ·rw[An h1];by_cases h2:b<a
   ·rw[Ai h2,Ac (show a-b ≠ 0 by omega),Am,show sgn (a-b)=1 by unfold sgn;rw[An (by omega),Ai (by omega)]];rfl
   ·rw[An h2,Aj (show ¬ a-b ≠ 0 by omega),At,<- cmR_lex (l:=l) (m:=m)];have:decide (((a::l).length:Int)<((b::m).length:Int))=decide ((l.length:Int)<(m.length:Int)):=by
     simp only[Ay];rw[Cz];omega
    rw[this]
theorem qCprN (f:Bool) (es:List PV) (g:Bool) (bs:List PV) (h:es.length<=1000000):Dw Try.prog R37 60 81 [.CQ f 3 es,.CQ g 3 bs]=some (iv (EX (Dh es) (Dh bs))):=by
 have e1:((Dh es).length:Int)=(es.length:Int):=by rw[E6]
 have e2:((Dh bs).length:Int)=(bs.length:Int):=by rw[E6]
 have:=cmR_lex (l:=Dh es) (m:=Dh bs);rw[e1,e2] at this;rw[qCpr,show pCp (lCp f es g bs f es es.length 0)=true by simp only[pCp,Aa,Ab];exact⟨⟨trivial,by omega⟩,h⟩,Am,<- this,show (0:Int).toNat=0 from rfl,AM,AM];cases cmR (Dh es) (Dh bs)==0 with
 | true=>cases decide ((es.length:Int)<(bs.length:Int)) <;> rfl
 | false=>rfl
def cCpr:List PV->Option (DT PV)
 | [.CQ _ 3 es,.CQ _ 3 bs]=>some (.br (decide (es.length<=1000000)) (.leaf (iv (EX (Dh es) (Dh bs)))) .no)
 | _=>none
theorem eCpr:Hx.CV Try.prog 81:=(CK okR37 (n:=60) (qCprN false [] false [] (by simp))).1
theorem oCpr (args:List PV) (d:DT PV) (r:PV) (h:cCpr args=some d) (hr:d.run=some r):Da Try.prog 81 args r:=by
 unfold cCpr at h;split at h
 ·rename_i f es g bs;cases h;obtain⟨h1,rfl⟩:=DI hr;exact (CK okR37 (n:=60) (qCprN f es g bs (AS h1))).2
 ·cases h
noncomputable def R38:CO:=R37.DF 81 cCpr
theorem okR38:Ck Try.prog R38.env:=okR37.DF eCpr oCpr
theorem qOr3 (f:Bool) (a b c:Int):Dw Try.prog R38 60 47 [.CQ f 3 [iv a,iv b,iv c]]=bif a != 0 then some (iv a) else bif b != 0 then some (iv b) else bif c != 0 then some (iv c) else some (iv 0):=by kernel_rfl
def or3 (a b c:Int):Int:=bif a != 0 then a else bif b != 0 then b else bif c != 0 then c else 0
def cOr3:List PV->Option PV
 | [.CQ _ 3 [.val (.int .i64 a),.val (.int .i64 b),.val (.int .i64 c)]]=>some (iv (or3 a b c))
 | _=>none
theorem oOr3 (args:List PV) (r:PV) (h:cOr3 args=some r):Hx.CV Try.prog 47/\Da Try.prog 47 args r:=by
 unfold cOr3 at h;split at h
 ·rename_i f a b c;cases h;refine CK okR38 (n:=60) ((qOr3 f a b c).trans ?_);unfold or3;cases a != 0 <;> cases b != 0 <;> cases c != 0 <;> rfl
 ·cases h
noncomputable def R39:CO:=R38.EC 47 cOr3
theorem okR39:Ck Try.prog R39.env:=okR38.EC oOr3
abbrev GW (x y l:Int) (f:Bool) (ps:List PV) (c:Int):PV:=.agg [iv x,iv y,iv l,.CQ f 3 ps,iv c]
def kcmp (c:Int) (ps:List PV) (d:Int) (qs:List PV):Int:=or3 (sgn (c-d)) (sgn ((ps.length:Int)-(qs.length:Int))) (EX (Dh ps) (Dh qs))
theorem qKcmp (x y l:Int) (f:Bool) (ps:List PV) (c a b m:Int) (g:Bool) (qs:List PV) (d:Int):Dw Try.prog R39 60 59 [GW x y l f ps c,GW a b m g qs d] =
 bif decide (ps.length<=1000000) then some (iv (kcmp c ps d qs)) else none:=by kernel_rfl
def cKc:List PV->Option (DT PV)
 | [.agg [.val (.int .i64 _),.val (.int .i64 _),.val (.int .i64 _),.CQ _ 3 ps,.val (.int .i64 c)],.agg [.val (.int .i64 _),.val (.int .i64 _),.val (.int .i64 _),.CQ _ 3 qs,.val (.int .i64 d)]] =>
  some (.br (decide (ps.length<=1000000)) (.leaf (iv (kcmp c ps d qs))) .no)
 | _=>none
theorem qKcmpN (x y l:Int) (f:Bool) (ps:List PV) (c a b m:Int) (g:Bool) (qs:List PV) (d:Int) (h:ps.length<=1000000):Dw Try.prog R39 60 59 [GW x y l f ps c,GW a b m g qs d]=some (iv (kcmp c ps d qs)):=by
 rw[qKcmp,Ac h];rfl
theorem eKc:Hx.CV Try.prog 59:=(CK okR39 (n:=60) (qKcmpN 0 0 0 false [] 0 0 0 0 false [] 0 (by simp))).1
theorem oKc (args:List PV) (d:DT PV) (r:PV) (h:cKc args=some d) (hr:d.run=some r):Da Try.prog 59 args r:=by
 unfold cKc at h;split at h
 ·rename_i x y l f ps c a b m g qs d;cases h;obtain⟨h1,rfl⟩:=DI hr;exact (CK okR39 (n:=60) (qKcmpN x y l f ps c a b m g qs d (AS h1))).2
 ·cases h
noncomputable def R40:CO:=R39.DF 59 cKc
theorem okR40:Ck Try.prog R40.env:=okR39.DF eKc oKc
theorem kcmp_neg {c d:Int} {ps qs:List PV}:kcmp c ps d qs<0 ↔ kLt (c,Dh ps) (d,Dh qs):=by
 unfold kcmp or3 kLt;simp only[E6];rw[sgn_ne,sgn_ne];by_cases h1:c=d
 ·subst h1;rw[Aj (by omega),At];by_cases h2:ps.length=qs.length
  ·rw[Aj (by omega),At];cases h3:EX (Dh ps) (Dh qs) != 0 with
   | true=>rw[Am];omega
   | false =>
    rw[bne_eq_false_iff_eq] at h3;rw[At,h3];omega
  ·rw[Ac (by omega),Am,KX];omega
 ·rw[Ac (by omega),Am,KX];omega
abbrev rrv (x y l:Int) (f:Bool) (ps:List PV) (c:Int) (s:Bool):PV:=.agg [iv x,iv y,iv l,.CQ f 3 ps,iv c,bv s]
def pBt:LS->Bool
 | ([.l _ ps,.i i],[.i _,.i _,.i _,.l _ qs,.i _,.b _])=>decide (0<=i)&&decide (ps.length=qs.length)&&decide (ps.length<=1000000)
 | _=>false
def betB (c:Int) (ps:List PV) (d:Int) (qs:List PV) (s:Bool):Bool:=bet (c,Dh ps) (bif s then some (d,Dh qs) else none)
def cBet:List PV->Option (DT PV)
 | [.val (.int .i64 c),.CQ _ 3 ps,.agg [.val (.int .i64 _),.val (.int .i64 _),.val (.int .i64 _),.CQ _ 3 qs,.val (.int .i64 d),.val (.bool s)]]=>some (.br (decide (ps.length<=1000000)) (.leaf (bv (betB c ps d qs s))) .no)
 | _=>none
def cCst:List PV->Option (DT PV)
 | [.agg [.val (.int .i64 _),.CQ _ 28 L,.val (.int .i64 _),.val (.string _),.val (.string _),.val (.bool _),.val (.int .i64 _),.val (.int .i64 _)]]=>some (.br (decide (L.length<=100000)) (.leaf (iv (Df L))) .no)
 | _=>none
theorem qCst (i:Int) (f:Bool) (L:List PV) (lv:Int) (cs nm:ByteArray) (st:Bool) (wt ds:Int):Dw Try.prog R40 60 18 [wayv i f L lv cs nm st wt ds]=bif decide (L.length<=100000) then some (iv (Df L)) else none:=by kernel_rfl
theorem eCst:Hx.CV Try.prog 18:=(CK okR40 (n:=60) ((qCst 0 false [] 0 .empty .empty false 0 0).trans (by rw[Ac (by simp)];rfl))).1
theorem oCst (args:List PV) (d:DT PV) (r:PV) (h:cCst args=some d) (hr:d.run=some r):Da Try.prog 18 args r:=by
 unfold cCst at h;split at h
 ·rename_i i f L lv cs nm st wt ds;cases h;obtain⟨h1,rfl⟩:=DI hr;exact (CK okR40 (n:=60) ((qCst i f L lv cs nm st wt ds).trans (by rw[h1];rfl))).2
 ·cases h
noncomputable def R42:CO:=R40.DF 18 cCst
theorem okR42:Ck Try.prog R42.env:=okR40.DF eCst oCst
abbrev iniE (x y z:Int) (e:PV):PV:=rrv (gX e) (gY e) (gL e) true [] 0 (eqS e x y z)
abbrev aW:X1:=.agg [C4,.CQ 28,C4,.str,.str,.bool,C4,C4]
abbrev rP (e:PV):List PV:=(e.cellAt 3).getL
abbrev rC (e:PV):Int:=(e.cellAt 4).Dn
abbrev aE (es:List PV) (a:Int):PV:=es.getD a.toNat .any
theorem aE_set {es:List PV} {b:Int} {e:PV} (h0:0<=b) (h:b<(es.length:Int)):aE (es.set b.toNat e) b=e:=by
 show (es.set b.toNat e).getD b.toNat .any=e
 rw[AA,Co (by omega)];rfl
theorem rE_a {es:List PV} {a:Int}:rE es a=aE es a:=rE_getD es a
theorem aE_mem {es:List PV} {a:Int} (h0:0<=a) (h:a<(es.length:Int)):aE es a ∈ es:=by
 show es.getD a.toNat .any ∈ es
 rw[AA,Ae (by omega)];exact Bl _
theorem GX {wl:List PV} (h:wl.length<=1000):0<=Df wl/\Df wl<=3037000499000:=by
 have hL:=lsum_fit wl (I0 wl 0) 0;have:I0 wl 0<=1000:=by unfold I0;omega
 show 0<=lsum wl 0 (I0 wl 0)/\lsum wl 0 (I0 wl 0)<=_;omega
abbrev cS (e:PV) (j:Nat):ByteArray:=(e.cellAt j).It
abbrev cI (e:PV) (j:Nat):Int:=(e.cellAt j).Dn
theorem ids_iv:∀ p:List Int,Dh (p.map iv)=p
 | []=>rfl
 | x::p=>by show x::Dh (p.map iv)=_;rw[ids_iv p]
def eE (e:PV):List Eg:=[(EN (eF e),EN (eL e),wI e,Df (wL e)),(EN (eL e),EN (eF e),wI e,Df (wL e))]
def gE (fl:Bool) (ws:List PV):List Eg:=ws.flatMap fun e=>bif CT fl e then [] else eE e
end Go.Hr
namespace Go.Hr
abbrev Rc:=T3 × Ky
def DC:Rc->List Rc->Rc
 | b,[]=>b
 | b,x::N=>DC (bif decide (kLt x.2 b.2) then x else b) N
theorem GF:∀ {N:List Rc} {b:Rc},DC b N ∈ b::N/\∀ x ∈ b::N,kLe (DC b N).2 x.2
 | [],b=>⟨by simp[DC],fun x hx=>by rw[AF.1 hx];exact Nf⟩
 | y::N,b=>by
  rw[DC];by_cases h:kLt y.2 b.2
  ·rw[Ac h,Am];obtain⟨h1,h2⟩:=GF (N:=N) (b:=y);refine⟨AU _ h1,fun x hx => ?_⟩;rcases AK.1 hx with rfl | hx
   ·exact I2 (h2 y (AJ ..)) (kLt_le h)
   ·exact h2 x hx
  ·rw[Aj h,At];obtain⟨h1,h2⟩:=GF (N:=N) (b:=b);refine⟨?_,fun x hx => ?_⟩
   ·rcases AK.1 h1 with h1 | h1
    ·rw[h1];exact AJ ..
    ·exact AU _ (AU _ h1)
   ·rcases AK.1 hx with rfl | hx
    ·exact h2 _ (AJ ..)
    ·rcases AK.1 hx with rfl | hx
     ·exact I2 (h2 b (AJ ..)) h
     ·exact h2 x (AU _ hx)
abbrev F3 (r:T3) (N:List Rc):List Rc:=N.filter fun x => !decide (x.1=r)
def IA (G:List Eg):Nat->List Rc->List Rc->List Rc
 | 0,D,_=>D
 | _+1,D,[]=>D
 | k+1,D,n::N=>bif decide ((DC n N).1 ∈ D.map (·.1)) then IA G k D (F3 (DC n N).1 (n::N)) else IA G k (D++[DC n N]) (F3 (DC n N).1 (n::N)++Hb G (D++[DC n N]) (DC n N))
structure JA (G:List Eg) (s:T3) (S:List T3) (K:Int) (D N:List Rc):Prop extends Dij G s D N where
 kD:∀ x ∈ D,x.1 ∈ S
 kN:∀ x ∈ N,x.1 ∈ S
 bD:∀ x ∈ D,x.2.2.length+1<=D.length/\x.2.1<=K*D.length
 bN:∀ x ∈ N,x.2.2.length<=D.length/\x.2.1<=K*D.length
structure GOk (G:List Eg) (S:List T3) (K:Int):Prop where
 k0:0<=K
 nn:∀ e ∈ G,0<=e.2.2.2/\e.2.2.2<=K
 to:∀ e ∈ G,e.2.1 ∈ S
theorem GOk.Kz {G:List Eg} {S:List T3} {K:Int} (h:GOk G S K):NonNeg G:=fun e he=>(h.nn e he).1
def mu (G:List Eg) (S:List T3) (D N:List Rc):Nat:=(S.length-D.length)*(G.length+1)+N.length
theorem next_len {G:List Eg} {D:List Rc} {r:Rc}:(Hb G D r).length<=G.length:=List.length_filterMap_le ..
theorem next_of {G:List Eg} {D:List Rc} {r x:Rc} (h:x ∈ Hb G D r):∃ e ∈ G,e.1=r.1/\x=(e.2.1,kAdd r.2 e.2.2.1 e.2.2.2):=by
 obtain⟨e,he,hx⟩:=B2.1 h;split at hx
 ·rename_i hc;cases hx;exact⟨e,he,hc.1,rfl⟩
 ·cases hx
theorem away_len {r:Rc} {N:List Rc} (h:r ∈ N):(F3 r.1 N).length<N.length:=by
 refine Nat.lt_of_le_of_ne (List.length_filter_le ..) fun e => ?_
 have:=List.length_filter_eq_length_iff.1 e r h;simp at this
theorem JA.cap {G:List Eg} {s:T3} {S:List T3} {K:Int} {D N:List Rc} (h:JA G s S K D N):D.length<=S.length:=by
 have:=List.Nodup.length_le_of_subset h.nd (l₂:=S) fun x hx=>by
  obtain⟨y,hy,rfl⟩:=AW.1 hx;exact h.kD y hy
 simpa using this
theorem JA.known {G:List Eg} {s:T3} {S:List T3} {K:Int} {D N:List Rc} (h:JA G s S K D N) {r:Rc} (hr:r ∈ N) (hk:r.1 ∈ D.map (·.1)):
  JA G s S K D (F3 r.1 N)/\mu G S D (F3 r.1 N)<mu G S D N:=
 ⟨{ h.toDij.known hk with kD:=h.kD,kN:=fun x hx=>h.kN x (Bf.1 hx).1,bD:=h.bD,bN:=fun x hx=>h.bN x (Bf.1 hx).1 },Nat.add_lt_add_left (away_len hr) _⟩
theorem JA.take {G:List Eg} {s:T3} {S:List T3} {K:Int} {D N:List Rc} (hG:GOk G S K) (h:JA G s S K D N) {r:Rc} (hr:r ∈ N) (hl:∀ x ∈ N,kLe r.2 x.2) (hk:r.1 ∉ D.map (·.1)):
  JA G s S K (D++[r]) (F3 r.1 N++Hb G (D++[r]) r)/\mu G S (D++[r]) (F3 r.1 N++Hb G (D++[r]) r)<mu G S D N:=by
 have hb:=h.bN r hr;have hlen:(D++[r]).length=D.length+1:=by simp
 have hnew:JA G s S K (D++[r]) (F3 r.1 N++Hb G (D++[r]) r):=
  { h.toDij.take hG.Kz hr hl hk with
   kD:=fun x hx=>by
    rcases A5.1 hx with hx | hx
    ·exact h.kD x hx
    ·rw[AF.1 hx];exact h.kN r hr
   kN:=fun x hx=>by
    rcases A5.1 hx with hx | hx
    ·exact h.kN x (Bf.1 hx).1
    ·obtain⟨e,he,-,rfl⟩:=next_of hx;exact hG.to e he
   bD:=fun x hx=>by
    have hK:K*(D++[r]).length=K*D.length+K:=by rw[hlen,Int.natCast_add,Int.mul_add];omega
    have:=hG.k0;rcases A5.1 hx with hx | hx
    ·have:=h.bD x hx;omega
    ·rw[AF.1 hx];omega
   bN:=fun x hx=>by
    have hK:K*(D++[r]).length=K*D.length+K:=by rw[hlen,Int.natCast_add,Int.mul_add];omega
    have:=hG.k0;rcases A5.1 hx with hx | hx
    ·have:=h.bN x (Bf.1 hx).1;omega
    ·obtain⟨e,he,-,rfl⟩:=next_of hx;have:=hG.nn e he;simp only[Ar,Ay,AC] at hK ⊢;omega }
 refine⟨hnew,?_⟩;have hc:=hnew.cap;rw[hlen] at hc;have h1:=away_len hr;have h2:=next_len (G:=G) (D:=D++[r]) (r:=r);unfold mu;rw[hlen,Ar];have e1:S.length-D.length=(S.length-(D.length+1))+1:=by omega
 rw[e1,A9];omega
theorem dijN_end {G:List Eg} {s:T3} {S:List T3} {K:Int} (hG:GOk G S K):∀ {k:Nat} {D N:List Rc},JA G s S K D N->mu G S D N<k->JA G s S K (IA G k D N) []
 | 0,_,_,_,hk=>by omega
 | k+1,D,[],h,_=>h
 | k+1,D,n::N,h,hk=>by
  obtain⟨h1,h2⟩:=GF (N:=N) (b:=n);rw[IA];by_cases hm:(DC n N).1 ∈ D.map (·.1)
  ·rw[Ac hm,Am];obtain⟨g1,g2⟩:=h.known h1 hm;exact dijN_end hG g1 (by omega)
  ·rw[Aj hm,At];obtain⟨g1,g2⟩:=h.take hG h1 h2 hm;exact dijN_end hG g1 (by omega)
theorem I4 {G:List Eg} {s:T3} {S:List T3} {K:Int} (hG:GOk G S K):∀ {k j:Nat} {D N:List Rc},JA G s S K D N->mu G S D N<k->mu G S D N<j->IA G k D N=IA G j D N
 | 0,_,_,_,_,hk,_=>by omega
 | _+1,0,_,_,_,_,hj=>by omega
 | k+1,j+1,D,[],_,_,_=>rfl
 | k+1,j+1,D,n::N,h,hk,hj=>by
  obtain⟨h1,h2⟩:=GF (N:=N) (b:=n);rw[IA,IA];by_cases hm:(DC n N).1 ∈ D.map (·.1)
  ·rw[Ac hm,Am,Am];obtain⟨g1,g2⟩:=h.known h1 hm;exact I4 hG g1 (by omega) (by omega)
  ·rw[Aj hm,At,At];obtain⟨g1,g2⟩:=h.take hG h1 h2 hm;exact I4 hG g1 (by omega) (by omega)
theorem JA.init {G:List Eg} {s:T3} {S:List T3} {K:Int} (hs:s ∈ S):JA G s S K [] [(s,(0,[]))]:=
 { Dij.init with
  kD:=fun x hx=>by cases hx
  kN:=fun x hx=>by rw[AF.1 hx];exact hs
  bD:=fun x hx=>by cases hx
  bN:=fun x hx=>by rw[AF.1 hx];simp }
def dijA (G:List Eg) (S:List T3) (s:T3):List Rc:=IA G (mu G S [] [(s,(0,[]))]+1) [] [(s,(0,[]))]
theorem KZ {G:List Eg} {s:T3} {S:List T3} {K:Int} (hG:GOk G S K) (hs:s ∈ S):JA G s S K (dijA G S s) []:=dijN_end hG (JA.init hs) (by omega)
theorem dijA_min {G:List Eg} {s v:T3} {S:List T3} {K:Int} {k:Ky} (hG:GOk G S K) (hs:s ∈ S):(v,k) ∈ dijA G S s ↔ LC G s v k:=by
 have h:=KZ hG hs;constructor
 ·exact fun hx=>h.wD _ hx
 ·intro hm;obtain⟨x,hx,rfl⟩:=AW.1 (h.done hG.Kz hm.1);rw[<- (h.wD x hx).uniq hm];exact hx
end Go.Hr
namespace Go.Hr
open Go.Hx Go.Hg Go.Hn Go.Proofs
noncomputable def dB (p:Prop):Bool:=@decide p (Classical.propDecidable p)
theorem D3 {p:Prop}:dB p=true ↔ p:=by unfold dB;exact @BZ _ (Classical.propDecidable _)

abbrev es0 (x y z:Int) (l:List PV):List PV:=[]++(l.drop (0:Int).toNat).map (iniE x y z)
structure KB (ws:List PV):Prop where
 few:ws.length<=100
 wl:∀ e ∈ ws,(wL e).length<=1000
theorem KB.Kv {ws:List PV} (h:KB ws):Kv ws=true:=by
 unfold Hr.Kv;rw[Ap];intro e he;have:=h.wl e he;exact Ac (by omega)
def f0 (l:List PV) (s:T3):OF:=fun v=>if v ∈ l.map EN/\v=s then some (0,[]) else none
theorem wok0:KB []:=⟨by simp,fun e h=>by cases h⟩
abbrev aC:X1:=.agg [C4,C4,C4,.CQ 3,C4]
abbrev fnC:X1:=.fn 59 [] []
def shN:S1:=⟨31,[(0,.sl 0),(1,fnC),(4,.ptr 1 1 0 0),(6,.ptr 2 1 0 0),(9,.sl 0),(10,C4),(11,C4)],[.many 78 5,.one 78 5 aC,.one 78 5 aC]⟩
abbrev lN (n k n2 k2:Nat) (len i:Int) (nl:Bool) (es:List PV) (a0 a1 a2:Int) (fa:Bool) (pa:List PV) (ac b0 b1 b2:Int) (fb:Bool) (pb:List PV) (bc:Int):LS:=
 ([.n n,.n k,.n n2,.n k2,.i len,.i i],[.l nl es,.i a0,.i a1,.i a2,.l fa pa,.i ac,.i b0,.i b1,.i b2,.l fb pb,.i bc])
abbrev G6 (e:PV):PV:=GW (gX e) (gY e) (gL e) false (rP e) (rC e)
def ltE (e b:PV):Bool:=decide (kcmp (rC e) (rP e) (rC b) (rP b)<0)
def lsE:Bool->PV->List PV->PV
 | _,b,[]=>b
 | first,b,e::es=>lsE false (bif first then G6 e else bif ltE e b then G6 e else b) es
noncomputable abbrev xN (n k:Nat) (nl:Bool) (es:List PV) (a0 a1 a2:Int) (fa:Bool) (pa:List PV) (ac:Int) (b:PV):PX × List PV × List Row:=
 (.exit 0,tm 31 [(0,.sl 0 n 0 k),(4,.ptr 1 1 0 0),(6,.ptr 2 1 0 0)],[rN 78 5 nl es,r1 78 5 (GW a0 a1 a2 fa pa ac),r1 78 5 b])
theorem qN (n k n2 k2:Nat) (len i:Int) (nl:Bool) (es:List PV) (a0 a1 a2:Int) (fa:Bool) (pa:List PV) (ac b0 b1 b2:Int) (fb:Bool) (pb:List PV) (bc:Int):
 CR Try.prog R42 60 58 (CZ Try.f58 3) [0,1,4,6,9,10,11] [0,4,6] (shN.put (lN n k n2 k2 len i nl es a0 a1 a2 fa pa ac b0 b1 b2 fb pb bc)).1 (shN.put (lN n k n2 k2 len i nl es a0 a1 a2 fa pa ac b0 b1 b2 fb pb bc)).2 =
 bif decide (i<len) then ixR es n2 k2 i (J0 es n2 (bif i==0 then some (.normal,shN.put (lN n k n2 k2 len (W (i+1)) nl es a0 a1 a2 fa pa ac (gX (rE es i)) (gY (rE es i)) (gL (rE es i)) false (rP (rE es i)) (rC (rE es i)))) else
  bif decide ((rP (rE es i)).length<=1000000) then bif decide (kcmp (rC (rE es i)) (rP (rE es i)) bc pb<0) then some (.normal,shN.put (lN n k n2 k2 len (W (i+1)) nl es a0 a1 a2 fa pa ac (gX (rE es i)) (gY (rE es i)) (gL (rE es i)) false (rP (rE es i)) (rC (rE es i))))
   else some (.normal,shN.put (lN n k n2 k2 len (W (i+1)) nl es a0 a1 a2 fa pa ac b0 b1 b2 fb pb bc)) else none)) else some (xN n k nl es a0 a1 a2 fa pa ac (GW b0 b1 b2 fb pb bc)):=by kernel_rfl
def JB (e:PV):Bool:=decide ((rP e).length<=1000000)
def pN:LS->Bool
 | ([.n n,.n k,.n n2,.n k2,.i len,.i i],[.l _ es,.i _,.i _,.i _,.l _ _,.i _,.i _,.i _,.i _,.l _ _,.i _]) =>
  decide (n=es.length)&&decide (n2=es.length)&&decide (k2=k)&&decide (k<=es.length)&&decide (len=(k:Int))&&decide (0<=i)&&decide (i<=len)&&decide (k<=1000000)&&(es.take k).all JB
 | _=>false
noncomputable def fN:LS->DT (PX × List PV × List Row)
 | ([.n n,.n k,.n _,.n _,.i _,.i i],[.l nl es,.i a0,.i a1,.i a2,.l fa pa,.i ac,.i b0,.i b1,.i b2,.l fb pb,.i bc])=>.leaf (xN n k nl es a0 a1 a2 fa pa ac (lsE (i==0) (GW b0 b1 b2 fb pb bc) ((es.take k).drop i.toNat)))
 | _=>.no
def mN:LS->Nat
 | ([.n _,.n _,.n _,.n _,.i len,.i i],_)=>(len-i).toNat
 | _=>0
theorem take_getD {es:List PV} {k:Nat} {i:Int} (h0:0<=i) (h:i<(k:Int)) (_:k<=es.length):(es.take k).getD i.toNat .any=es.getD i.toNat .any:=by
 rw[AA,AA,Av,Ai (by omega)]
theorem sN:∀ s r,pN s=true->(fN s).run=some r->r.1 ≠ .normal/\(CR Try.prog R42 60 58 (CZ Try.f58 3) [0,1,4,6,9,10,11] [0,4,6] (shN.put s).1 (shN.put s).2=some r \/
   ∃ s',CR Try.prog R42 60 58 (CZ Try.f58 3) [0,1,4,6,9,10,11] [0,4,6] (shN.put s).1 (shN.put s).2=some (.normal,shN.put s')/\pN s'=true/\mN s'<mN s/\(fN s').run=some r):=by
 intro t r hp hr;unfold pN at hp;split at hp
 ·rename_i n k n2 k2 len i nl es a0 a1 a2 fa pa ac b0 b1 b2 fb pb bc;simp only[Aa,Ab] at hp;obtain⟨⟨⟨⟨⟨⟨⟨⟨rfl,rfl⟩,rfl⟩,h4⟩,rfl⟩,h6⟩,h7⟩,h8⟩,h9⟩:=hp;have hr':=(Ah hr).symm;refine⟨by rw[hr'];simp,?_⟩;rw[show shN.put ([.n es.length,.n k2,.n es.length,.n k2,.i (k2:Int),.i i],[.l nl es,.i a0,.i a1,.i a2,.l fa pa,.i ac,.i b0,.i b1,.i b2,.l fb pb,.i bc])=shN.put (lN es.length k2 es.length k2 k2 i nl es a0 a1 a2 fa pa ac b0 b1 b2 fb pb bc) from rfl,qN];have htl:(es.take k2).length=k2:=by rw[Az];omega
  by_cases hi:i<(k2:Int)
  ·have hsh:(rP (rE es i)).length<=1000000:=by
    have hm:(es.take k2).getD i.toNat .any ∈ es.take k2:=aE_mem h6 (by rw[htl];exact hi);have:=Ap.1 h9 _ hm;rw[take_getD h6 hi h4] at this;rw[rE_getD];exact AS this
   rw[Ac hi,Am,G5 rfl h6 hi,DQ rfl,Ac hsh,Dc (by omega) (by omega)];have hi1:(i+1==0)=false:=by rw[AQ];omega
   have hd:(es.take k2).drop i.toNat=rE es i::(es.take k2).drop (i+1).toNat:=by
    have:=Db (es:=es.take k2) h6 (by rw[htl];exact hi);rw[take_getD h6 hi h4] at this;rw[this,rE_getD]
   rw[hd] at hr';have go:∀ e0 e1 e2 ef ep ec,GW e0 e1 e2 ef ep ec=(bif i==0 then G6 (rE es i) else bif ltE (rE es i) (GW b0 b1 b2 fb pb bc) then G6 (rE es i) else GW b0 b1 b2 fb pb bc) ->
     ∃ s',(some (PX.normal,shN.put (lN es.length k2 es.length k2 k2 (i+1) nl es a0 a1 a2 fa pa ac e0 e1 e2 ef ep ec)):Option (PX × List PV × List Row))=some (.normal,shN.put s')/\pN s'=true/\mN s'<mN (lN es.length k2 es.length k2 k2 i nl es a0 a1 a2 fa pa ac b0 b1 b2 fb pb bc)/\(fN s').run=some r:=fun e0 e1 e2 ef ep ec hc=>by
    refine⟨lN es.length k2 es.length k2 k2 (i+1) nl es a0 a1 a2 fa pa ac e0 e1 e2 ef ep ec,rfl,by simp only[pN,Aa,Ab];exact⟨⟨⟨⟨⟨⟨⟨⟨trivial,trivial⟩,trivial⟩,h4⟩,trivial⟩,by omega⟩,by omega⟩,h8⟩,h9⟩,by simp only[mN];omega,?_⟩;rw[hr'];simp only[lsE,fN,hi1];rw[<- hc];rfl
   right
   cases c1:i==0 with
   | true=>rw[Am];exact go _ _ _ _ _ _ (by rw[c1];rfl)
   | false =>
    rw[At,Am];cases c2:decide (kcmp (rC (rE es i)) (rP (rE es i)) bc pb<0) with
    | true=>rw[Am];exact go _ _ _ _ _ _ (by rw[c1,show ltE (rE es i) (GW b0 b1 b2 fb pb bc)=true from c2];rfl)
    | false=>rw[At];exact go _ _ _ _ _ _ (by rw[c1,show ltE (rE es i) (GW b0 b1 b2 fb pb bc)=false from c2];rfl)
  ·rw[Aj hi];rw[AG (by rw[htl];omega)] at hr';exact .inl (by rw[hr'];rfl)
 ·cases hp
noncomputable def R49:CO:=R42.LD Try.prog [false,true,true] 58 3 [0,1,4,6,9,10,11] [false,true,true] shN pN fN
theorem okR49:Ck Try.prog R49.env:=
 okR42.LD (n:=60) Try.func58 (show Try.f58.body=some (DL Try.f58) by kernel_rfl) (show (loops (DL Try.f58)).filter (fun b=>Ed b==3)=[CZ Try.f58 3] by kernel_rfl) [false,true,true] [0,1,4,6,9,10,11] [0,4,6] [false,true,true] shN mN sN
theorem qLs (n k:Nat) (nl:Bool) (es:List PV):JV Try.prog R49 60 58 [.sl 0 n 0 k,.fn (.func 59) [] []] [rN 78 5 nl es] =
 bif pN (lN n k n k k 0 nl es 0 0 0 false [] 0 0 0 0 false [] 0) then some (.D8 [G6 (lsE true (GW 0 0 0 false [] 0) ((es.take k).drop (0:Int).toNat)),bv (decide ((k:Int) > 0))],[rN 78 5 nl es]) else none:=by kernel_rfl
def cLs:List PV->List Row->Option (DT (PV × List Row))
 | [.sl 0 n 0 k,.fn (.func 59) [] []],[⟨es,5,78,true,true,nl,none,false⟩] =>
  some (.br (decide (n=es.length)&&decide (k<=es.length)&&decide (k<=1000000)&&(es.take k).all JB) (.leaf (.D8 [G6 (lsE true (GW 0 0 0 false [] 0) (es.take k)),bv (decide ((k:Int) > 0))],[rN 78 5 nl es])) .no)
 | _,_=>none
theorem qLsN {n k:Nat} {nl:Bool} {es:List PV} (h:(decide (n=es.length)&&decide (k<=es.length)&&decide (k<=1000000)&&(es.take k).all JB)=true):
  JV Try.prog R49 60 58 [.sl 0 n 0 k,.fn (.func 59) [] []] [rN 78 5 nl es]=some (.D8 [G6 (lsE true (GW 0 0 0 false [] 0) (es.take k)),bv (decide ((k:Int) > 0))],[rN 78 5 nl es]):=by
 simp only[Aa,Ab] at h;obtain⟨⟨⟨rfl,h2⟩,h3⟩,h4⟩:=h;rw[qLs,show pN (lN es.length k es.length k k 0 nl es 0 0 0 false [] 0 0 0 0 false [] 0)=true by simp only[pN,Aa,Ab];exact⟨⟨⟨⟨⟨⟨⟨⟨trivial,trivial⟩,trivial⟩,h2⟩,trivial⟩,by omega⟩,by omega⟩,h3⟩,h4⟩];rw[show (0:Int).toNat=0 from rfl,AM];rfl
theorem eLs:Hx.CV Try.prog 58:=(Dm okR49 (qLsN (n:=0) (k:=0) (nl:=false) (es:=[]) rfl)).1
theorem oLs (args:List PV) (H:List Row) (d:DT (PV × List Row)) (q:PV) (H':List Row) (h:cLs args H=some d) (hd:d.run=some (q,H')):ET Try.prog 0 58 args H q H':=by
 unfold cLs at h;split at h
 ·cases h;obtain⟨hc,he⟩:=FK hd;cases he;exact (Dm okR49 (qLsN hc)).2
 ·cases h
noncomputable def R50:CO:=R49.ER 58 cLs
theorem okR50:Ck Try.prog R50.env:=okR49.ER eLs oLs
abbrev fnD (j:Nat):X1:=.fn 61 [] [.ptr j 1 0 0]
def shX2:S1:=⟨19,[(0,.sl 0),(1,fnD 1),(7,C4),(8,C4)],[.many 78 5,.Gl 78 5 aC]⟩
abbrev lX2 (n l:Nat) (len i:Int) (nl:Bool) (es:List PV) (x y z:Int) (rf:Bool) (rp:List PV) (rc:Int):LS:=([.n n,.n l,.i len,.i i],[.l nl es,.i x,.i y,.i z,.l rf rp,.i rc])
noncomputable abbrev hX2 (nl:Bool) (es:List PV) (x y z:Int) (rf:Bool) (rp:List PV) (rc:Int):List Row:=(shX2.put (lX2 0 0 0 0 nl es x y z rf rp rc)).2
noncomputable abbrev yX0 (nl:Bool) (es:List PV) (x y z:Int) (rf:Bool) (rp:List PV) (rc:Int):PX × List PV × List Row:=(.exit 0,tm 19 [],hX2 nl es x y z rf rp rc)
noncomputable abbrev yX1 (i:Int) (nl:Bool) (es:List PV) (x y z:Int) (rf:Bool) (rp:List PV) (rc:Int):PX × List PV × List Row:=(.ret,tm 19 [(4,iv i)],hX2 nl es x y z rf rp rc)
theorem qX2 (n l:Nat) (len i:Int) (nl:Bool) (es:List PV) (x y z:Int) (rf:Bool) (rp:List PV) (rc:Int):CR Try.prog R50 60 82 (CZ Try.f82 2) [0,1,7,8] [4] (shX2.put (lX2 n l len i nl es x y z rf rp rc)).1 (shX2.put (lX2 n l len i nl es x y z rf rp rc)).2 =
 bif decide (i<len) then ixR es n l i (J0 es n (bif eqS (rE es i) x y z then some (yX1 i nl es x y z rf rp rc) else some (.normal,shX2.put (lX2 n l len (W (i+1)) nl es x y z rf rp rc)))) else some (yX0 nl es x y z rf rp rc):=by kernel_rfl
abbrev H9 (x y z:Int) (e:PV):Bool:=eqS e x y z
def pX2:LS->Bool
 | ([.n n,.n l,.i len,.i i],[.l _ es,.i _,.i _,.i _,.l _ _,.i _])=>decide (n=es.length)&&decide (l<=es.length)&&decide (len=(l:Int))&&decide (0<=i)&&decide (i<=len)&&decide (es.length<=1000000)
 | _=>false
noncomputable def fX2:LS->DT (PX × List PV × List Row)
 | ([.n _,.n _,.i len,.i i],[.l nl es,.i x,.i y,.i z,.l rf rp,.i rc])=>.br (Iz (H9 x y z) es i (len-i).toNat) (.leaf (yX1 (Fi (H9 x y z) es i (len-i).toNat) nl es x y z rf rp rc)) (.leaf (yX0 nl es x y z rf rp rc))
 | _=>.no
def mX2:LS->Nat
 | ([.n _,.n _,.i len,.i i],_)=>(len-i).toNat
 | _=>0
theorem sX2:∀ s r,pX2 s=true->(fX2 s).run=some r->r.1 ≠ .normal/\(CR Try.prog R50 60 82 (CZ Try.f82 2) [0,1,7,8] [4] (shX2.put s).1 (shX2.put s).2=some r \/
   ∃ s',CR Try.prog R50 60 82 (CZ Try.f82 2) [0,1,7,8] [4] (shX2.put s).1 (shX2.put s).2=some (.normal,shX2.put s')/\pX2 s'=true/\mX2 s'<mX2 s/\(fX2 s').run=some r):=by
 intro t r hp hr;unfold pX2 at hp;split at hp
 ·rename_i n l len i nl es x y z rf rp rc;simp only[Aa,Ab] at hp;obtain⟨⟨⟨⟨⟨rfl,h2⟩,rfl⟩,h4⟩,h5⟩,h6⟩:=hp;have hr':=Il hr;refine⟨by rw[hr'];cases Iz (H9 x y z) es i ((l:Int)-i).toNat <;> simp,?_⟩;rw[show shX2.put ([.n es.length,.n l,.i (l:Int),.i i],[.l nl es,.i x,.i y,.i z,.l rf rp,.i rc])=shX2.put (lX2 es.length l (l:Int) i nl es x y z rf rp rc) from rfl,qX2];by_cases hi:i<(l:Int)
  ·rw[Ac hi,Am,G5 rfl h4 hi,DQ rfl,Dc (by omega) (by omega)];obtain⟨m,hm⟩:∃ m,((l:Int)-i).toNat=m+1:=⟨((l:Int)-i).toNat-1,by omega⟩;have hm2:((l:Int)-(i+1)).toNat=m:=by omega
   rw[hm] at hr';simp only[Iz,Fi] at hr';cases c1:eqS (rE es i) x y z with
   | true =>
    rw[show H9 x y z (rE es i)=true from c1] at hr';exact .inl (by rw[hr'];rfl)
   | false =>
    rw[show H9 x y z (rE es i)=false from c1] at hr';refine .inr ⟨lX2 es.length l (l:Int) (i+1) nl es x y z rf rp rc,rfl,by simp only[pX2,Aa,Ab];exact⟨⟨⟨⟨⟨trivial,h2⟩,trivial⟩,by omega⟩,by omega⟩,h6⟩,by simp only[mX2];omega,?_⟩;rw[hr'];simp only[fX2,hm2,By,At];show _=some (bif Iz (H9 x y z) es (i+1) m then _ else _)
    cases Iz (H9 x y z) es (i+1) m <;> rfl
  ·rw[Aj hi];rw[show ((l:Int)-i).toNat=0 by omega] at hr';exact .inl (by rw[hr'];rfl)
 ·cases hp
noncomputable def R51:CO:=R50.C8 82 2 [0,1,7,8] [] shX2 pX2 fX2
theorem okR51:Ck Try.prog R51.env:=
 okR50.C8 (n:=60) Try.func82 (show Try.f82.body=some (DL Try.f82) by kernel_rfl) (show (loops (DL Try.f82)).filter (fun b=>Ed b==2)=[CZ Try.f82 2] by kernel_rfl) [0,1,7,8] [4] [] shX2 mX2 sX2
def shY2:S1:=⟨42,[(0,.sl 0),(1,fnD 1),(5,C4),(6,C4)],[.many 78 5,.Gl 78 5 aC]⟩
abbrev lY2 (n l:Nat) (i j:Int) (nl:Bool) (es:List PV) (x y z:Int) (rf:Bool) (rp:List PV) (rc:Int):LS:=([.n n,.n l,.i i,.i j],[.l nl es,.i x,.i y,.i z,.l rf rp,.i rc])
noncomputable abbrev yY (n l:Nat) (i:Int) (nl:Bool) (es:List PV) (x y z:Int) (rf:Bool) (rp:List PV) (rc:Int):PX × List PV × List Row:=(.exit 0,tm 42 [(0,.sl 0 n 0 l),(5,iv i)],hX2 nl es x y z rf rp rc)
theorem qY2 (n l:Nat) (i j:Int) (nl:Bool) (es:List PV) (x y z:Int) (rf:Bool) (rp:List PV) (rc:Int):CR Try.prog R51 60 60 (CZ Try.f60 5) [0,1,5,6] [0,5] (shY2.put (lY2 n l i j nl es x y z rf rp rc)).1 (shY2.put (lY2 n l i j nl es x y z rf rp rc)).2 =
 bif decide (j<(l:Int)) then ixR es n l j (J0 es n (bif !eqS (rE es j) x y z then stR es n l i (some (.normal,shY2.put (lY2 n l (W (i+1)) (W (j+1)) nl (es.set (0+i.toNat) (G6 (rE es j))) x y z rf rp rc))) else some (.normal,shY2.put (lY2 n l i (W (j+1)) nl es x y z rf rp rc)))) else some (yY n l i nl es x y z rf rp rc):=by kernel_rfl
def pY2:LS->Bool
 | ([.n n,.n l,.i i,.i j],[.l _ es,.i _,.i _,.i _,.l _ _,.i _])=>decide (n=es.length)&&decide (l<=es.length)&&decide (0<=i)&&decide (i<j)&&decide (j<=(l:Int))&&decide (es.length<=1000000)
 | _=>false
abbrev nER (e:PV):PV:=G6 e
noncomputable def fY2:LS->DT (PX × List PV × List Row)
 | ([.n n,.n l,.i i,.i j],[.l nl es,.i x,.i y,.i z,.l rf rp,.i rc])=>.leaf (yY n l (G4 (H9 x y z) nER es i j ((l:Int)-j).toNat).2 nl (G4 (H9 x y z) nER es i j ((l:Int)-j).toNat).1 x y z rf rp rc)
 | _=>.no
def mY2:LS->Nat
 | ([.n _,.n l,.i _,.i j],_)=>((l:Int)-j).toNat
 | _=>0
theorem sY2:∀ s r,pY2 s=true->(fY2 s).run=some r->r.1 ≠ .normal/\(CR Try.prog R51 60 60 (CZ Try.f60 5) [0,1,5,6] [0,5] (shY2.put s).1 (shY2.put s).2=some r \/
   ∃ s',CR Try.prog R51 60 60 (CZ Try.f60 5) [0,1,5,6] [0,5] (shY2.put s).1 (shY2.put s).2=some (.normal,shY2.put s')/\pY2 s'=true/\mY2 s'<mY2 s/\(fY2 s').run=some r):=by
 intro t r hp hr;unfold pY2 at hp;split at hp
 ·rename_i n l i j nl es x y z rf rp rc;simp only[Aa,Ab] at hp;obtain⟨⟨⟨⟨⟨rfl,h2⟩,h3⟩,h4⟩,h5⟩,h6⟩:=hp;have hr':=(Ah hr).symm;refine⟨by rw[hr'];simp,?_⟩;rw[show shY2.put ([.n es.length,.n l,.i i,.i j],[.l nl es,.i x,.i y,.i z,.l rf rp,.i rc])=shY2.put (lY2 es.length l i j nl es x y z rf rp rc) from rfl,qY2];by_cases hj:j<(l:Int)
  ·rw[Ac hj,Am,G5 rfl (by omega) hj,DQ rfl,Dc (n:=j+1) (by omega) (by omega),Dc (n:=i+1) (by omega) (by omega),stR_of rfl h3 (by omega)];obtain⟨m,hm⟩:∃ m,((l:Int)-j).toNat=m+1:=⟨((l:Int)-j).toNat-1,by omega⟩;have hm2:((l:Int)-(j+1)).toNat=m:=by omega
   rw[hm] at hr';simp only[G4] at hr';right
   cases c1:eqS (rE es j) x y z with
   | true =>
    rw[show H9 x y z (rE es j)=true from c1] at hr';refine⟨lY2 es.length l i (j+1) nl es x y z rf rp rc,rfl,by simp only[pY2,Aa,Ab];exact⟨⟨⟨⟨⟨trivial,h2⟩,h3⟩,by omega⟩,by omega⟩,h6⟩,by simp only[mY2];omega,?_⟩;rw[hr'];simp only[fY2,hm2,Am];rfl
   | false =>
    rw[show H9 x y z (rE es j)=false from c1] at hr';refine⟨lY2 es.length l (i+1) (j+1) nl (es.set (0+i.toNat) (G6 (rE es j))) x y z rf rp rc,rfl,by
     simp only[pY2,Aa,Ab,Bv];exact⟨⟨⟨⟨⟨trivial,h2⟩,by omega⟩,by omega⟩,by omega⟩,h6⟩,by simp only[mY2];omega,?_⟩
    rw[hr'];simp only[fY2,hm2,At];rfl
  ·rw[Aj hj];rw[show ((l:Int)-j).toNat=0 by omega] at hr';exact .inl (by rw[hr'];rfl)
 ·cases hp
noncomputable def R52:CO:=R51.C8 60 5 [0,1,5,6] [] shY2 pY2 fY2
theorem okR52:Ck Try.prog R52.env:=
 okR51.C8 (n:=60) Try.func60 (show Try.f60.body=some (DL Try.f60) by kernel_rfl) (show (loops (DL Try.f60)).filter (fun b=>Ed b==5)=[CZ Try.f60 5] by kernel_rfl) [0,1,5,6] [0,5] [] shY2 mY2 sY2
abbrev rX (x y z:Int) (rf:Bool) (rp:List PV) (rc:Int):Row:={ es:=[GW x y z rf rp rc],s:=5,t:=78,bv:=false }
abbrev IE:PV:=GW 0 0 0 false [] 0
abbrev rwR (es:List PV):Row:=rN 78 5 false es
def endD (n l:Nat) (D:List PV) (i:Int) (r:Row):Option (PV × List Row):=
 bif (D.length==n)&&true then bif decide (0<=i)&&decide (i<(l:Int))&&decide (i<=(l:Int))&&decide ((l:Int)<=(l:Int)) then bif D.length==n then
  bif ((clrL IE D i l).length==n)&&true then bif decide (0<=i)&&decide (i<=(l:Int)) then some (.sl 0 n 0 i.toNat,[rwR (clrL IE D i l),r]) else none else none else none
  else (bif decide (i=(l:Int))&&decide ((l:Int)=(l:Int)) then none else none) else none
def delT (n l:Nat) (es:List PV) (x y z:Int) (rf:Bool) (rp:List PV) (rc:Int):Option (PV × List Row):=
 J0 es n (bif pX2 (lX2 n l (l:Int) 0 false es x y z rf rp rc) then bif Iz (H9 x y z) es 0 ((l:Int)-0).toNat then
  bif Fi (H9 x y z) es 0 ((l:Int)-0).toNat == -1 then some (.sl 0 n 0 l,[rwR es,rX x y z rf rp rc]) else
   bif pY2 (lY2 n l (Fi (H9 x y z) es 0 ((l:Int)-0).toNat) (W (Fi (H9 x y z) es 0 ((l:Int)-0).toNat+1)) false es x y z rf rp rc) then
    endD n l (G4 (H9 x y z) nER es (Fi (H9 x y z) es 0 ((l:Int)-0).toNat) (W (Fi (H9 x y z) es 0 ((l:Int)-0).toNat+1)) ((l:Int)-W (Fi (H9 x y z) es 0 ((l:Int)-0).toNat+1)).toNat).1
     (G4 (H9 x y z) nER es (Fi (H9 x y z) es 0 ((l:Int)-0).toNat) (W (Fi (H9 x y z) es 0 ((l:Int)-0).toNat+1)) ((l:Int)-W (Fi (H9 x y z) es 0 ((l:Int)-0).toNat+1)).toNat).2 (rX x y z rf rp rc) else none
  else some (.sl 0 n 0 l,[rwR es,rX x y z rf rp rc]) else none)
theorem qDf (n l:Nat) (es:List PV) (x y z:Int) (rf:Bool) (rp:List PV) (rc:Int):JV Try.prog R52 60 60 [.sl 0 n 0 l,.fn (.func 61) [] [.ptr 1 1 0 0]] [rwR es,rX x y z rf rp rc]=delT n l es x y z rf rp rc:=by kernel_rfl
theorem delT_eq {n l:Nat} {es:List PV} {x y z:Int} {rf:Bool} {rp:List PV} {rc:Int} (hn:n=es.length) (hl:l<=es.length) (h:es.length<=1000000) (hN:Em nER es):
  delT n l es x y z rf rp rc=some (.sl 0 n 0 (CU (H9 x y z) (es.take l)).length,[rwR (Fx (H9 x y z) IE es l),rX x y z rf rp rc]):=by
 subst hn;unfold delT;have hp:pX2 (lX2 es.length l (l:Int) 0 false es x y z rf rp rc)=true:=by simp only[pX2,Aa,Ab];exact⟨⟨⟨⟨⟨trivial,hl⟩,trivial⟩,by omega⟩,by omega⟩,h⟩
 rw[DQ rfl,hp,show ((l:Int)-0).toNat=l by omega,Am];cases ha:Iz (H9 x y z) es 0 l with
 | false =>
  obtain⟨g1,g2⟩:=del_none hl ha IE;rw[At,g1,g2,Az,show min l es.length=l by omega]
 | true =>
  obtain⟨g1,g2,g3,g4,g5,g6,g7,g8,g9⟩:=del_some hN hl ha IE rfl rfl;generalize Fi (H9 x y z) es 0 l=u at *;have hw:W (u+1)=u+1:=Dc (by omega) (by omega);have hy:pY2 (lY2 es.length l u (u+1) false es x y z rf rp rc)=true:=by simp only[pY2,Aa,Ab];exact⟨⟨⟨⟨⟨trivial,hl⟩,g1⟩,by omega⟩,by omega⟩,h⟩
  rw[hw,hy,Am,Am,show (u == -1)=false by rw[AQ];omega,At];generalize G4 (H9 x y z) nER es u (u+1) ((l:Int)-(u+1)).toNat=r at *;obtain⟨D,i⟩:=r;dsimp only at g3 g4 g5 g6 g7 g8 g9 ⊢;have hc:clrL IE D i l=Fx (H9 x y z) IE es l:=by
   rw[<- g9];unfold clrL;rw[AN,show ((l:Int)-i).toNat=l-i.toNat by omega,show i.toNat+(l-i.toNat)=l by omega]
  have hcl:(Fx (H9 x y z) IE es l).length=es.length:=HV hl;unfold endD;rw[hc,hcl,g6,AR,show (decide (0<=i)&&decide (i<(l:Int))&&decide (i<=(l:Int))&&decide ((l:Int)<=(l:Int)))=true by simp;omega,show (decide (0<=i)&&decide (i<=(l:Int)))=true by simp;omega,g5];rfl
noncomputable def cDf:List PV->List Row->Option (DT (PV × List Row))
 | [.sl 0 n 0 l,.fn (.func 61) [] [.ptr 1 1 0 0]],[⟨es,5,78,true,true,false,none,false⟩,⟨[.agg [.val (.int .i64 x),.val (.int .i64 y),.val (.int .i64 z),.CQ rf 3 rp,.val (.int .i64 rc)]],5,78,false,true,false,none,false⟩] =>
  some (.br (decide (n=es.length)&&decide (l<=es.length)&&decide (es.length<=1000000)&&ED nER es) (.leaf (.sl 0 n 0 (CU (H9 x y z) (es.take l)).length,[rwR (Fx (H9 x y z) IE es l),rX x y z rf rp rc])) .no)
 | _,_=>none
theorem qDfN {n l:Nat} {es:List PV} (x y z:Int) (rf:Bool) (rp:List PV) (rc:Int) (h:(decide (n=es.length)&&decide (l<=es.length)&&decide (es.length<=1000000)&&ED nER es)=true):
  JV Try.prog R52 60 60 [.sl 0 n 0 l,.fn (.func 61) [] [.ptr 1 1 0 0]] [rwR es,rX x y z rf rp rc]=some (.sl 0 n 0 (CU (H9 x y z) (es.take l)).length,[rwR (Fx (H9 x y z) IE es l),rX x y z rf rp rc]):=by
 simp only[Aa,Ab,DM] at h;rw[qDf,delT_eq h.1.1.1 h.1.1.2 h.1.2 h.2]
theorem eDf:Hx.CV Try.prog 60:=(Dm okR52 (qDfN (n:=0) (l:=0) (es:=[]) 0 0 0 false [] 0 (by simp[DM,Em]))).1
theorem oDf (args:List PV) (H:List Row) (d:DT (PV × List Row)) (q:PV) (H':List Row) (h:cDf args H=some d) (hd:d.run=some (q,H')):ET Try.prog 0 60 args H q H':=by
 unfold cDf at h;split at h
 ·rename_i n l es x y z rf rp rc;cases h;obtain⟨hc,he⟩:=FK hd;cases he;exact (Dm okR52 (qDfN x y z rf rp rc hc)).2
 ·cases h
noncomputable def R53:CO:=R52.ER 60 cDf
theorem okR53:Ck Try.prog R53.env:=okR52.ER eDf oDf
noncomputable def R54:CO:=((((((((R53.FN 62).D6 33 22).Jx 33 22).Jv Try.prog 111).Jw Try.prog 38 101 104).Gj 33 13 1001).Gj 33 22 1001).L7 Try.prog 32).Gj 33 8 5
theorem okR54:Ck Try.prog R54.env:=((((((((okR53.FN 62).D6 33 22).Jx 33 22).Jv 111).Jw 38 101 104).Gj 33 13 1001).Gj 33 22 1001).L7 32).Gj 33 8 5
abbrev eq3 (a b c x y z:Int):Bool:=((a==x)&&((b==y)&&true))&&((c==z)&&true)
abbrev abRow (e:PV):Row:={ es:=[.agg [iv (cI e 0),iv (cI e 1),iv (cI e 2),iv (cI e 3),iv (cI e 4),iv (cI e 5)]],s:=6,t:=116,bv:=true }
abbrev newQ1 (rp:List PV) (wi:Int):List PV:=([]++rp).take (0+rp.length)++iv wi::([]++rp).drop (0+rp.length+1)
abbrev newQ2 (rp:List PV) (wi:Int):List PV:=(newQ1 rp wi).take (0+rp.length+1)
abbrev okF2 (rp:List PV) (wi:Int):Bool:=((([]++rp).length==0+rp.length)&&(decide (0+rp.length<=0+rp.length)&&decide ((0+rp.length+1)*8<=140737488355328)))&&((newQ1 rp wi).length==max (0+rp.length) (0+rp.length+1))
abbrev elZ (e:PV) (ps:List PV) (c:Int):PV:=GW (cI e 3) (cI e 4) (cI e 5) false ps c
def apS (es:List PV) (k:Nat) (z:PV):List PV:=es.take k++z::es.drop (k+1)
theorem Ng {es:List PV} {k:Nat} {z:PV} (h:k<=es.length):(apS es k z).length=max es.length (k+1):=by
 unfold apS;simp only[Ar,Ay,Az,B1];omega
theorem apS_take {es:List PV} {k:Nat} {z:PV} (h:k<=es.length):(apS es k z).take (k+1)=es.take k++[z]:=by
 unfold apS;have:(es.take k).length=k:=by rw[Az];omega
 rw[List.take_append,this,Bi (by omega),show k+1-k=1 by omega];rfl
def cdJ (e:PV) (x y z:Int) (D:List (PV × PV)):Bool:=eq3 (cI e 0) (cI e 1) (cI e 2) x y z && !DA D (Dy (cI e 3) (cI e 4) (cI e 5))
def Jd (x y z:Int) (D:List (PV × PV)) (ps:List PV) (c:Int) (s:List PV × Nat) (e:PV):List PV × Nat:=bif cdJ e x y z D then (apS s.1 s.2 (elZ e ps c),s.2+1) else s
def G7 (x y z:Int) (D:List (PV × PV)) (ps:List PV) (c:Int) (s:List PV × Nat) (l:List PV):List PV × Nat:=l.foldl (Jd x y z D ps c) s
theorem newQ2_eq (rp:List PV) (wi:Int):newQ2 rp wi=rp++[iv wi]:=by
 have h1:newQ1 rp wi=rp++[iv wi]:=by
  show List.take _ _++_=_
  rw[BM,AN,Be,AG (by omega)]
 show List.take _ (newQ1 rp wi)=_
 rw[h1];exact Bi (by simp)
theorem okF2_of {rp:List PV} {wi:Int} (h:rp.length<=1000000):okF2 rp wi=true:=by
 have h1:newQ1 rp wi=rp++[iv wi]:=by
  show List.take _ _++_=_
  rw[BM,AN,Be,AG (by omega)]
 show ((([]++rp).length==0+rp.length)&&(decide (0+rp.length<=0+rp.length)&&decide ((0+rp.length+1)*8<=140737488355328))&&((newQ1 rp wi).length==max (0+rp.length) (0+rp.length+1)))=true
 rw[h1];simp only[BM,Ar,Ay,AC,Aa,Aw,Ab];omega
theorem JC {x y z:Int} {D:List (PV × PV)} {ps:List PV} {c:Int} {s:List PV × Nat} {e:PV} (h:s.2<=s.1.length):(Jd x y z D ps c s e).2<=(Jd x y z D ps c s e).1.length/\(Jd x y z D ps c s e).1.length<=s.1.length+1/\s.1.length<=(Jd x y z D ps c s e).1.length:=by
 unfold Jd;cases cdJ e x y z D with
 | false=>exact⟨h,by show s.1.length<=_;omega,Ak _⟩
 | true =>
  show s.2+1<=(apS s.1 s.2 _).length/\(apS s.1 s.2 _).length<=s.1.length+1/\s.1.length<=(apS s.1 s.2 _).length
  rw[Ng h];omega
abbrev ab1 (a b:PV):PV:=.agg [iv (gX a),iv (gY a),iv (gL a),iv (gX b),iv (gY b),iv (gL b)]
abbrev abL (e:PV):List PV:=[ab1 (eF e) (eL e),ab1 (eL e) (eF e)]
def Ib (x y z:Int) (D:List (PV × PV)) (ps:List PV) (rc:Int) (s:List PV × Nat) (e:PV):List PV × Nat:=G7 x y z D (ps++[iv (wI e)]) (rc+Df (wL e)) s (abL e)
def Dt (x y z:Int) (D:List (PV × PV)) (ps:List PV) (rc:Int) (s:List PV × Nat) (l:List PV):List PV × Nat:=l.foldl (Ib x y z D ps rc) s
theorem I5 {x y z:Int} {D:List (PV × PV)} {ps:List PV} {rc:Int} {s:List PV × Nat} {e:PV} (h:s.2<=s.1.length):(Ib x y z D ps rc s e).2<=(Ib x y z D ps rc s e).1.length/\(Ib x y z D ps rc s e).1.length<=s.1.length+2/\s.1.length<=(Ib x y z D ps rc s e).1.length:=by
 show (Jd x y z D _ _ (Jd x y z D _ _ s _) _).2<=(Jd x y z D _ _ (Jd x y z D _ _ s _) _).1.length/\(Jd x y z D _ _ (Jd x y z D _ _ s _) _).1.length<=_/\_<=(Jd x y z D _ _ (Jd x y z D _ _ s _) _).1.length
 obtain⟨a1,a2,a3⟩:=JC (x:=x) (y:=y) (z:=z) (D:=D) (ps:=ps++[iv (wI e)]) (c:=rc+Df (wL e)) (s:=s) (e:=ab1 (eF e) (eL e)) h;obtain⟨b1,b2,b3⟩:=JC (x:=x) (y:=y) (z:=z) (D:=D) (ps:=ps++[iv (wI e)]) (c:=rc+Df (wL e)) (s:=Jd x y z D (ps++[iv (wI e)]) (rc+Df (wL e)) s (ab1 (eF e) (eL e))) (e:=ab1 (eL e) (eF e)) a1;exact⟨b1,by omega,by omega⟩
def G8 (e:PV):Bool:=!((wL e).length==0)&&decide ((wL e).length<=1000)
abbrev CW (es:List PV) (k:Nat):PV:=lsE true (GW 0 0 0 false [] 0) (es.take k)
abbrev Md (es:List PV) (k:Nat):List PV:=CU (H9 (gX (CW es k)) (gY (CW es k)) (gL (CW es k))) (es.take k)
abbrev Nh (es:List PV) (k:Nat):List PV:=Fx (H9 (gX (CW es k)) (gY (CW es k)) (gL (CW es k))) IE es k
abbrev wjE (us:List PV) (D:List (PV × PV)) (es:List PV) (k:Nat):List PV × Nat:=
 Dt (gX (CW es k)) (gY (CW es k)) (gL (CW es k)) (Ej D (Dy (gX (CW es k)) (gY (CW es k)) (gL (CW es k))) (G6 (CW es k))) (rP (CW es k)) (rC (CW es k)) (Nh es k,(Md es k).length) (us.drop (0:Int).toNat)
end Go.Hr
