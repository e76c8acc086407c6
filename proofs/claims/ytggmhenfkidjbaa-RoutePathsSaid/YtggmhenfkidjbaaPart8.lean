import Derived.Test.YtggmhenfkidjbaaHnA
import Derived.Test.YtggmhenfkidjbaaPart4
import Derived.Test.YtggmhenfkidjbaaPart5
noncomputable section
namespace Go.Hr
open Go.Hx Go.Hg Go.Hn Go.Proofs
abbrev Li(i:Int)(f:Bool)(L:List PV)(lv:Int)(cs nm:ByteArray)(st:Bool)(wt ds:Int):PV:=.agg [iv i,.C9 f 28 L,iv lv,.val (.string cs),.val (.string nm),bv st,iv wt,iv ds]
def NS(L:List PV):Int:=W ((L.length:Int)-1)
abbrev ptX(L:List PV)(i:Nat):Int:=((L.getD i .any).cellAt 0).DL
abbrev ptY(L:List PV)(i:Nat):Int:=((L.getD i .any).cellAt 1).DL
abbrev lq(L:List PV)(lv:Int):PV:=DV (ptX L 0) (ptY L 0) lv
abbrev pK(L:List PV)(lv:Int):PV:=DV (ptX L (NS L).toNat) (ptY L (NS L).toNat) lv
def P8(L:List PV):Bool:=!((L.length:Int)==0)&&((decide ((0:Int)<=0)&&decide ((0:Int)<(L.length:Int)))&&(decide (0<=NS L)&&decide (NS L<(L.length:Int))))
def R0:CY:=({}:CY).J6 Try.prog xw []
theorem yQ:CG Try.prog R0.env:=FK.J6 UZ
def R1:CY:=R0.FX 52
theorem yR:CG Try.prog R1.env:=yQ.FX 52
theorem mO(i:Int)(f:Bool)(L:List PV)(lv:Int)(cs nm:ByteArray)(st:Bool)(wt ds:Int):DD Try.prog R1 60 25 [Li i f L lv cs nm st wt ds] =
 bif (L.length:Int)==0 then some (.El [DV 0 0 0,DV 0 0 0]) else
  bif decide ((0:Int)<=0)&&decide ((0:Int)<(L.length:Int)) then bif decide (0<=NS L)&&decide (NS L<(L.length:Int)) then
   some (.El [lq L lv,pK L lv]) else none else none:=by kernel_rfl
theorem bI(c:Bool)(x y:Int):(bif c then some (iv x) else some (iv y))=some (iv (bif c then x else y)):=by cases c <;> rfl
theorem bB(c x y:Bool):(bif c then some (bv x) else some (bv y))=some (bv (bif c then x else y)):=by cases c <;> rfl
def uz:List PV->Option PV | [.val (.int .i64 a)]=>some (iv (bif decide (a > 0) then 1 else bif decide (a<0) then -1 else 0)) |_=>none
theorem afg(args:List PV)(r:PV)(h:uz args=some r):Hx.Dd Try.prog 102/\Dr Try.prog 102 args r:=by
 unfold uz at h;split at h
 ·rename_i a;cases h;refine Cy FK (n:=60) (CN (b:=bif decide (a > 0) then some (iv 1) else bif decide (a<0) then some (iv (-1)) else some (iv 0)) (by kernel_rfl) ?_);simp only[bI]
 ·cases h
def cSz:List PV->Option PV | [.val (.int .i64 a)]=>some (uv (bif decide (a<0) then U (0-U a) else U a)) |_=>none
theorem oSz(args:List PV)(r:PV)(h:cSz args=some r):Hx.Dd Try.prog 104/\Dr Try.prog 104 args r:=by
 unfold cSz at h;split at h
 ·rename_i a;cases h;refine Cy FK (n:=60) (CN (b:=bif decide (a<0) then some (uv (U (0-U a))) else some (uv (U a))) (by kernel_rfl) ?_);cases decide (a<0) <;> rfl
 ·cases h
def uA:List PV->Option PV | [.val (.int .u64 a),.val (.int .u64 b)]=>some (.agg [uv (J3 a b),uv (U (a*b))]) |_=>none
theorem afi(args:List PV)(r:PV)(h:uA args=some r):Hx.Dd Try.prog 103/\Dr Try.prog 103 args r:=by
 unfold uA at h;split at h
 ·cases h;exact Cy FK (n:=60) (by kernel_rfl)
 ·cases h
def LL(a:Int):Int:=bif decide (a > 0) then 1 else bif decide (a<0) then -1 else 0
def Mv(a:Int):Int:=bif decide (a<0) then U (0-U a) else U a
def M1:CY:=(({}:CY).EJ 102 uz).EJ 104 cSz |>.EJ 103 uA
theorem yS:CG Try.prog M1.env:=((FK.EJ afg).EJ oSz).EJ afi
def mP(a b c d:Int):Int:=
 bif W (LL a*LL b) != W (LL c*LL d) then LL (W (W (LL a*LL b)-W (LL c*LL d))) else
 bif decide (J3 (Mv a) (Mv b) > J3 (Mv c) (Mv d)) then W (LL a*LL b) else bif decide (J3 (Mv a) (Mv b)<J3 (Mv c) (Mv d)) then W (0-W (LL a*LL b)) else
 bif decide (U (Mv a*Mv b) > U (Mv c*Mv d)) then W (LL a*LL b) else bif decide (U (Mv a*Mv b)<U (Mv c*Mv d)) then W (0-W (LL a*LL b)) else 0
def uB:List PV->Option PV | [.val (.int .i64 a),.val (.int .i64 b),.val (.int .i64 c),.val (.int .i64 d)]=>some (iv (mP a b c d)) |_=>none
theorem afj(args:List PV)(r:PV)(h:uB args=some r):Hx.Dd Try.prog 100/\Dr Try.prog 100 args r:=by
 unfold uB at h;split at h
 ·rename_i a b c d;cases h;refine Cy yS (n:=60) (CN (b:=bif W (LL a*LL b) != W (LL c*LL d) then some (iv (LL (W (W (LL a*LL b)-W (LL c*LL d))))) else
   bif decide (J3 (Mv a) (Mv b) > J3 (Mv c) (Mv d)) then some (iv (W (LL a*LL b))) else bif decide (J3 (Mv a) (Mv b)<J3 (Mv c) (Mv d)) then some (iv (W (0-W (LL a*LL b)))) else
   bif decide (U (Mv a*Mv b) > U (Mv c*Mv d)) then some (iv (W (LL a*LL b))) else bif decide (U (Mv a*Mv b)<U (Mv c*Mv d)) then some (iv (W (0-W (LL a*LL b)))) else some (iv 0)) (by kernel_rfl) ?_)
  simp only[bI];rfl
 ·cases h
def M2:CY:=M1.EJ 100 uB
theorem mQ:CG Try.prog M2.env:=yS.EJ afj
def Tn(a b c d:Int):Int:=bif decide (b<1) then 0 else bif decide (d<1) then 0 else mP a d c b
def gP:List PV->Option PV | [.agg [.val (.int .i64 a),.val (.int .i64 b)],.agg [.val (.int .i64 c),.val (.int .i64 d)]]=>some (iv (Tn a b c d)) |_=>none
theorem yT(args:List PV)(r:PV)(h:gP args=some r):Hx.Dd Try.prog 98/\Dr Try.prog 98 args r:=by
 unfold gP at h;split at h
 ·rename_i a b c d;cases h;refine Cy mQ (n:=60) (CN (b:=bif decide (b<1) then some (iv 0) else bif decide (d<1) then some (iv 0) else some (iv (mP a d c b))) (by kernel_rfl) ?_);simp only[bI];rfl
 ·cases h
def Zl(a b c:Int):Bool:=bif decide (1<=c) then bif !decide (c<=4194304) then true else bif decide (-137438953472<=a) then bif !decide (a<=137438953472) then true else bif decide (-137438953472<=b) then !decide (b<=137438953472) else true else true else true
def gQ:List PV->Option PV | [.agg [.val (.int .i64 a),.val (.int .i64 b),.val (.int .i64 c)]]=>some (bv (Zl a b c)) |_=>none
theorem yU(args:List PV)(r:PV)(h:gQ args=some r):Hx.Dd Try.prog 99/\Dr Try.prog 99 args r:=by
 unfold gQ at h;split at h
 ·rename_i a b c;cases h;refine Cy mQ (n:=60) (CN (b:=bif decide (1<=c) then bif !decide (c<=4194304) then some (bv true) else bif decide (-137438953472<=a) then bif !decide (a<=137438953472) then some (bv true) else bif decide (-137438953472<=b) then some (bv (!decide (b<=137438953472))) else some (bv true) else some (bv true) else some (bv true)) (by kernel_rfl) ?_);simp only[bB];rfl
 ·cases h
def Zm(a b c:Int):Bool:=bif decide (c ≥ 1) then bif decide (c<=4194304) then bif decide (a ≥ -137438953472) then bif decide (a<=137438953472) then bif decide (b ≥ -137438953472) then decide (b<=137438953472) else false else false else false else false else false
def gR:List PV->Option PV | [.agg [.val (.int .i64 a),.val (.int .i64 b),.val (.int .i64 c)]]=>some (bv (Zm a b c)) |_=>none
theorem yV(args:List PV)(r:PV)(h:gR args=some r):Hx.Dd Try.prog 90/\Dr Try.prog 90 args r:=by
 unfold gR at h;split at h
 ·rename_i a b c;cases h;refine Cy mQ (n:=60) (CN (b:=bif decide (c ≥ 1) then bif decide (c<=4194304) then bif decide (a ≥ -137438953472) then bif decide (a<=137438953472) then bif decide (b ≥ -137438953472) then some (bv (decide (b<=137438953472))) else some (bv false) else some (bv false) else some (bv false) else some (bv false) else some (bv false)) (by kernel_rfl) ?_);simp only[bB];rfl
 ·cases h
def M3:CY:=((M2.EJ 98 gP).EJ 99 gQ).EJ 90 gR
theorem uC:CG Try.prog M3.env:=((mQ.EJ yT).EJ yU).EJ yV
def yW(a b c d e f g h i:Int):Int:=mP (W (W (d*c)-W (a*f))) (W (W (h*c)-W (b*i))) (W (W (e*c)-W (b*f))) (W (W (g*c)-W (a*i)))
def IB(a b c d e f g h i:Int):Int:=bif Zl a b c then 0 else bif Zl d e f then 0 else bif Zl g h i then 0 else yW a b c d e f g h i
def gS:List PV->Option PV
 | [.agg [.val (.int .i64 a),.val (.int .i64 b),.val (.int .i64 c)],.agg [.val (.int .i64 d),.val (.int .i64 e),.val (.int .i64 f)],.agg [.val (.int .i64 g),.val (.int .i64 h),.val (.int .i64 i)]]=>some (iv (IB a b c d e f g h i))
 |_=>none
theorem yX(args:List PV)(r:PV)(h:gS args=some r):Hx.Dd Try.prog 95/\Dr Try.prog 95 args r:=by
 unfold gS at h;split at h
 ·rename_i a b c d e f g h' i;cases h;refine Cy uC (n:=60) (CN (b:=bif Zl a b c then some (iv 0) else bif Zl d e f then some (iv 0) else bif Zl g h' i then some (iv 0) else some (iv (yW a b c d e f g h' i))) (by kernel_rfl) ?_);simp only[bI];rfl
 ·cases h
def gT(n a b c d:Int):Int:=bif Tn n 1 a b==Tn n 1 c d then Tn n 1 a b else 0
def gV:List PV->Option PV | [.val (.int .i64 n),.agg [.val (.int .i64 a),.val (.int .i64 b)],.agg [.val (.int .i64 c),.val (.int .i64 d)]]=>some (iv (gT n a b c d)) |_=>none
theorem yZ(args:List PV)(r:PV)(h:gV args=some r):Hx.Dd Try.prog 96/\Dr Try.prog 96 args r:=by
 unfold gV at h;split at h
 ·rename_i n a b c d;cases h;refine Cy uC (n:=60) (CN (b:=bif Tn n 1 a b==Tn n 1 c d then some (iv (Tn n 1 a b)) else some (iv 0)) (by kernel_rfl) ?_);simp only[bI];rfl
 ·cases h
def M4:CY:=(M3.EJ 95 gS).EJ 96 gV
theorem mR:CG Try.prog M4.env:=(uC.EJ yX).EJ yZ
def onJ(a b c d e f x y:Int):Bool:=bif IB a b c d e f x y 1 != 0 then false else bif gT x a c d f==0 then (gT y b c e f==0) else false
def uD:List PV->Option PV | [.agg [.val (.int .i64 a),.val (.int .i64 b),.val (.int .i64 c)],.agg [.val (.int .i64 d),.val (.int .i64 e),.val (.int .i64 f)],.agg [.val (.int .i64 x),.val (.int .i64 y)]]=>some (bv (onJ a b c d e f x y)) |_=>none
theorem afk(args:List PV)(r:PV)(h:uD args=some r):Hx.Dd Try.prog 92/\Dr Try.prog 92 args r:=by
 unfold uD at h;split at h
 ·rename_i a b c d e f x y;cases h;refine Cy mR (n:=60) (CN (b:=bif IB a b c d e f x y 1 != 0 then some (bv false) else bif gT x a c d f==0 then some (bv (gT y b c e f==0)) else some (bv false)) (by kernel_rfl) ?_);simp only[bB];rfl
 ·cases h
def byJ(t0 t1 t2 t3 t4 t5 s0 s1 s2 s3 s4 s5:Int):Bool:=
 bif decide (Tn s1 s2 t1 t2 ≥ 0) then (bif IB t0 t1 t2 t3 t4 t5 s0 s1 s2==0 then decide (IB t0 t1 t2 t3 t4 t5 s3 s4 s5<0) else decide (IB t0 t1 t2 t3 t4 t5 s0 s1 s2<0)) else
 (bif IB s0 s1 s2 s3 s4 s5 t0 t1 t2==0 then decide (IB s0 s1 s2 s3 s4 s5 t3 t4 t5 > 0) else decide (IB s0 s1 s2 s3 s4 s5 t0 t1 t2 > 0))
def uE:List PV->Option PV
 | [.agg [.val (.int .i64 t0),.val (.int .i64 t1),.val (.int .i64 t2),.val (.int .i64 t3),.val (.int .i64 t4),.val (.int .i64 t5),.val (.int .i64 _)],.agg [.val (.int .i64 s0),.val (.int .i64 s1),.val (.int .i64 s2),.val (.int .i64 s3),.val (.int .i64 s4),.val (.int .i64 s5),.val (.int .i64 _)]]=>some (bv (byJ t0 t1 t2 t3 t4 t5 s0 s1 s2 s3 s4 s5))
 |_=>none
theorem afl(args:List PV)(r:PV)(h:uE args=some r):Hx.Dd Try.prog 94/\Dr Try.prog 94 args r:=by
 unfold uE at h;split at h
 ·rename_i t0 t1 t2 t3 t4 t5 t6 s0 s1 s2 s3 s4 s5 s6;cases h;refine Cy mR (n:=60) (CN (b:=bif decide (Tn s1 s2 t1 t2 ≥ 0) then (bif IB t0 t1 t2 t3 t4 t5 s0 s1 s2==0 then some (bv (decide (IB t0 t1 t2 t3 t4 t5 s3 s4 s5<0))) else some (bv (decide (IB t0 t1 t2 t3 t4 t5 s0 s1 s2<0)))) else
   (bif IB s0 s1 s2 s3 s4 s5 t0 t1 t2==0 then some (bv (decide (IB s0 s1 s2 s3 s4 s5 t3 t4 t5 > 0))) else some (bv (decide (IB s0 s1 s2 s3 s4 s5 t0 t1 t2 > 0))))) (by kernel_rfl) ?_)
  simp only[bB];rfl
 ·cases h
def LY(y d h:Int):Bool:=decide (Tn y d h 1 > 0)
def uF(u v:Bool)(k2:Bool):Int:=bif u then bif !v then bif k2 then -1 else 0 else 0 else 0
def y7(a b c d e f g h:Int):Int:=bif decide (c<1) then 0 else bif decide (f<1) then 0 else
 bif !LY b c h then bif LY e f h then bif decide (IB a b c d e f g h 1<0) then 1 else uF (LY b c h) (LY e f h) (decide (IB d e f a b c g h 1<0)) else uF (LY b c h) (LY e f h) (decide (IB d e f a b c g h 1<0)) else uF (LY b c h) (LY e f h) (decide (IB d e f a b c g h 1<0))
def gW:List PV->Option PV
 | [.agg [.val (.int .i64 a),.val (.int .i64 b),.val (.int .i64 c)],.agg [.val (.int .i64 d),.val (.int .i64 e),.val (.int .i64 f)],.agg [.val (.int .i64 g),.val (.int .i64 h)]]=>some (iv (y7 a b c d e f g h))
 |_=>none
def mV(u v:Bool)(k2:Bool):Option PV:=bif u then bif !v then bif k2 then some (iv (-1)) else some (iv 0) else some (iv 0) else some (iv 0)
theorem y8(args:List PV)(r:PV)(h:gW args=some r):Hx.Dd Try.prog 93/\Dr Try.prog 93 args r:=by
 unfold gW at h;split at h
 ·rename_i a b c d e f g h';cases h;refine Cy mR (n:=60) (CN (b:=bif decide (c<1) then some (iv 0) else bif decide (f<1) then some (iv 0) else
   bif !LY b c h' then bif LY e f h' then bif decide (IB a b c d e f g h' 1<0) then some (iv 1) else mV (LY b c h') (LY e f h') (decide (IB d e f a b c g h' 1<0)) else mV (LY b c h') (LY e f h') (decide (IB d e f a b c g h' 1<0)) else mV (LY b c h') (LY e f h') (decide (IB d e f a b c g h' 1<0))) (by kernel_rfl) ?_)
  unfold mV;simp only[bI];rfl
 ·cases h
def M5:CY:=((M4.EJ 92 uD).EJ 94 uE).EJ 93 gW
theorem afm:CG Try.prog M5.env:=((mR.EJ afk).EJ afl).EJ y8
def rE(es:List PV)(i:Int):PV:=es.getD (0+i.toNat) .any
def Sa(es:List PV)(n l:Nat)(i:Int){α:Type}(k:Option α):Option α:=bif (es.length==n)&&true then bif decide (0<=i)&&decide (i<(l:Int)) then k else none else none
def HM(es:List PV)(n:Nat){α:Type}(k:Option α):Option α:=bif es.length==n then k else none
def y9(es:List PV)(n l:Nat)(i:Int){α:Type}(k:Option α):Option α:=Sa es n l i (bif (es.length==n)&&true&&true&&true then k else none)
section
variable (d:PV->Bool) (nE:PV->PV)
def Jb(es:List PV)(i:Int):Nat->Bool
 |0=>false
 |m+1=>d (rE es i)||Jb es (i+1) m
def FH(es:List PV)(i:Int):Nat->Int
 |0=>-1
 |m+1=>bif d (rE es i) then i else FH es (i+1) m
def HF:List PV->Int->Int->Nat->List PV×Int
 |es,i,_,0=>(es,i)
 |es,i,j,m+1=>bif d (rE es j) then HF es i (j+1) m else HF (es.set (0+i.toNat) (nE (rE es j))) (i+1) (j+1) m
def Df(es:List PV):List PV:=es.filter fun e=>!d e
def Ed(es:List PV):Prop:=∀ e,e∈es->nE e=e
end
variable {d:PV->Bool} {nE:PV->PV}
theorem Xf{es:List PV}{i:Int}(h1:0<=i)(h2:i<(es.length:Int)):∃ h:i.toNat<es.length,rE es i=es[i.toNat]'h:=by
 refine⟨by omega,?_⟩;unfold rE;rw[AM,Av,Ae (by omega)];rfl
theorem FC{es:List PV}{n l:Nat}{i:Int}{α:Type}{k:Option α}(hn:es.length=n)(h1:0<=i)(h2:i<(l:Int)):Sa es n l i k=k:=by
 unfold Sa;rw[hn,AS,Ac h1,Ac h2];rfl
theorem DJ{es:List PV}{n:Nat}{α:Type}{k:Option α}(hn:es.length=n):HM es n k=k:=by unfold HM;rw[hn,AS];rfl
theorem gZ{es:List PV}{n l:Nat}{i:Int}{α:Type}{k:Option α}(hn:es.length=n)(h1:0<=i)(h2:i<(l:Int)):y9 es n l i k=k:=by
 unfold y9;rw[FC hn h1 h2,hn,AS];rfl
theorem Sb:∀(m:Nat) (es:List PV) (i j:Int),(HF d nE es i j m).1.length=es.length
 |0,_,_,_=>rfl
 |m+1,es,i,j=>by
  rw[HF];cases d (rE es j) with
  |true=>exact Sb m es i (j+1)
  |false=>simp only[Ar];rw[Sb m];simp
theorem mW{es:List PV}(h:Ed nE es){i:Int}(h1:0<=i)(h2:i<(es.length:Int)):nE (rE es i)=rE es i:=by
 obtain⟨hl,he⟩:=Xf h1 h2;rw[he];exact h _ (By hl)
theorem hO{es:List PV}(h:Ed nE es){i:Nat}{e:PV}(he:nE e=e):Ed nE (es.set i e):=fun x hx=>by
 rcases Bw hx with g |g
 ·exact h x g
 ·rw[g];exact he
theorem OG:∀(m:Nat) (es:List PV) (i j:Int),Ed nE es->0<=i->i<=j->j+m<=(es.length:Int) ->
  (HF d nE es i j m).1.take (HF d nE es i j m).2.toNat=es.take i.toNat++Df d ((es.drop j.toNat).take m)/\i<=(HF d nE es i j m).2/\(HF d nE es i j m).2<=i+m/\(HF d nE es i j m).1.drop (j.toNat+m)=es.drop (j.toNat+m)/\Ed nE (HF d nE es i j m).1
 |0,es,i,j,hN,_,_,_=>by simp[HF,Df];exact hN
 |m+1,es,i,j,hN,h0,h1,h2=>by
  obtain⟨hl,he⟩:=Xf (es:=es) (i:=j) (by omega) (by omega);have hd:(es.drop j.toNat).take (m+1)=rE es j::(es.drop (j+1).toNat).take m:=by
   rw[he,B4 hl,CJ,show(j+1).toNat=j.toNat+1 by omega]
  have hj:j.toNat+(m+1)=(j+1).toNat+m:=by omega
  rw[HF,hj];cases hb:d (rE es j) with
  |true=>
   obtain⟨g1,g2,g3,g4,g5⟩:=OG m es i (j+1) hN h0 (by omega) (by omega);simp only[Aj];refine⟨?_,g2,by omega,g4,g5⟩;rw[g1,hd];unfold Df;rw[BU,hb];rfl
  |false=>
   simp only[Ar];have hn:=mW hN (i:=j) (by omega) (by omega);rw[hn];have hN1:Ed nE (es.set (0+i.toNat) (rE es j)):=hO hN hn;obtain⟨g1,g2,g3,g4,g5⟩:=OG m (es.set (0+i.toNat) (rE es j)) (i+1) (j+1) hN1 (by omega) (by omega) (by rw[Bi];omega);refine⟨?_,by omega,by omega,?_,g5⟩
   ·rw[g1,hd];have e1:(es.set (0+i.toNat) (rE es j)).take (i+1).toNat=es.take i.toNat++[rE es j]:=by
     rw[show(i+1).toNat=i.toNat+1 by omega,AM,List.take_add_one,Ax,Ak rfl,Ak (by omega)];rw[List.take_set_of_le (Al _)];rfl
    have e2:(es.set (0+i.toNat) (rE es j)).drop (j+1).toNat=es.drop (j+1).toNat:=by
     rw[List.drop_set_of_lt (by omega)]
    rw[e1,e2];unfold Df;rw[BU,hb,Bu];rfl
   ·rw[g4,List.drop_set_of_lt (by omega)]
theorem T5(es:List PV):∀(m:Nat) (i:Int),0<=i->i+m<=(es.length:Int)->Jb d es i m=true ->
  i<=FH d es i m/\FH d es i m<i+m/\d (rE es (FH d es i m))=true/\Df d ((es.drop i.toNat).take (FH d es i m-i).toNat)=(es.drop i.toNat).take (FH d es i m-i).toNat
 |0,_,_,_,h=>by cases h
 |m+1,i,h0,h1,h=>by
  obtain⟨hl,he⟩:=Xf (es:=es) (i:=i) (by omega) (by omega);simp only[Jb]at h;simp only[FH];cases hb:d (rE es i) with
  |true=>simp only[Aj];exact⟨BG _,by omega,hb,by rw[Int.sub_self];rfl⟩
  |false=>
   rw[hb,Bt]at h;simp only[Ar];obtain⟨g1,g2,g3,g4⟩:=T5 es m (i+1) (by omega) (by omega) h;refine⟨by omega,by omega,g3,?_⟩;have hd:(es.drop i.toNat).take (FH d es (i+1) m-i).toNat=rE es i::(es.drop (i+1).toNat).take (FH d es (i+1) m-(i+1)).toNat:=by
    rw[he,B4 hl,show(FH d es (i+1) m-i).toNat=(FH d es (i+1) m-(i+1)).toNat+1 by omega,CJ,show(i+1).toNat=i.toNat+1 by omega]
   rw[hd];unfold Df at g4 ⊢;rw[BU,hb,g4];rfl
theorem T6(es:List PV):∀(m:Nat) (i:Int),0<=i->i+m<=(es.length:Int)->Jb d es i m=false->Df d ((es.drop i.toNat).take m)=(es.drop i.toNat).take m
 |0,_,_,_,_=>by simp[Df]
 |m+1,i,h0,h1,h=>by
  obtain⟨hl,he⟩:=Xf (es:=es) (i:=i) (by omega) (by omega);simp only[Jb,BK]at h;have ih:=T6 es m (i+1) (by omega) (by omega) h.2;have hd:(es.drop i.toNat).take (m+1)=rE es i::(es.drop (i+1).toNat).take m:=by
   rw[he,B4 hl,CJ,show(i+1).toNat=i.toNat+1 by omega]
  rw[hd];unfold Df at ih ⊢;rw[BU,h.1,ih];rfl
def FY(d:PV->Bool)(z:PV)(es:List PV)(l:Nat):List PV:=Df d (es.take l)++List.replicate (l-(Df d (es.take l)).length) z++es.drop l
theorem ED(es:List PV):(Df d es).length<=es.length:=List.length_filter_le _ _
theorem IC{z:PV}{es:List PV}{l:Nat}(h:l<=es.length):(FY d z es l).length=es.length:=by
 unfold FY;have h1:(Df d (es.take l)).length<=l:=Bc (ED _) (by rw[Az];omega);simp only[Ap,Cj,B7];omega
theorem Xg{es:List PV}{l:Nat}(hl:l<=es.length)(h:Jb d es 0 l=false)(z:PV):Df d (es.take l)=es.take l/\FY d z es l=es:=by
 have g:=T6 es l 0 (by omega) (by omega) h;rw[show(0:Int).toNat=0 from rfl,AF]at g;refine⟨g,?_⟩;unfold FY;rw[g,Az,show min l es.length=l by omega,Dm,List.replicate_zero,BL,List.take_append_drop]
theorem Xh{es:List PV}{l:Nat}(hN:Ed nE es)(hl:l<=es.length)(h:Jb d es 0 l=true)(z:PV){x:Int}(hx:x=FH d es 0 l){r:List PV×Int}(hr:r=HF d nE es x (x+1) ((l:Int)-(x+1)).toNat):
  0<=x/\x<l/\x<=r.2/\r.2<l/\r.2.toNat=(Df d (es.take l)).length/\r.1.length=es.length/\r.1.take r.2.toNat=Df d (es.take l)/\r.1.drop l=es.drop l/\r.1.take r.2.toNat++List.replicate (l-r.2.toNat) z++r.1.drop l=FY d z es l:=by
 obtain⟨g1,g2,g3,g4⟩:=T5 es l 0 (by omega) (by omega) h;rw[<- hx]at g1 g2 g3 g4;have hlen:=Sb (d:=d) (nE:=nE) ((l:Int)-(x+1)).toNat es x (x+1);obtain⟨t1,t2,t3,t4,t5⟩:=OG (d:=d) ((l:Int)-(x+1)).toNat es x (x+1) hN (by omega) (by omega) (by omega);rw[<- hr]at hlen t1 t2 t3 t4 t5;obtain⟨hl',he⟩:=Xf (es:=es) (i:=x) (by omega) (by omega);have e0:(x+1).toNat+((l:Int)-(x+1)).toNat=l:=by omega
 rw[e0]at t4;have hF:r.1.take r.2.toNat=Df d (es.take l):=by
  rw[t1];rw[show(0:Int).toNat=0 from rfl,AF,Int.sub_zero]at g4;have hsplit:es.take l=es.take x.toNat++(rE es x::(es.drop (x+1).toNat).take ((l:Int)-(x+1)).toNat):=by
   have a1:es.take l=es.take x.toNat++(es.drop x.toNat).take (l-x.toNat):=by
    rw[<- List.take_add,show x.toNat+(l-x.toNat)=l by omega]
   rw[a1,B4 hl',<- he,show l-x.toNat=((l:Int)-(x+1)).toNat+1 by omega,CJ,show(x+1).toNat=x.toNat+1 by omega]
  rw[hsplit];unfold Df at g4 ⊢;rw[List.filter_append,g4,BU,g3];rfl
 have hk:(Df d (es.take l)).length=r.2.toNat:=by rw[<- hF,Az,hlen];omega
 refine⟨by omega,by omega,t2,by omega,hk.symm,hlen,hF,t4,?_⟩;unfold FY;rw[hk,hF,t4]
theorem DN{b:Bool}{x r:PV}(h:(DT.br b (.leaf x) .no).run=some r):b=true/\r=x:=by
 cases b with
 |true=>cases h;exact⟨rfl,rfl⟩
 |false=>cases h
def OH:List PV->Option (DT PV)
 | [.agg [.val (.int .i64 _),.C9 _ 28 L,.val (.int .i64 lv),.val (.string _),.val (.string _),.val (.bool _),.val (.int .i64 _),.val (.int .i64 _)]]=>some (.br (P8 L) (.leaf (.El [lq L lv,pK L lv])) .no)
 |_=>none
theorem hU(i:Int)(f:Bool)(L:List PV)(lv:Int)(cs nm:ByteArray)(st:Bool)(wt ds:Int)(h:P8 L=true):DD Try.prog R1 60 25 [Li i f L lv cs nm st wt ds]=some (.El [lq L lv,pK L lv]):=by
 unfold P8 at h;simp only[Aa,Am]at h;rw[mO,h.1,h.2.1.1,h.2.1.2,h.2.2.1,h.2.2.2];rfl
theorem uG:Hx.Dd Try.prog 25:=(Cy yR (n:=60) (hU 0 false [F0 0 0] 0 .empty .empty false 0 0 rfl)).1
theorem uH(args:List PV)(d:DT PV)(r:PV)(h:OH args=some d)(hr:d.run=some r):Dr Try.prog 25 args r:=by
 unfold OH at h;split at h
 ·rename_i i f L lv cs nm st wt ds;cases h;obtain⟨h1,rfl⟩:=DN hr;exact(Cy yR (n:=60) (hU i f L lv cs nm st wt ds h1)).2
 ·cases h
def R2:CY:=(R0.DE 25 OH).FX 68
theorem afn:CG Try.prog R2.env:=(yQ.DE uG uH).FX 68
abbrev wI(e:PV):Int:=(e.cellAt 0).DL
abbrev wL(e:PV):List PV:=(e.cellAt 1).Tf
abbrev Mw(e:PV):Int:=(e.cellAt 2).DL
abbrev Jv(e:PV):Bool:=(e.cellAt 5).cQ
abbrev fnO(j:Nat):X1:=.fn 69 [] [.ptr j 1 0 0]
def Zn:S1:=⟨19,[(0,.sl 1),(1,fnO 0),(7,Dk),(8,Dk)],[.one 4 1 .bool,.many 49 8]⟩
abbrev lX(n l:Nat)(len i:Int)(fl nl:Bool)(es:List PV):LS:=([.n n,.n l,.i len,.i i],[.b fl,.l nl es])
abbrev xX0(fl nl:Bool)(es:List PV):PX×List PV×List Row:=(.exit 0,tm 19 [],(Zn.put (lX 0 0 0 0 fl nl es)).2)
abbrev xX1(i:Int)(fl nl:Bool)(es:List PV):PX×List PV×List Row:=(.ret,tm 19 [(4,iv i)],(Zn.put (lX 0 0 0 0 fl nl es)).2)
theorem qX(n l:Nat)(len i:Int)(fl nl:Bool)(es:List PV):Db Try.prog R2 60 39 (Dg Try.f39 2) [0,1,7,8] [4] (Zn.put (lX n l len i fl nl es)).1 (Zn.put (lX n l len i fl nl es)).2 =
 bif decide (i<len) then Sa es n l i (HM es n (bif ((wL (rE es i)).length:Int)==0 then some (xX1 i fl nl es) else bif fl then bif Jv (rE es i) then some (xX1 i fl nl es) else some (.normal,Zn.put (lX n l len (W (i+1)) fl nl es)) else some (.normal,Zn.put (lX n l len (W (i+1)) fl nl es)))) else some (xX0 fl nl es):=by kernel_rfl
def Dc(fl:Bool)(e:PV):Bool:=(((wL e).length:Int)==0)||(fl&&Jv e)
theorem dR{fl:Bool}{e:PV}{α:Type}(x y:α):(bif ((wL e).length:Int)==0 then x else bif fl then bif Jv e then x else y else y)=bif Dc fl e then x else y:=by
 unfold Dc;cases((wL e).length:Int)==0 <;> cases fl <;> cases Jv e <;> rfl
def pX:LS->Bool
 |([.n n,.n l,.i len,.i i],[.b _,.l _ es])=>decide (n=es.length)&&decide (l=es.length)&&decide (len=(es.length:Int))&&decide (0<=i)&&decide (i<=len)&&decide (es.length<=1000)
 |_=>false
def fX:LS->DT (PX×List PV×List Row)
 |([.n _,.n _,.i len,.i i],[.b fl,.l nl es])=>.br (Jb (Dc fl) es i (len-i).toNat) (.leaf (xX1 (FH (Dc fl) es i (len-i).toNat) fl nl es)) (.leaf (xX0 fl nl es))
 |_=>.no
def mX:LS->Nat
 |([.n _,.n _,.i len,.i i],[.b _,.l _ _])=>(len-i).toNat
 |_=>0
theorem Hl{α:Type}{b:Bool}{x y r:α}(h:(DT.br b (.leaf x) (.leaf y)).run=some r):r=bif b then x else y:=by cases b <;> (cases h;rfl)
theorem sX:∀ s r,pX s=true->(fX s).run=some r->r.1≠.normal/\(Db Try.prog R2 60 39 (Dg Try.f39 2) [0,1,7,8] [4] (Zn.put s).1 (Zn.put s).2=some r \/
   ∃ s',Db Try.prog R2 60 39 (Dg Try.f39 2) [0,1,7,8] [4] (Zn.put s).1 (Zn.put s).2=some (.normal,Zn.put s')/\pX s'=true/\mX s'<mX s/\(fX s').run=some r):=by
 intro t r hp hr;unfold pX at hp;split at hp
 ·rename_i n l len i fl nl es;simp only[Aa,Ab]at hp;obtain⟨⟨⟨⟨⟨rfl,rfl⟩,rfl⟩,h4⟩,h5⟩,h6⟩:=hp;have hr':=Hl hr;refine⟨by rw[hr'];cases Jb (Dc fl) es i ((es.length:Int)-i).toNat <;> simp,?_⟩;rw[show Zn.put ([.n es.length,.n es.length,.i (es.length:Int),.i i],[.b fl,.l nl es])=Zn.put (lX es.length es.length (es.length:Int) i fl nl es) from rfl,qX];by_cases hi:i<(es.length:Int)
  ·rw[Ac hi,Aj,FC rfl h4 hi,DJ rfl,dR,Dx (by omega) (by omega)];obtain⟨m,hm⟩:∃ m,((es.length:Int)-i).toNat=m+1:=⟨((es.length:Int)-i).toNat-1,by omega⟩;have hm2:((es.length:Int)-(i+1)).toNat=m:=by omega
   rw[hm]at hr';simp only[Jb,FH]at hr';cases c1:Dc fl (rE es i) with
   |true=>rw[c1]at hr';exact .inl (by rw[hr'];rfl)
   |false=>
    rw[c1]at hr';refine .inr ⟨lX es.length es.length (es.length:Int) (i+1) fl nl es,rfl,by simp only[pX,Aa,Ab];exact⟨⟨⟨⟨⟨trivial,trivial⟩,trivial⟩,by omega⟩,by omega⟩,h6⟩,by simp only[mX];omega,?_⟩;rw[hr'];simp only[fX,hm2,Bt,Ar];show _=some (bif Jb (Dc fl) es (i+1) m then _ else _)
    cases Jb (Dc fl) es (i+1) m <;> rfl
  ·rw[Ai hi];rw[show((es.length:Int)-i).toNat=0 by omega]at hr';exact .inl (by rw[hr'];rfl)
 ·cases hp
def R3:CY:=R2.Dl 39 2 [0,1,7,8] [] Zn pX fX
theorem afp:CG Try.prog R3.env:=
 afn.Dl (n:=60) Try.func39 (show Try.f39.body=some (DY Try.f39) by kernel_rfl) (show(loops (DY Try.f39)).filter (fun b=>Ew b==2)=[Dg Try.f39 2] by kernel_rfl) [0,1,7,8] [4] [] Zn mX sX
def Ye:S1:=⟨42,[(0,.sl 1),(1,fnO 0),(5,Dk),(6,Dk)],[.one 4 1 .bool,.many 49 8]⟩
abbrev lY(n l:Nat)(i j:Int)(fl nl:Bool)(es:List PV):LS:=([.n n,.n l,.i i,.i j],[.b fl,.l nl es])
abbrev xY(n l:Nat)(i:Int)(fl nl:Bool)(es:List PV):PX×List PV×List Row:=(.exit 0,tm 42 [(0,.sl 1 n 0 l),(5,iv i)],(Ye.put (lY n l i 0 fl nl es)).2)
def Ev(e:PV):PV:=Li (wI e) false (wL e) (Mw e) (e.cellAt 3).GU (e.cellAt 4).GU (Jv e) (e.cellAt 6).DL (e.cellAt 7).DL
theorem qY(n l:Nat)(i j:Int)(fl nl:Bool)(es:List PV):Db Try.prog R3 60 67 (Dg Try.f67 5) [0,1,5,6] [0,5] (Ye.put (lY n l i j fl nl es)).1 (Ye.put (lY n l i j fl nl es)).2 =
 bif decide (j<(l:Int)) then Sa es n l j (HM es n (
  bif ((wL (rE es j)).length:Int)==0 then some (.normal,Ye.put (lY n l i (W (j+1)) fl nl es)) else
  bif fl then (bif !Jv (rE es j) then y9 es n l i (some (.normal,Ye.put (lY n l (W (i+1)) (W (j+1)) fl nl (es.set (0+i.toNat) (Ev (rE es j)))))) else some (.normal,Ye.put (lY n l i (W (j+1)) fl nl es))) else
   y9 es n l i (some (.normal,Ye.put (lY n l (W (i+1)) (W (j+1)) fl nl (es.set (0+i.toNat) (Ev (rE es j)))))))) else some (xY n l i fl nl es):=by kernel_rfl
def pY:LS->Bool
 |([.n n,.n l,.i i,.i j],[.b _,.l _ es])=>decide (n=es.length)&&decide (l=es.length)&&decide (0<=i)&&decide (i<j)&&decide (j<=(es.length:Int))&&decide (es.length<=1000)
 |_=>false
def fY:LS->DT (PX×List PV×List Row)
 |([.n n,.n l,.i i,.i j],[.b fl,.l nl es])=>.leaf (xY n l (HF (Dc fl) Ev es i j ((l:Int)-j).toNat).2 fl nl (HF (Dc fl) Ev es i j ((l:Int)-j).toNat).1)
 |_=>.no
def mY:LS->Nat
 |([.n _,.n l,.i _,.i j],[.b _,.l _ _])=>((l:Int)-j).toNat
 |_=>0
theorem Zo{fl:Bool}{e:PV}{α:Type}(x y:α):(bif ((wL e).length:Int)==0 then x else bif fl then bif !Jv e then y else x else y)=bif Dc fl e then x else y:=by
 unfold Dc;cases((wL e).length:Int)==0 <;> cases fl <;> cases Jv e <;> rfl
theorem sY:∀ s r,pY s=true->(fY s).run=some r->r.1≠.normal/\(Db Try.prog R3 60 67 (Dg Try.f67 5) [0,1,5,6] [0,5] (Ye.put s).1 (Ye.put s).2=some r \/
   ∃ s',Db Try.prog R3 60 67 (Dg Try.f67 5) [0,1,5,6] [0,5] (Ye.put s).1 (Ye.put s).2=some (.normal,Ye.put s')/\pY s'=true/\mY s'<mY s/\(fY s').run=some r):=by
 intro t r hp hr;unfold pY at hp;split at hp
 ·rename_i n l i j fl nl es;simp only[Aa,Ab]at hp;obtain⟨⟨⟨⟨⟨rfl,rfl⟩,h3⟩,h4⟩,h5⟩,h6⟩:=hp;have hr':=(Ah hr).symm;refine⟨by rw[hr'];simp,?_⟩;rw[show Ye.put ([.n es.length,.n es.length,.i i,.i j],[.b fl,.l nl es])=Ye.put (lY es.length es.length i j fl nl es) from rfl,qY];by_cases hj:j<(es.length:Int)
  ·rw[Ac hj,Aj,FC rfl (by omega) hj,DJ rfl,Dx (n:=j+1) (by omega) (by omega),Dx (n:=i+1) (by omega) (by omega),Zo,gZ rfl h3 (by omega)];obtain⟨m,hm⟩:∃ m,((es.length:Int)-j).toNat=m+1:=⟨((es.length:Int)-j).toNat-1,by omega⟩;have hm2:((es.length:Int)-(j+1)).toNat=m:=by omega
   rw[hm]at hr';simp only[HF]at hr';right
   cases c1:Dc fl (rE es j) with
   |true=>
    rw[c1]at hr';refine⟨lY es.length es.length i (j+1) fl nl es,rfl,by simp only[pY,Aa,Ab];exact⟨⟨⟨⟨⟨trivial,trivial⟩,h3⟩,by omega⟩,by omega⟩,h6⟩,by simp only[mY];omega,?_⟩;rw[hr'];simp only[fY,hm2,Aj];rfl
   |false=>
    rw[c1]at hr';refine⟨lY es.length es.length (i+1) (j+1) fl nl (es.set (0+i.toNat) (Ev (rE es j))),rfl,by
     simp only[pY,Aa,Ab,Bi];exact⟨⟨⟨⟨⟨trivial,trivial⟩,by omega⟩,by omega⟩,by omega⟩,h6⟩,by simp only[mY];omega,?_⟩
    rw[hr'];simp only[fY,hm2,Ar];rfl
  ·rw[Ai hj];rw[show((es.length:Int)-j).toNat=0 by omega]at hr';exact .inl (by rw[hr'];rfl)
 ·cases hp
def R4:CY:=R3.Dl 67 5 [0,1,5,6] [] Ye pY fY
theorem afq:CG Try.prog R4.env:=
 afp.Dl (n:=60) Try.func67 (show Try.f67.body=some (DY Try.f67) by kernel_rfl) (show(loops (DY Try.f67)).filter (fun b=>Ew b==5)=[Dg Try.f67 5] by kernel_rfl) [0,1,5,6] [0,5] [] Ye mY sY
def R5:CY:=R4.FX 67
theorem dS:CG Try.prog R5.env:=afq.FX 67
abbrev zW:PV:=Li 0 false [] 0 (ByteArray.mk #[]) (ByteArray.mk #[]) false 0 0
def Sc(z:PV)(es:List PV)(i:Int)(l:Nat):List PV:=es.take (0+i.toNat)++List.replicate ((l:Int)-i).toNat z++es.drop (0+i.toNat+((l:Int)-i).toNat)
def za(L:Nat)(D:List PV)(i:Int):Option PV:=
 bif (D.length==L)&&true then bif decide (0<=i)&&decide (i<(L:Int))&&decide (i<=(L:Int))&&decide ((L:Int)<=(L:Int)) then bif D.length==L then
  bif ((Sc zW D i L).length==L)&&true then bif decide (0<=i)&&decide (i<=(L:Int)) then HM (Sc zW D i L) L (some (.C9 false 49 (((Sc zW D i L).drop 0).take i.toNat))) else none else none else none
  else (bif decide (i=(L:Int))&&decide ((L:Int)=(L:Int)) then none else none) else none
def uI(fl:Bool)(E:List PV)(L:Nat):Option PV:=
 HM E L (HM E L (bif pX (lX L L (L:Int) 0 fl false E) then bif Jb (Dc fl) E 0 ((L:Int)-0).toNat then
  bif FH (Dc fl) E 0 ((L:Int)-0).toNat == -1 then HM E L (some (.C9 false 49 ((E.drop 0).take L))) else
   bif pY (lY L L (FH (Dc fl) E 0 ((L:Int)-0).toNat) (W (FH (Dc fl) E 0 ((L:Int)-0).toNat+1)) fl false E) then
    za L (HF (Dc fl) Ev E (FH (Dc fl) E 0 ((L:Int)-0).toNat) (W (FH (Dc fl) E 0 ((L:Int)-0).toNat+1)) ((L:Int)-W (FH (Dc fl) E 0 ((L:Int)-0).toNat+1)).toNat).1
     (HF (Dc fl) Ev E (FH (Dc fl) E 0 ((L:Int)-0).toNat) (W (FH (Dc fl) E 0 ((L:Int)-0).toNat+1)) ((L:Int)-W (FH (Dc fl) E 0 ((L:Int)-0).toNat+1)).toNat).2 else none
  else HM E L (some (.C9 false 49 ((E.drop 0).take L))) else none))
theorem zc(f fl:Bool)(es:List PV):DD Try.prog R5 60 38 [.C9 f 49 es,bv fl] =
 bif decide (0<es.length) then bif decide ((0+es.length)*96<=140737488355328) then uI fl ([]++es) (0+es.length) else none else none:=by kernel_rfl
theorem OI{P:Program}{k:FuncId}{args:List PV}{t:TypeId}(h:Dr P k args (.val (.slice none 0 0))):Dr P k args (.C9 false t []):=by
 intro C hR Vs hs;refine Calls.mono (h C hR Vs hs) fun e w' hq=>?_
 obtain⟨V,h1,h2,h3⟩:=hq;refine⟨V,h1,h2,?_⟩;cases h3;exact .C9 0 0 (fun _ _=>undef) (Al _) (fun h=>by cases h) (fun h=>by simp at h) (fun x e j p h1 _=>by simp at h1) (fun x e j p h1 _=>by simp at h1) (fun e h1=>by cases h1)
theorem Xi{P:Program}{k:FuncId}{f:Bool}{t:TypeId}{ags:List PV}{r:PV}(h0:∀ cap,Dr P k (.val (.slice none 0 cap)::ags) r)(h1:∀ a cap,Dr P k (.val (.slice (some a) 0 cap)::ags) r):Dr P k (.C9 f t []::ags) r:=by
 intro C hR Vs hs;have h0s:0<Vs.size:=by rw[hs.1];simp
 have hv:=hs.2 0 _ Vs[0] rfl (AD h0s);have go:∀ V:Value,V=Vs[0]->Cs P C (.val V::ags) Vs:=fun V hV=>⟨by rw[hs.1];simp,fun j c v g1 g2=>by
  match j with
  |0=>
   simp only[AZ,A5]at g1;subst g1;rw[AD h0s]at g2;cases g2;rw[hV];exact .val
  |j+1=>exact hs.2 (j+1) c v (by simpa using g1) g2⟩
 generalize hV:Vs[0]=V at hv;cases hv with
 | @C9 _ _ _ a cap b off cv hcap hfull ha hc hr ht=>
  cases a with
  |none=>exact h0 cap C hR Vs (go _ hV.symm)
  |some ad=>exact h1 ad cap C hR Vs (go _ hV.symm)
def E1(nE:PV->PV)(es:List PV):Bool:=@decide (Ed nE es) (Classical.propDecidable _)
theorem Ea{nE:PV->PV}{es:List PV}:E1 nE es=true ↔ Ed nE es:=by unfold E1;exact @B5 _ (Classical.propDecidable _)
theorem mZ{fl:Bool}{es:List PV}(h:es.length<=1000)(hN:Ed Ev es):uI fl es es.length=some (.C9 false 49 (Df (Dc fl) es)):=by
 unfold uI;have hp:pX (lX es.length es.length (es.length:Int) 0 fl false es)=true:=by simp only[pX,Aa,Ab];exact⟨⟨⟨⟨⟨trivial,trivial⟩,trivial⟩,by omega⟩,by omega⟩,h⟩
 rw[DJ rfl,DJ rfl,hp,show((es.length:Int)-0).toNat=es.length by omega,Aj,DJ rfl,AF,A_];cases ha:Jb (Dc fl) es 0 es.length with
 |false=>
  have g:=(Xg (Al _) ha zW).1;rw[A_]at g;rw[Ar,g]
 |true=>
  obtain⟨g1,g2,g3,g4,g5,g6,g7,g8,g9⟩:=Xh hN (Al _) ha zW rfl rfl;rw[A_]at g5 g7;generalize FH (Dc fl) es 0 es.length=x at *;have hw:W (x+1)=x+1:=Dx (by omega) (by omega);have hy:pY (lY es.length es.length x (x+1) fl false es)=true:=by simp only[pY,Aa,Ab];exact⟨⟨⟨⟨⟨trivial,trivial⟩,by omega⟩,by omega⟩,by omega⟩,h⟩
  rw[hw,hy,Aj,Aj,show(x == -1)=false by rw[AR];omega,Ar];generalize HF (Dc fl) Ev es x (x+1) ((es.length:Int)-(x+1)).toNat=r at *;obtain⟨D,i⟩:=r;dsimp only at g3 g4 g5 g6 g7 g8 g9 ⊢;have hc:(Sc zW D i es.length).take i.toNat=D.take i.toNat:=by
   unfold Sc;rw[AM,Bu,List.take_left' (by rw[Az];omega)]
  have hcl:(Sc zW D i es.length).length=es.length:=by
   unfold Sc;simp only[Ap,Az,Cj,B7];omega
  unfold za;rw[hcl,g6,AS,show(decide (0<=i)&&decide (i<(es.length:Int))&&decide (i<=(es.length:Int))&&decide ((es.length:Int)<=(es.length:Int)))=true by simp;omega,show(decide (0<=i)&&decide (i<=(es.length:Int)))=true by simp;omega,DJ hcl,AF,hc,g7];rfl
theorem uJ(f fl:Bool)(es:List PV)(h:es.length<=1000)(hN:Ed Ev es)(h0:0<es.length):DD Try.prog R5 60 38 [.C9 f 49 es,bv fl]=some (.C9 false 49 (Df (Dc fl) es)):=by
 rw[zc,Ac h0,Ac (show(0+es.length)*96<=140737488355328 by omega),A9,AM,mZ h hN];rfl
theorem afr(a:Addr)(cap:Nat)(fl:Bool):DD Try.prog R5 60 38 [.val (.slice (some a) 0 cap),bv fl]=some (.C9 false 49 []):=by kernel_rfl
theorem zd(fl:Bool):DD Try.prog R5 60 38 [.val (.slice none 0 0),bv fl]=some (.val (.slice none 0 0)):=by kernel_rfl
theorem afs(n:Nat)(fl:Bool):DD Try.prog R5 60 38 [.val (.slice none 0 (n+1)),bv fl]=some (.val (.slice none 0 0)):=by kernel_rfl
theorem ze(fl:Bool):∀ cap:Nat,DD Try.prog R5 60 38 [.val (.slice none 0 cap),bv fl]=some (.val (.slice none 0 0))
 |0=>zd fl
 |n+1=>afs n fl
def hZ:List PV->Option (DT PV)
 | [.C9 _ 49 es,.val (.bool fl)]=>some (.br (decide (es.length<=1000)&&E1 Ev es) (.leaf (.C9 false 49 (Df (Dc fl) es))) .no)
 | [.val (.slice none 0 0),.val (.bool _)]=>some (.leaf (.C9 false 49 []))
 |_=>none
theorem zf:Hx.Dd Try.prog 38:=(Cy dS (n:=60) (zd false)).1
theorem zg(args:List PV)(d:DT PV)(r:PV)(h:hZ args=some d)(hr:d.run=some r):Dr Try.prog 38 args r:=by
 unfold hZ at h;split at h
 ·rename_i f es fl;cases h;obtain⟨h1,rfl⟩:=DN hr;simp only[Aa,Ab,Ea]at h1;by_cases h0:0<es.length
  ·exact(Cy dS (n:=60) (uJ f fl es h1.1 h1.2 h0)).2
  ·have:es=[]:=BI (by omega);subst this;exact Xi (fun cap=>OI (Cy dS (n:=60) (ze fl cap)).2) fun a cap=>(Cy dS (n:=60) (afr a cap fl)).2
 ·rename_i fl;cases h;cases hr;exact OI (Cy dS (n:=60) (ze fl 0)).2
 ·cases h
def R6:CY:=R5.DE 38 hZ
theorem aft:CG Try.prog R6.env:=dS.DE zf zg
def R7:CY:=R6.Ee 37 6
theorem afu:CG Try.prog R7.env:=aft.Ee 37 6
def eU:S1:=⟨27,[(3,.mp 0),(10,.C9 49),(11,Dk),(12,Dk)],[.map 30 4]⟩
abbrev lS(f:Bool)(es:List PV)(len i:Int)(D:List (PV×PV)):LS:=([.l f es,.i len,.i i],[.m D])
def D6(D:List (PV×PV))(e:PV):List (PV×PV):=EU (EU D (lq (wL e) (Mw e)) (bv true)) (pK (wL e) (Mw e)) (bv true)
def G3(es:List PV)(D:List (PV×PV)):List (PV×PV):=es.foldl D6 D
abbrev xS(D:List (PV×PV)):PX×List PV×List Row:=(.exit 0,tm 27 [(3,.mp 0)],[DB k0 30 4 D])
theorem qS(f:Bool)(es:List PV)(len i:Int)(D:List (PV×PV)):Db Try.prog R7 60 37 (Dg Try.f37 3) [3,10,11,12] [3] (eU.put (lS f es len i D)).1 (eU.put (lS f es len i D)).2 =
 bif decide (i<len) then bif decide (0<=i)&&decide (i<(es.length:Int)) then bif P8 (wL (es.getD i.toNat .any)) then
  some (.normal,eU.put (lS f es len (W (i+1)) (D6 D (es.getD i.toNat .any)))) else none else none else some (xS D):=by kernel_rfl
def pS:LS->Bool
 |([.l _ es,.i len,.i i],[.m _])=>decide (len=(es.length:Int))&&decide (0<=i)&&decide (i<=len)&&decide (es.length<=1000)&&(es.drop i.toNat).all fun e=>P8 (wL e)
 |_=>false
def fS:LS->DT (PX×List PV×List Row)
 |([.l _ es,.i _,.i i],[.m D])=>.leaf (xS (G3 (es.drop i.toNat) D))
 |_=>.no
def mS:LS->Nat
 |([.l _ _,.i len,.i i],[.m _])=>(len-i).toNat
 |_=>0
theorem Ds{es:List PV}{i:Int}(h1:0<=i)(h2:i<(es.length:Int)):es.drop i.toNat=es.getD i.toNat .any::es.drop (i+1).toNat:=by
 rw[B4 (by omega),show(i+1).toNat=i.toNat+1 by omega,Av,Ae (by omega)];rfl
theorem sS:∀ s r,pS s=true->(fS s).run=some r->r.1≠.normal/\(Db Try.prog R7 60 37 (Dg Try.f37 3) [3,10,11,12] [3] (eU.put s).1 (eU.put s).2=some r \/
   ∃ s',Db Try.prog R7 60 37 (Dg Try.f37 3) [3,10,11,12] [3] (eU.put s).1 (eU.put s).2=some (.normal,eU.put s')/\pS s'=true/\mS s'<mS s/\(fS s').run=some r):=by
 intro t r hp hr;unfold pS at hp;split at hp
 ·rename_i f es len i D;simp only[Aa,Ab]at hp;obtain⟨⟨⟨⟨rfl,h2⟩,h3⟩,h4⟩,h5⟩:=hp;have hr':=(Ah hr).symm;refine⟨by rw[hr'];simp,?_⟩;rw[show eU.put ([.l f es,.i (es.length:Int),.i i],[.m D])=eU.put (lS f es (es.length:Int) i D) from rfl,qS];by_cases hi:i<(es.length:Int)
  ·rw[Ds h2 hi,Cc,Aa]at h5;rw[Ac hi,Ac h2,h5.1,Dx (by omega) (by omega)];refine .inr ⟨lS f es es.length (i+1) (D6 D (es.getD i.toNat .any)),rfl,by simp only[pS,Aa,Ab];exact⟨⟨⟨⟨trivial,by omega⟩,by omega⟩,h4⟩,h5.2⟩,by simp only[mS];omega,?_⟩;rw[hr',Ds h2 hi];rfl
  ·rw[Ai hi,AC (by omega)] at *;exact .inl (by rw[hr'];rfl)
 ·cases hp
def R8:CY:=R7.Dl 37 3 [3,10,11,12] [] eU pS fS
theorem afv:CG Try.prog R8.env:=
 afu.Dl (n:=60) Try.func37 (show Try.f37.body=some (DY Try.f37) by kernel_rfl) (show(loops (DY Try.f37)).filter (fun b=>Ew b==3)=[Dg Try.f37 3] by kernel_rfl) [3,10,11,12] [3] [] eU mS sS
def R9:CY:=(R8.FX 37).RY Try.prog
theorem zh:CG Try.prog R9.env:=(afv.FX 37).RY
def ia:List PV->Option PV | [.val (.int .i64 a),.val (.int .i64 b)]=>some (iv (P5 (a-b))) |_=>none
theorem ib(a b:Int):(bif a != a then (bif b != b then some (iv 0) else some (iv (-1))) else bif b != b then some (iv 1) else bif decide (a<b) then some (iv (-1)) else bif decide (a > b) then some (iv 1) else some (iv 0))=some (iv (P5 (a-b))):=by
 rw[C5,C5];unfold P5;by_cases h1:a<b
 ·rw[Ac h1,Ak (by omega)];rfl
 ·rw[Ai h1,Aq (by omega)];by_cases h2:a > b
  ·rw[Ac h2,Ak (by omega)];rfl
  ·rw[Ai h2,Aq (by omega)];rfl
theorem zi(a b:Int):DD Try.prog R9 60 48 [iv a,iv b]=bif a != a then (bif b != b then some (iv 0) else some (iv (-1))) else bif b != b then some (iv 1) else bif decide (a<b) then some (iv (-1)) else bif decide (a > b) then some (iv 1) else some (iv 0):=by kernel_rfl
theorem zj(args:List PV)(r:PV)(h:ia args=some r):Hx.Dd Try.prog 48/\Dr Try.prog 48 args r:=by
 unfold ia at h;split at h
 ·rename_i a b;cases h;exact Cy zh (n:=60) ((zi a b).trans (ib a b))
 ·cases h
def R10:CY:=R9.EJ 48 ia
theorem pO:CG Try.prog R10.env:=zh.EJ zj
def zk(a b c d:Int):Int:=bif a != 0 then a else bif b != 0 then b else bif c != 0 then c else bif d != 0 then d else 0
def cOr:List PV->Option PV
 | [.C9 _ 3 [.val (.int .i64 a),.val (.int .i64 b),.val (.int .i64 c),.val (.int .i64 d)]]=>some (iv (zk a b c d))
 |_=>none
theorem zl(f:Bool)(a b c d:Int):DD Try.prog R10 60 47 [.C9 f 3 [iv a,iv b,iv c,iv d]]=bif a != 0 then some (iv a) else bif b != 0 then some (iv b) else bif c != 0 then some (iv c) else bif d != 0 then some (iv d) else some (iv 0):=by kernel_rfl
theorem oOr(args:List PV)(r:PV)(h:cOr args=some r):Hx.Dd Try.prog 47/\Dr Try.prog 47 args r:=by
 unfold cOr at h;split at h
 ·rename_i f a b c d;cases h;refine Cy pO (n:=60) ((zl f a b c d).trans ?_);unfold zk;cases a != 0 <;> cases b != 0 <;> cases c != 0 <;> cases d != 0 <;> rfl
 ·cases h
def zm:CY:=R10.EJ 47 cOr
theorem zn:CG Try.prog zm.env:=pO.EJ oOr
def uK(px py x y:Int):Int:=W (W (W (px-x)*W (px-x))+W (W (py-y)*W (py-y)))
def m0(px py ax ay al bx bY bl:Int):Int:=zk (P5 (uK px py ax ay-uK px py bx bY)) (P5 (ax-bx)) (P5 (ay-bY)) (P5 (al-bl))
abbrev pR(x y:Int):Row:={ es:=[F0 x y],s:=2,t:=28,bv:=true }
abbrev fR:Row:={ es:=[.fn (.func 44) [] [.ptr 0 1 0 0]],s:=1,t:=92,bv:=false }
abbrev aS:X1:=.agg [Dk,Dk,Dk]
def Xj:S1:=⟨31,[(0,.C9 30),(1,.fn 46 [] [.ptr 5 1 0 0]),(4,.ptr 6 1 0 0),(6,.ptr 7 1 0 0),(9,.C9 30),(10,Dk),(11,Dk)],
 [.one 28 2 (.agg [Dk,Dk]),.one 30 3 aS,.map 30 4,.its 2,.dead,.GJ 92 1 (.fn 44 [] [.ptr 0 1 0 0]),.one 30 3 aS,.one 30 3 aS]⟩
abbrev gX(e:PV):Int:=(e.cellAt 0).DL
abbrev gY(e:PV):Int:=(e.cellAt 1).DL
abbrev gL(e:PV):Int:=(e.cellAt 2).DL
abbrev lL(c0 c1 c2:Int)(D:List (PV×PV))(g:Bool)(Lj:List PV)(f:Bool)(es:List PV)(len i px py a0 a1 a2 b0 b1 b2:Int):LS:=([.l g Lj,.l f es,.i len,.i i],[.i px,.i py,.i c0,.i c1,.i c2,.m D,.i a0,.i a1,.i a2,.i b0,.i b1,.i b2])
abbrev xL(c0 c1 c2:Int)(D:List (PV×PV))(g:Bool)(Lj:List PV)(px py a0 a1 a2 b0 b1 b2:Int):PX×List PV×List Row:=(.exit 0,tm 31 [(0,.C9 g 30 Lj),(4,.ptr 6 1 0 0),(6,.ptr 7 1 0 0)],(Xj.put (lL c0 c1 c2 D g Lj g Lj 0 0 px py a0 a1 a2 b0 b1 b2)).2)
theorem qL(c0 c1 c2:Int)(D:List (PV×PV))(g:Bool)(Lj:List PV)(f:Bool)(es:List PV)(len i px py a0 a1 a2 b0 b1 b2:Int):Db Try.prog zm 60 45 (Dg Try.f45 3) [0,1,4,6,9,10,11] [0,4,6] (Xj.put (lL c0 c1 c2 D g Lj f es len i px py a0 a1 a2 b0 b1 b2)).1 (Xj.put (lL c0 c1 c2 D g Lj f es len i px py a0 a1 a2 b0 b1 b2)).2 =
 bif decide (i<len) then bif decide (0<=i)&&decide (i<(es.length:Int)) then
  bif i==0 then some (.normal,Xj.put (lL c0 c1 c2 D g Lj f es len (W (i+1)) px py a0 a1 a2 (gX (es.getD i.toNat .any)) (gY (es.getD i.toNat .any)) (gL (es.getD i.toNat .any)))) else
  bif decide (m0 px py (gX (es.getD i.toNat .any)) (gY (es.getD i.toNat .any)) (gL (es.getD i.toNat .any)) b0 b1 b2<0) then some (.normal,Xj.put (lL c0 c1 c2 D g Lj f es len (W (i+1)) px py a0 a1 a2 (gX (es.getD i.toNat .any)) (gY (es.getD i.toNat .any)) (gL (es.getD i.toNat .any))))
  else some (.normal,Xj.put (lL c0 c1 c2 D g Lj f es len (W (i+1)) px py a0 a1 a2 b0 b1 b2)) else none else some (xL c0 c1 c2 D g Lj px py a0 a1 a2 b0 b1 b2):=by kernel_rfl
abbrev T3:=Int×Int×Int
abbrev DA(e:PV):T3:=(gX e,gY e,gL e)
def I0(px py:Int)(a b:T3):Bool:=decide (m0 px py a.1 a.2.1 a.2.2 b.1 b.2.1 b.2.2<0)
def I1(px py:Int):Bool->T3->List PV->T3
 |_,b,[]=>b
 |first,b,e::es=>I1 px py false (bif first then DA e else bif I0 px py (DA e) b then DA e else b) es
def pL:LS->Bool
 |([.l _ _,.l _ es,.i len,.i i],[.i _,.i _,.i _,.i _,.i _,.m _,.i _,.i _,.i _,.i _,.i _,.i _])=>decide (len=(es.length:Int))&&decide (0<=i)&&decide (i<=len)&&decide (es.length<=10000)
 |_=>false
def fL:LS->DT (PX×List PV×List Row)
 |([.l g Lj,.l _ es,.i _,.i i],[.i px,.i py,.i c0,.i c1,.i c2,.m D,.i a0,.i a1,.i a2,.i b0,.i b1,.i b2])=>
  .leaf (xL c0 c1 c2 D g Lj px py a0 a1 a2 (I1 px py (i==0) (b0,b1,b2) (es.drop i.toNat)).1 (I1 px py (i==0) (b0,b1,b2) (es.drop i.toNat)).2.1 (I1 px py (i==0) (b0,b1,b2) (es.drop i.toNat)).2.2)
 |_=>.no
def mL:LS->Nat
 |([.l _ _,.l _ _,.i len,.i i],_)=>(len-i).toNat
 |_=>0
theorem sLs:∀ s r,pL s=true->(fL s).run=some r->r.1≠.normal/\(Db Try.prog zm 60 45 (Dg Try.f45 3) [0,1,4,6,9,10,11] [0,4,6] (Xj.put s).1 (Xj.put s).2=some r \/
   ∃ s',Db Try.prog zm 60 45 (Dg Try.f45 3) [0,1,4,6,9,10,11] [0,4,6] (Xj.put s).1 (Xj.put s).2=some (.normal,Xj.put s')/\pL s'=true/\mL s'<mL s/\(fL s').run=some r):=by
 intro t r hp hr;unfold pL at hp;split at hp
 ·rename_i g Lj f es len i px py c0 c1 c2 D a0 a1 a2 b0 b1 b2;simp only[Aa,Ab]at hp;obtain⟨⟨⟨rfl,h2⟩,h3⟩,h4⟩:=hp;have hr':=(Ah hr).symm;refine⟨by rw[hr'];simp,?_⟩;rw[show Xj.put ([.l g Lj,.l f es,.i (es.length:Int),.i i],[.i px,.i py,.i c0,.i c1,.i c2,.m D,.i a0,.i a1,.i a2,.i b0,.i b1,.i b2])=Xj.put (lL c0 c1 c2 D g Lj f es (es.length:Int) i px py a0 a1 a2 b0 b1 b2) from rfl,qL];by_cases hi:i<(es.length:Int)
  ·rw[Ac hi,Ac h2,Dx (by omega) (by omega)];have hi1:(i+1==0)=false:=by rw[AR];omega
   have go:∀ e0 e1 e2:Int,(e0,e1,e2)=(bif i==0 then DA (es.getD i.toNat .any) else bif I0 px py (DA (es.getD i.toNat .any)) (b0,b1,b2) then DA (es.getD i.toNat .any) else (b0,b1,b2)) ->
     ∃ s',Xj.put (lL c0 c1 c2 D g Lj f es (es.length:Int) (i+1) px py a0 a1 a2 e0 e1 e2)=Xj.put s'/\pL s'=true/\mL s'<mL (lL c0 c1 c2 D g Lj f es (es.length:Int) i px py a0 a1 a2 b0 b1 b2)/\(fL s').run=some r:=fun e0 e1 e2 hc=>by
    refine⟨lL c0 c1 c2 D g Lj f es (es.length:Int) (i+1) px py a0 a1 a2 e0 e1 e2,rfl,by simp only[pL,Aa,Ab];exact⟨⟨⟨trivial,by omega⟩,by omega⟩,h4⟩,by simp only[mL];omega,?_⟩;rw[hr',Ds h2 hi];simp only[I1,fL,hi1];rw[<- hc];rfl
   simp only[Aj,Bg];cases c1:i==0 with
   |true=>
    obtain⟨s',g1,g2,g3,g4⟩:=go (gX (es.getD i.toNat .any)) (gY (es.getD i.toNat .any)) (gL (es.getD i.toNat .any)) (by rw[c1];rfl);exact .inr ⟨s',by rw[Aj,g1],g2,g3,g4⟩
   |false=>
    cases c2:decide (m0 px py (gX (es.getD i.toNat .any)) (gY (es.getD i.toNat .any)) (gL (es.getD i.toNat .any)) b0 b1 b2<0) with
    |true=>
     obtain⟨s',g1,g2,g3,g4⟩:=go (gX (es.getD i.toNat .any)) (gY (es.getD i.toNat .any)) (gL (es.getD i.toNat .any)) (by rw[c1];simp only[I0,c2];rfl);exact .inr ⟨s',by rw[Ar,Aj,g1],g2,g3,g4⟩
    |false=>
     obtain⟨s',g1,g2,g3,g4⟩:=go b0 b1 b2 (by rw[c1];simp only[I0,c2];rfl);exact .inr ⟨s',by rw[Ar,Ar,g1],g2,g3,g4⟩
  ·rw[Ai hi];rw[AC (by omega)]at hr';exact .inl (by rw[hr'];rfl)
 ·cases hp
def R12:CY:=zm.Dl 45 3 [0,1,4,6,9,10,11] [false,true,false,false,false,false,true,true] Xj pL fL
theorem ic:CG Try.prog R12.env:=
 zn.Dl (n:=60) Try.func45 (show Try.f45.body=some (DY Try.f45) by kernel_rfl) (show(loops (DY Try.f45)).filter (fun b=>Ew b==3)=[Dg Try.f45 3] by kernel_rfl) [0,1,4,6,9,10,11] [0,4,6] [false,true,false,false,false,false,true,true] Xj mL sLs
theorem na{a b c d:Int}:zk a b c d<0 ↔ a<0\/a=0/\(b<0\/b=0/\(c<0\/c=0/\d<0)):=by
 have nz:∀{n:Int},n≠0->(n != 0)=true:=fun h=>CO.2 h
 unfold zk;by_cases ha:a=0
 ·subst ha;by_cases hb:b=0
  ·subst hb;by_cases hc:c=0
   ·subst hc;by_cases hd:d=0
    ·subst hd;simp
    ·rw[nz hd];simp
   ·rw[nz hc];simp[hc]
  ·rw[nz hb];simp[hb]
 ·rw[nz ha];simp[ha]
theorem LM{n:Int}:P5 n<0 ↔ n<0:=by unfold P5;split <;> (try split) <;> omega
theorem Sk{n:Int}:P5 n=0 ↔ n=0:=by unfold P5;split <;> (try split) <;> omega
abbrev iu(px py:Int)(a:T3):Int:=uK px py a.1 a.2.1
theorem Jy{px py:Int}{a b:T3}:I0 px py a b=true ↔ iu px py a<iu px py b\/iu px py a=iu px py b/\(a.1<b.1\/a.1=b.1/\(a.2.1<b.2.1\/a.2.1=b.2.1/\a.2.2<b.2.2)):=by
 unfold I0 m0;rw[B5,na,LM,LM,LM,LM,Sk,Sk,Sk];simp only[iu];omega
theorem dV{px py:Int}{a:T3}:I0 px py a a=false:=by
 rw[Cp,ne_eq,Jy];omega
theorem dW{px py:Int}{a b:T3}(h1:I0 px py a b=false)(h2:I0 px py b a=false):a=b:=by
 rw[Cp,ne_eq,Jy]at h1 h2;obtain⟨a1,a2,a3⟩:=a;obtain⟨b1,b2,b3⟩:=b;simp only at h1 h2;have e1:a1=b1:=by omega
 have e2:a2=b2:=by omega
 have e3:a3=b3:=by omega
 rw[e1,e2,e3]
theorem PE{px py:Int}{a b c:T3}(h1:I0 px py b a=false)(h2:I0 px py c b=false):I0 px py c a=false:=by
 rw[Cp,ne_eq,Jy] at *;omega
def I2(px py:Int)(m:T3)(l:List T3):Prop:=m∈l/\∀ x∈l,I0 px py x m=false
theorem I2.uniq{px py:Int}{m n:T3}{l:List T3}(h:I2 px py m l)(k:I2 px py n l):m=n:=dW (k.2 m h.1) (h.2 n k.1)
theorem I2.perm{px py:Int}{m:T3}{l l':List T3}(h:I2 px py m l)(p:l.Perm l'):I2 px py m l':=⟨p.mem_iff.1 h.1,fun x hx=>h.2 x (p.mem_iff.2 hx)⟩
theorem Lk{px py:Int}:∀(es:List PV) (b:T3),I2 px py (I1 px py false b es) (b::es.map DA)
 | [],b=>⟨by simp[I1],fun x hx=>by simp at hx;subst hx;exact dV⟩
 |e::es,b=>by
  rw[I1,Ar];cases h:I0 px py (DA e) b with
  |true=>
   obtain⟨h1,h2⟩:=Lk (px:=px) (py:=py) es (DA e);rw[Aj];refine⟨AU _ h1,fun x hx=>?_⟩;rcases AK.1 hx with rfl |hx
   ·have h3:=h2 (DA e) (AJ ..);refine PE h3 ?_;rw[Cp,ne_eq,Jy];rw[Jy]at h;omega
   ·exact h2 x hx
  |false=>
   obtain⟨h1,h2⟩:=Lk (px:=px) (py:=py) es b;rw[Ar];refine⟨?_,fun x hx=>?_⟩
   ·rcases AK.1 h1 with h1 |h1
    ·rw[h1];exact AJ ..
    ·exact AU _ (AU _ h1)
   ·rcases AK.1 hx with rfl |hx
    ·exact h2 _ (AJ ..)
    ·rcases AK.1 hx with rfl |hx
     ·exact PE (h2 b (AJ ..)) h
     ·exact h2 x (AU _ hx)
theorem Sl{px py:Int}{b:T3}{es:List PV}(h:es≠[]):I2 px py (I1 px py true b es) (es.map DA):=by
 cases es with
 |nil=>exact absurd rfl h
 |cons e es=>exact Lk es (DA e)
theorem Zp{px py:Int}{b:T3}{es es':List PV}(h:es'.Perm es):I1 px py true b es'=I1 px py true b es:=by
 by_cases h0:es=[]
 ·subst h0;rw[h.eq_nil]
 ·have h1:es'≠[]:=fun e=>h0 (by subst e;exact h.nil_eq.symm▸rfl)
  exact((Sl (px:=px) (py:=py) (b:=b) h1).perm (h.map DA)).uniq (Sl h0)
abbrev zo:PV:=.fn (.func 46) [] [.ptr 5 1 0 0]
abbrev To(px py:Int)(es:List PV):PV:=.El [DV (I1 px py true (0,0,0) es).1 (I1 px py true (0,0,0) es).2.1 (I1 px py true (0,0,0) es).2.2,bv (decide ((es.length:Int) > 0))]
abbrev Sn(a b c:Int):Row:={ es:=[DV a b c],s:=3,t:=30,bv:=true }
abbrev hL(px py c0 c1 c2:Int)(D:List (PV×PV)):List Row:=[pR px py,Sn c0 c1 c2,DB k0 30 4 D,Dz (.mp 2) .some,Dt,fR]
theorem iw(px py c0 c1 c2:Int)(D:List (PV×PV))(f:Bool)(es:List PV):Jx Try.prog R12 60 45 [.C9 f 30 es,zo] (hL px py c0 c1 c2 D) =
 bif pL (lL c0 c1 c2 D f es f es (es.length:Int) 0 px py 0 0 0 0 0 0) then some (To px py es,hL px py c0 c1 c2 D) else none:=by kernel_rfl
def Zq:Nat->List PV->List Row->Option (DT (PV×List Row))
 |0,[.Lx 30 es,.fn (.func 46) [] [.ptr 5 1 0 0]],[⟨[.agg [.val (.int .i64 px),.val (.int .i64 py)]],2,28,true,true,false,none,false⟩,
   ⟨[.agg [.val (.int .i64 c0),.val (.int .i64 c1),.val (.int .i64 c2)]],3,30,true,true,false,none,false⟩,
   ⟨[],0,0,true,false,false,some ⟨⟨0,[],⟨[]⟩,.skip,.skip⟩,.map 30 4 D⟩,false⟩,
   ⟨[],0,0,true,false,false,some ⟨⟨0,[.mp 2],⟨[]⟩,.skip,.skip⟩,.iter .some⟩,false⟩,⟨[],0,0,true,false,false,none,false⟩,
   ⟨[.fn (.func 44) [] [.ptr 0 1 0 0]],1,92,false,true,false,none,false⟩]=>
  some (.br (decide (es.length<=10000)) (.leaf (To px py es,hL px py c0 c1 c2 D)) .no)
 |_,_,_=>none
theorem pL0{c0 c1 c2:Int}{D:List (PV×PV)}{f:Bool}{es:List PV}{px py:Int}(h:es.length<=10000):pL (lL c0 c1 c2 D f es f es (es.length:Int) 0 px py 0 0 0 0 0 0)=true:=by
 simp only[pL,Aa,Ab];exact⟨⟨⟨trivial,by omega⟩,by omega⟩,h⟩
theorem nf(px py c0 c1 c2:Int)(D:List (PV×PV))(f:Bool)(es:List PV)(h:es.length<=10000):Fa Try.prog 0 45 [.C9 f 30 es,zo] (hL px py c0 c1 c2 D) (To px py es) (hL px py c0 c1 c2 D):=
 (DH ic ((iw px py c0 c1 c2 D f es).trans (by rw[pL0 h];rfl))).2
theorem uL:Hx.Dd Try.prog 45:=(DH ic ((iw 0 0 0 0 0 [] false []).trans (by rw[pL0 (by simp)];rfl))).1
theorem FU{α:Type}{b:Bool}{x r:α}(h:(DT.br b (.leaf x) .no).run=some r):b=true/\r=x:=by
 cases b with
 |true=>cases h;exact⟨rfl,rfl⟩
 |false=>cases h
theorem uM(ro:Nat)(args:List PV)(H:List Row)(d:DT (PV×List Row))(q:PV)(H':List Row)(h:Zq ro args H=some d)(hd:d.run=some (q,H')):Fa Try.prog ro 45 args H q H':=by
 unfold Zq at h;split at h
 ·rename_i es px py c0 c1 c2 D;cases h;obtain⟨hc,he⟩:=FU hd;cases he;have hc:=AN hc;intro C hH hro hR Vs hs;have h0s:0<Vs.size:=by rw[hs.1];simp
  have hv:=hs.2 0 _ Vs[0] rfl (AD h0s);generalize hV:Vs[0]=V at hv;cases hv with
  | @Lx _ _ es' _ hp hv'=>
   have hl:es'.length=es.length:=hp.length_eq;have:=nf px py c0 c1 c2 D false es' (by rw[hl];exact hc) C hH hro hR Vs ⟨by rw[hs.1];simp,fun j c v g1 g2=>by
    match j with
    |0=>
     simp only[AZ,A5]at g1;subst g1;rw[AD h0s]at g2;cases g2;rw[hV];exact hv'
    |j+1=>exact hs.2 (j+1) c v (by simpa using g1) g2⟩
   unfold To at this ⊢;rw[Zp hp,hl]at this;exact this
 ·cases h
def zp:CY:=R12.RF 45 Zq
theorem zq:CG Try.prog zp.env:=ic.RF uL uM
def OJ:S1:=⟨27,[(3,.mp 2),(10,.C9 49),(11,Dk),(12,Dk)],[.one 28 2 (.agg [Dk,Dk]),.one 30 3 aS,.map 30 4]⟩
abbrev pP(f:Bool)(es:List PV)(len i:Int)(px py a0 a1 a2:Int)(D:List (PV×PV)):LS:=([.l f es,.i len,.i i],[.i px,.i py,.i a0,.i a1,.i a2,.m D])
abbrev xSE(px py a0 a1 a2:Int)(D:List (PV×PV)):PX×List PV×List Row:=(.exit 0,tm 27 [(3,.mp 2)],(OJ.put (pP false [] 0 0 px py a0 a1 a2 D)).2)
theorem qSE(f:Bool)(es:List PV)(len i:Int)(px py a0 a1 a2:Int)(D:List (PV×PV)):Db Try.prog zp 60 37 (Dg Try.f37 3) [3,10,11,12] [3] (OJ.put (pP f es len i px py a0 a1 a2 D)).1 (OJ.put (pP f es len i px py a0 a1 a2 D)).2 =
 bif decide (i<len) then bif decide (0<=i)&&decide (i<(es.length:Int)) then bif P8 (wL (es.getD i.toNat .any)) then
  some (.normal,OJ.put (pP f es len (W (i+1)) px py a0 a1 a2 (D6 D (es.getD i.toNat .any)))) else none else none else some (xSE px py a0 a1 a2 D):=by kernel_rfl
def pQ:LS->Bool
 |([.l _ es,.i len,.i i],[.i _,.i _,.i _,.i _,.i _,.m _])=>decide (len=(es.length:Int))&&decide (0<=i)&&decide (i<=len)&&decide (es.length<=1000)&&(es.drop i.toNat).all fun e=>P8 (wL e)
 |_=>false
def fSE:LS->DT (PX×List PV×List Row)
 |([.l _ es,.i _,.i i],[.i px,.i py,.i a0,.i a1,.i a2,.m D])=>.leaf (xSE px py a0 a1 a2 (G3 (es.drop i.toNat) D))
 |_=>.no
def mSE:LS->Nat
 |([.l _ _,.i len,.i i],_)=>(len-i).toNat
 |_=>0
theorem sSE:∀ s r,pQ s=true->(fSE s).run=some r->r.1≠.normal/\(Db Try.prog zp 60 37 (Dg Try.f37 3) [3,10,11,12] [3] (OJ.put s).1 (OJ.put s).2=some r \/
   ∃ s',Db Try.prog zp 60 37 (Dg Try.f37 3) [3,10,11,12] [3] (OJ.put s).1 (OJ.put s).2=some (.normal,OJ.put s')/\pQ s'=true/\mSE s'<mSE s/\(fSE s').run=some r):=by
 intro t r hp hr;unfold pQ at hp;split at hp
 ·rename_i f es len i px py a0 a1 a2 D;simp only[Aa,Ab]at hp;obtain⟨⟨⟨⟨rfl,h2⟩,h3⟩,h4⟩,h5⟩:=hp;have hr':=(Ah hr).symm;refine⟨by rw[hr'];simp,?_⟩;rw[show OJ.put ([.l f es,.i (es.length:Int),.i i],[.i px,.i py,.i a0,.i a1,.i a2,.m D])=OJ.put (pP f es (es.length:Int) i px py a0 a1 a2 D) from rfl,qSE];by_cases hi:i<(es.length:Int)
  ·rw[Ds h2 hi,Cc,Aa]at h5;rw[Ac hi,Ac h2,h5.1,Dx (by omega) (by omega)];refine .inr ⟨pP f es es.length (i+1) px py a0 a1 a2 (D6 D (es.getD i.toNat .any)),rfl,by simp only[pQ,Aa,Ab];exact⟨⟨⟨⟨trivial,by omega⟩,by omega⟩,h4⟩,h5.2⟩,by simp only[mSE];omega,?_⟩;rw[hr',Ds h2 hi];rfl
  ·rw[Ai hi,AC (by omega)] at *;exact .inl (by rw[hr'];rfl)
 ·cases hp
def R14:CY:=zp.Dl 37 3 [3,10,11,12] [false,true,false] OJ pQ fSE
theorem zr:CG Try.prog R14.env:=
 zq.Dl (n:=60) Try.func37 (show Try.f37.body=some (DY Try.f37) by kernel_rfl) (show(loops (DY Try.f37)).filter (fun b=>Ew b==3)=[Dg Try.f37 3] by kernel_rfl) [3,10,11,12] [3] [false,true,false] OJ mSE sSE
def zs:CY:=R14.F4 23 3 [(6,30,3)]
theorem zt:CG Try.prog zs.env:=zr.F4 23 3 [(6,30,3)]
theorem zu:(HW (Dg Try.f23 3)).isSome=true:=by kernel_rfl
def pT:ML:=(HW (Dg Try.f23 3)).get zu
theorem uN:HW (Dg Try.f23 3)=some pT:=(Option.some_get zu).symm
theorem ng:pT.out=0:=by kernel_rfl
theorem uO:pT.it=11:=by kernel_rfl
theorem iy:pT.d1=12:=by kernel_rfl
theorem pV:pT.q=13:=by kernel_rfl
abbrev So(nl:Bool)(es:List PV):Row:={ es,s:=3,t:=30,bv:=true,nl }
abbrev sE(n:Nat):List PV:=tm 26 [(3,.ptr 0 1 0 0),(4,.ptr 1 1 0 0),(6,.sl 4 n 0 n),(11,.mp 3)]
abbrev hE(px py a b c:Int)(D:List (PV×PV))(s:lQ)(nl:Bool)(es:List PV):List Row:=[pR px py,Sn a b c,DB k0 30 4 D,Dz (.mp 2) s,So nl es]
theorem qM(px py a b c:Int)(D:List (PV×PV))(bm s:Nat)(seen:Array Nat)(ck:Nat)(n:Nat)(nl:Bool)(es:List PV)(x y z:Int)(v:PV):
  Xd Try.prog zs 60 23 pT [3,4,6,11] (sE n) (hE px py a b c D (.at bm s seen ck) nl es) (DV x y z) v =
 bif decide (es.length=n)&&decide (n=n)&&decide ((n+1)*24<=140737488355328) then some (sE (n+1),hE px py a b c D (.at bm s seen ck) (nl&&false) (es++[DV x y z])) else none:=by kernel_rfl
abbrev pW(k:PV):PV:=DV (gX k) (gY k) (gL k)
def NU(D:List (PV×PV)):Prop:=∀ x∈D,x.1=pW x.1
def iz(D:List (PV×PV)):Bool:=@decide (NU D) (Classical.propDecidable _)
theorem Sp{D:List (PV×PV)}:iz D=true ↔ NU D:=by unfold iz;exact @B5 _ (Classical.propDecidable _)
abbrev OkE(D:List (PV×PV))(j:Nat)(kv:PV×PV):Prop:=D[j]? = some kv/\kv.1=pW kv.1
abbrev Xl(x:Nat×(PV×PV)):PV:=x.2.1
abbrev zv(px py a b c:Int)(D:List (PV×PV))(vis:List (Nat×(PV×PV))):List PV×List Row:=
 (sE vis.length,hE px py a b c D .some vis.isEmpty (vis.map Xl))
theorem nh{vis:List (Nat×(PV×PV))}{N:Nat}(hn:(vis.map (·.1)).Nodup)(hl:∀ x∈vis,x.1<N):vis.length<=N:=by
 have:=List.Nodup.length_le_of_subset hn (l₂:=List.range N) (fun x hx=>by
  obtain⟨y,hy,rfl⟩:=AX.1 hx;exact Bo.2 (hl y hy))
 simpa using this
theorem afA{px py a b c:Int}{D:List (PV×PV)}(hk:NU D)(hl:D.length<=5000):
  T4 Try.prog zs 60 23 pT [3,4,6,11] 3 2 D.length (OkE D) (zv px py a b c D) where
 ne:=by decide
 hd:=fun vis=>by rw[iy,pV];exact⟨show 12<26 by decide,show 13<26 by decide⟩
 hS:=fun vis=>by rw[uO];rfl
 hi:=fun vis=>rfl
 hm:=fun vis=>⟨_,_,rfl,rfl,rfl⟩
 H9:=fun vis C bm s hH hR hρ=>by
  have hrow:C.H[2]? = some (DB k0 30 4 D):=by rw[hH];rfl
  obtain⟨es,ck,h1,h2,h3,h4⟩:=((hR.Ii 2 bm _ ⟨k0,.map 30 4 D⟩ hρ hrow rfl rfl).map 30 4 D rfl).mem;refine⟨es,by rw[h1,h3],h2,fun j e he=>?_⟩;have hj:j<D.length:=by rw[<- h2];exact(At.1 he).1
  obtain⟨g1,g2,g3⟩:=h4 j D[j].1 D[j].2 e (by rw[Ae hj]) he;exact⟨g1,D[j],⟨Ae hj,hk _ (By hj)⟩,g2,g3⟩
 step:=fun vis j kv bm s seen ck hok hkv hn hj hlt Tm=>by
  have hlen:=nh hn hlt;obtain⟨k,v⟩:=kv;have hkv2:k=pW k:=hkv.2;show Xd Try.prog zs 60 23 pT [3,4,6,11] (sE vis.length) (hE px py a b c D (.at bm s seen ck) vis.isEmpty (vis.map Xl)) k v =
   some (sE (vis++[(j,k,v)]).length,hE px py a b c D (.at bm s seen ck) (vis++[(j,k,v)]).isEmpty ((vis++[(j,k,v)]).map Xl))
  have hq:=qM px py a b c D bm s seen ck vis.length vis.isEmpty (vis.map Xl) (gX k) (gY k) (gL k) v;have hkv3:DV (gX k) (gY k) (gL k)=k:=hkv2.symm;rw[hkv3]at hq;rw[hq,AP,show(decide (vis.length=vis.length)&&decide (vis.length=vis.length)&&decide ((vis.length+1)*24<=140737488355328))=true by simp;omega,Aj];rw[Ap,Bz,BC];have:(vis++[(j,k,v)]).isEmpty=false:=by simp
  rw[this];rfl
def shM:S1:=⟨26,[(3,.ptr 0 1 0 0),(4,.ptr 1 1 0 0),(6,.sl 4),(11,.mp 3)],[.one 28 2 (.agg [Dk,Dk]),.one 30 3 aS,.map 30 4,.aq 2,.many 30 3]⟩
def pM:LS->Bool
 |([.n n,.n l],[.i _,.i _,.i _,.i _,.i _,.m D,.n N,.l nl es])=>decide (n=0)&&decide (l=0)&&decide (N=D.length)&&nl&&es.isEmpty&&decide (D.length<=5000)&&iz D
 |_=>false
abbrev xM(px py a b c:Int)(D:List (PV×PV)):PX×List PV×List Row:=
 (.exit 0,tm 26 [(3,.ptr 0 1 0 0),(4,.ptr 1 1 0 0),(6,.Lx 30 (D.map (·.1)))],[pR px py,Sn a b c,DB k0 30 4 D,Dz (.mp 2) .some,Dt])
def fM:LS->DT (PX×List PV×List Row)
 |([.n _,.n _],[.i px,.i py,.i a,.i b,.i c,.m D,.n _,.l _ _])=>.leaf (xM px py a b c D)
 |_=>.no
theorem ni{D:List (PV×PV)}{vis:List (Nat×(PV×PV))}(hok:∀ x∈vis,OkE D x.1 x.2)(hp:(vis.map (·.1)).Perm (List.range D.length)):(vis.map Xl).Perm (D.map (·.1)):=by
 have h1:(vis.map Xl)=(vis.map (·.1)).map fun j=>(D.getD j (.any,.any)).1:=by
  rw[Cq];apply Bm
  intro x hx;show x.2.1=(D.getD x.1 (.any,.any)).1
  rw[Av,(hok x hx).1];rfl
 rw[h1];refine(hp.map _).trans ?_;have h2:(List.range D.length).map (fun j=>(D.getD j (.any,.any)).1)=D.map (·.1):=by
  apply Bf
  intro i;rw[An,An];by_cases hi:i<D.length
  ·rw[Be hi,Ae hi];simp[List.getD_eq_getElem?_getD,List.getElem?_eq_getElem hi]
  ·rw[AG (by simpa using hi),AG (by omega)];rfl
 rw[h2]
theorem wkM{px py a b c:Int}{D:List (PV×PV)}{vis:List (Nat×(PV×PV))}(hok:∀ x∈vis,OkE D x.1 x.2)(hp:(vis.map (·.1)).Perm (List.range D.length)):
  Wk Try.prog (sE vis.length) (hE px py a b c D .some vis.isEmpty (vis.map Xl)) (xM px py a b c D).2.1 (xM px py a b c D).2.2:=by
 have h1:Wk Try.prog (sE vis.length) (hE px py a b c D .some vis.isEmpty (vis.map Xl)) _ _:=Wk.drop 4 (show 4<=5 by decide) (by rfl) (by rfl);refine h1.trans ?_;have hsl:YD Try.prog (hE px py a b c D .some vis.isEmpty (vis.map Xl)) 4 (.sl 4 vis.length 0 vis.length)=.C9 false 30 (vis.map Xl):=by
  have hf:frz (hE px py a b c D .some vis.isEmpty (vis.map Xl)) 4 (.sl 4 vis.length 0 vis.length)=.C9 false 30 (vis.map Xl):=by
   show(if (So vis.isEmpty (vis.map Xl)).bv&&(So vis.isEmpty (vis.map Xl)).es.length==vis.length then PV.C9 false 30 (((vis.map Xl).drop 0).take vis.length) else _)=_
   rw[AP,AS,Bq,Ak rfl,AF,A7 (by rw[AP];exact Al _)]
  show(match mlt 4 (frz (hE px py a b c D .some vis.isEmpty (vis.map Xl)) 4 (.sl 4 vis.length 0 vis.length)) with |true=>frz (hE px py a b c D .some vis.isEmpty (vis.map Xl)) 4 (.sl 4 vis.length 0 vis.length) |false=>PV.any)=_
  rw[hf];rfl
 refine Wk.slot (by rw[AP];rfl) fun j p p' g1 g2 C V hv=>?_
 rw[An]at g1;by_cases h6:j=6
 ·subst h6;have e1:(sE vis.length)[6]? = some (.sl 4 vis.length 0 vis.length):=rfl;rw[e1,AE,hsl]at g1;cases g1;have e2:p'=.Lx 30 (D.map (·.1)):=(Ah g2).symm;rw[e2];exact .Lx (ni hok hp) hv
 ·match j,h6 with
  |3,_=>
   have e1:p=.ptr 0 1 0 0:=(Ah g1).symm;have e2:p'=.ptr 0 1 0 0:=(Ah g2).symm;rw[e2];rw[e1]at hv;exact hv
  |4,_=>
   have e1:p=.ptr 1 1 0 0:=(Ah g1).symm;have e2:p'=.ptr 1 1 0 0:=(Ah g2).symm;rw[e2];rw[e1]at hv;exact hv
  |0,_ |1,_ |2,_ |5,_ |7,_ |8,_ |9,_ |10,_ |11,_ |12,_ |13,_ |14,_ |15,_ |16,_ |17,_ |18,_ |19,_ |20,_ |21,_ |22,_ |23,_ |24,_ |25,_=>
   have e2:p'=.any:=(Ah g2).symm;rw[e2];exact .any
  |n+26,_=>cases g2
def zw:CY:=zs.Dl 23 3 [3,4,6,11] [false,true,false,false,false] shM pM fM
theorem bk:CG Try.prog zw.env:=by
 refine zt.pJ (n:=60) Try.func23 (show Try.f23.body=some (DY Try.f23) by kernel_rfl) (show(loops (DY Try.f23)).filter (fun b=>Ew b==3)=[Dg Try.f23 3] by kernel_rfl) uN [3,4,6,11] [3,4,6] [false,true,false,false,false] shM fun s r hp hr=>?_
 unfold pM at hp;split at hp
 ·rename_i n l px py a b c D N nl es;simp only[Aa,Ab,List.isEmpty_iff,Sp]at hp;obtain⟨⟨⟨⟨⟨⟨rfl,rfl⟩,rfl⟩,rfl⟩,rfl⟩,hl⟩,hk⟩:=hp;have hr':=(Ah hr).symm;subst hr';refine⟨by rw[ng],3,2,D.length,OkE D,zv px py a b c D,afA hk hl,rfl,rfl,fun vis hok hpm=>?_⟩;rw[iy,pV];exact wkM hok hpm
 ·cases hp
theorem NV{k v:PV}:∀{D:List (PV×PV)} {x:PV×PV},x∈EU D k v->x∈D\/x=(k,v)
 | [],x,h=>by simp only[EU,AI]at h;exact .inr h
 |(a,w)::D,x,h=>by
  unfold EU at h;cases hq:JN k a with
  |true=>
   rw[hq,Aj]at h;rcases AK.1 h with h |h
   ·exact .inr h
   ·exact .inl (AU _ h)
  |false=>
   rw[hq,Ar]at h;rcases AK.1 h with h |h
   ·exact .inl (h▸AJ ..)
   ·rcases NV h with h |h
    ·exact .inl (AU _ h)
    ·exact .inr h
theorem Sq{k v:PV}:∀{D:List (PV×PV)},(EU D k v).length<=D.length+1
 | []=>by simp[EU]
 |(a,w)::D=>by
  unfold EU;cases JN k a with
  |true=>simp
  |false=>have:=Sq (k:=k) (v:=v) (D:=D);simp only[Ar,As];omega
theorem NU.put{D:List (PV×PV)}(h:NU D)(x y z:Int)(v:PV):NU (EU D (DV x y z) v):=fun u hu=>by
 rcases NV hu with hu |rfl
 ·exact h u hu
 ·rfl
theorem Sr:∀{es:List PV} {D:List (PV×PV)},NU D->NU (G3 es D)/\(G3 es D).length<=D.length+2*es.length
 | [],D,h=>⟨h,by simp[G3]⟩
 |e::es,D,h=>by
  have h1:NU (D6 D e):=(h.put _ _ _ _).put _ _ _ _;have h2:(D6 D e).length<=D.length+2:=by
   unfold D6;have a:=Sq (k:=lq (wL e) (Mw e)) (v:=bv true) (D:=D);have b:=Sq (k:=pK (wL e) (Mw e)) (v:=bv true) (D:=EU D (lq (wL e) (Mw e)) (bv true));omega
  obtain⟨g1,g2⟩:=Sr (es:=es) h1;exact⟨g1,by show(G3 es (D6 D e)).length<=_;simp only[As];omega⟩
def Jz(ws:List PV):Bool:=ws.all fun e=>decide ((wL e).length<=100000)
theorem Ll{L:List PV}(h1:L.length≠0)(h2:L.length<=100000):P8 L=true:=by
 unfold P8 NS;rw[Dx (by omega) (by omega)];simp only[Aa,Am,AR,Ab];omega
theorem NW{fl:Bool}{ws:List PV}(h:Jz ws=true):((Df (Dc fl) ws).all fun e=>P8 (wL e))=true:=by
 rw[Ao];intro e he;unfold Df at he;rw[Bj]at he;have h1:=Ao.1 h e he.1;have h2:=he.2;simp only[Dc,Am,BK,AR]at h2;exact Ll (by omega) (AN h1)
abbrev Zr(ws:List PV):List PV:=(G3 (Df (Dc false) ws) []).map (·.1)
theorem uP(f:Bool)(ws:List PV)(px py:Int):DD Try.prog zw 60 23 [.C9 f 49 ws,F0 px py] =
 bif decide (ws.length<=1000)&&E1 Ev ws then
  bif pQ (pP false (Df (Dc false) ws) ((Df (Dc false) ws).length:Int) 0 px py 0 0 0 []) then
   bif pM ([.n 0,.n 0],[.i px,.i py,.i 0,.i 0,.i 0,.m (G3 ((Df (Dc false) ws).drop 0) []),.n (G3 ((Df (Dc false) ws).drop 0) []).length,.l true []]) then
    bif decide (((G3 ((Df (Dc false) ws).drop 0) []).map (·.1)).length<=10000) then
     some (To px py ((G3 ((Df (Dc false) ws).drop 0) []).map (·.1))) else none else none else none else none:=by kernel_rfl
theorem nj(f:Bool)(ws:List PV)(px py:Int)(h1:ws.length<=1000)(h2:Ed Ev ws)(h3:Jz ws=true):DD Try.prog zw 60 23 [.C9 f 49 ws,F0 px py]=some (To px py (Zr ws)):=by
 have hk:=ED (d:=Dc false) ws;obtain⟨k1,k2⟩:=Sr (es:=Df (Dc false) ws) (D:=[]) (fun x hx=>by cases hx);simp only[AB]at k2;rw[uP,Ac h1,Ea.2 h2,AF];have e1:pQ (pP false (Df (Dc false) ws) ((Df (Dc false) ws).length:Int) 0 px py 0 0 0 [])=true:=by
  simp only[pQ,Aa,Ab];exact⟨⟨⟨⟨trivial,by omega⟩,by omega⟩,by omega⟩,by rw[show(0:Int).toNat=0 from rfl,AF];exact NW h3⟩
 have e2:pM ([.n 0,.n 0],[.i px,.i py,.i 0,.i 0,.i 0,.m (G3 (Df (Dc false) ws) []),.n (G3 (Df (Dc false) ws) []).length,.l true []])=true:=by
  simp only[pM,Aa,Ab,Sp];exact⟨⟨⟨⟨⟨⟨trivial,trivial⟩,trivial⟩,trivial⟩,rfl⟩,by omega⟩,k1⟩
 rw[e1,e2,Ac (show((G3 (Df (Dc false) ws) []).map (·.1)).length<=10000 by rw[AP];omega)];rfl
theorem kE0:iz []=true:=Sp.2 (fun x hx=>by cases hx)
theorem bn(px py:Int):DD Try.prog zw 60 23 [.val (.slice none 0 0),F0 px py]=bif iz [] then some (To px py []) else none:=by kernel_rfl
def Zs:List PV->Option (DT PV)
 | [.C9 _ 49 ws,.agg [.val (.int .i64 px),.val (.int .i64 py)]]=>some (.br (decide (ws.length<=1000)&&E1 Ev ws&&Jz ws) (.leaf (To px py (Zr ws))) .no)
 | [.val (.slice none 0 0),.agg [.val (.int .i64 px),.val (.int .i64 py)]]=>some (.leaf (To px py []))
 |_=>none
theorem uQ:Hx.Dd Try.prog 23:=(Cy bk (n:=60) ((bn 0 0).trans (by rw[kE0];rfl))).1
theorem uR(args:List PV)(d:DT PV)(r:PV)(h:Zs args=some d)(hr:d.run=some r):Dr Try.prog 23 args r:=by
 unfold Zs at h;split at h
 ·rename_i f ws px py;cases h;obtain⟨h1,rfl⟩:=DN hr;simp only[Aa,Ab,Ea]at h1;exact(Cy bk (n:=60) (nj f ws px py h1.1.1 h1.1.2 h1.2)).2
 ·rename_i px py;cases h;cases hr;exact(Cy bk (n:=60) ((bn px py).trans (by rw[kE0];rfl))).2
 ·cases h
def zx:CY:=zw.DE 23 Zs
theorem zy:CG Try.prog zx.env:=bk.DE uQ uR
def VU(e:PV)(x y z:Int):Bool:=((gX e==x)&&((gY e==y)&&true))&&((gL e==z)&&true)
def DI(x y z:Int)(i:Int):List PV->Int
 | []=>-1
 |e::es=>bif VU e x y z then i else DI x y z (i+1) es
def eV:S1:=⟨19,[(0,.C9 30),(3,.ptr 0 1 0 0),(5,Dk)],[.one 30 3 aS]⟩
abbrev lF(f:Bool)(es:List PV)(i x y z:Int):LS:=([.l f es,.i i],[.i x,.i y,.i z])
abbrev xF0(x y z:Int):PX×List PV×List Row:=(.exit 0,tm 19 [],[Sn x y z])
abbrev xF1(i x y z:Int):PX×List PV×List Row:=(.ret,tm 19 [(4,iv i)],[Sn x y z])
theorem qF(f:Bool)(es:List PV)(i x y z:Int):Db Try.prog zx 60 41 (Dg Try.f41 2) [0,3,5] [4] (eV.put (lF f es i x y z)).1 (eV.put (lF f es i x y z)).2 =
 bif decide (i<(es.length:Int)) then bif decide (0<=i)&&decide (i<(es.length:Int)) then bif VU (es.getD i.toNat .any) x y z then some (xF1 i x y z) else some (.normal,eV.put (lF f es (W (i+1)) x y z)) else none else some (xF0 x y z):=by kernel_rfl
def eW:S1:=⟨19,[(0,.sl 0),(3,.ptr 1 1 0 0),(5,Dk)],[.many 30 3,.one 30 3 aS]⟩
abbrev lG(n l:Nat)(i:Int)(nl:Bool)(es:List PV)(x y z:Int):LS:=([.n n,.n l,.i i],[.l nl es,.i x,.i y,.i z])
abbrev xG0(nl:Bool)(es:List PV)(x y z:Int):PX×List PV×List Row:=(.exit 0,tm 19 [],[So nl es,Sn x y z])
abbrev xG1(i:Int)(nl:Bool)(es:List PV)(x y z:Int):PX×List PV×List Row:=(.ret,tm 19 [(4,iv i)],[So nl es,Sn x y z])
def pF:LS->Bool
 |([.l _ es,.i i],[.i _,.i _,.i _])=>decide (0<=i)&&decide (i<=(es.length:Int))&&decide (es.length<=10000)
 |_=>false
def fF:LS->DT (PX×List PV×List Row)
 |([.l _ es,.i i],[.i x,.i y,.i z])=>.br (DI x y z i (es.drop i.toNat) == -1) (.leaf (xF0 x y z)) (.leaf (xF1 (DI x y z i (es.drop i.toNat)) x y z))
 |_=>.no
def mF:LS->Nat
 |([.l _ es,.i i],_)=>((es.length:Int)-i).toNat
 |_=>0
theorem sF:∀ s r,pF s=true->(fF s).run=some r->r.1≠.normal/\(Db Try.prog zx 60 41 (Dg Try.f41 2) [0,3,5] [4] (eV.put s).1 (eV.put s).2=some r \/
   ∃ s',Db Try.prog zx 60 41 (Dg Try.f41 2) [0,3,5] [4] (eV.put s).1 (eV.put s).2=some (.normal,eV.put s')/\pF s'=true/\mF s'<mF s/\(fF s').run=some r):=by
 intro t r hp hr;unfold pF at hp;split at hp
 ·rename_i f es i x y z;simp only[Aa,Ab]at hp;obtain⟨⟨h2,h3⟩,h4⟩:=hp;have hr':=Hl hr;refine⟨by rw[hr'];cases DI x y z i (es.drop i.toNat) == -1 <;> simp,?_⟩;rw[show eV.put ([.l f es,.i i],[.i x,.i y,.i z])=eV.put (lF f es i x y z) from rfl,qF];by_cases hi:i<(es.length:Int)
  ·rw[Ac hi,Ac h2,Dx (by omega) (by omega)];rw[Ds h2 hi]at hr';simp only[DI]at hr';cases c1:VU (es.getD i.toNat .any) x y z with
   |true=>
    rw[c1,Aj,show(i == -1)=false by rw[AR];omega]at hr';exact .inl (by rw[hr'];rfl)
   |false=>
    rw[c1]at hr';refine .inr ⟨lF f es (i+1) x y z,rfl,by simp only[pF,Aa,Ab];exact⟨⟨by omega,by omega⟩,h4⟩,by simp only[mF];omega,?_⟩;rw[hr'];simp only[fF,Ar];cases DI x y z (i+1) (es.drop (i+1).toNat) == -1 <;> rfl
  ·rw[Ai hi];rw[AC (by omega)]at hr';exact .inl (by rw[hr'];rfl)
 ·cases hp
def zz:CY:=zx.Dl 41 2 [0,3,5] [] eV pF fF
theorem zA:CG Try.prog zz.env:=
 zy.Dl (n:=60) Try.func41 (show Try.f41.body=some (DY Try.f41) by kernel_rfl) (show(loops (DY Try.f41)).filter (fun b=>Ew b==2)=[Dg Try.f41 2] by kernel_rfl) [0,3,5] [4] [] eV mF sF
def pG:LS->Bool
 |([.n n,.n l,.i i],[.l _ es,.i _,.i _,.i _])=>decide (n=es.length)&&decide (l=es.length)&&decide (0<=i)&&decide (i<=(es.length:Int))&&decide (es.length<=10000)
 |_=>false
def fG:LS->DT (PX×List PV×List Row)
 |([.n _,.n _,.i i],[.l nl es,.i x,.i y,.i z])=>.br (DI x y z i (es.drop i.toNat) == -1) (.leaf (xG0 nl es x y z)) (.leaf (xG1 (DI x y z i (es.drop i.toNat)) nl es x y z))
 |_=>.no
def mG:LS->Nat
 |([.n _,.n _,.i i],[.l _ es,.i _,.i _,.i _])=>((es.length:Int)-i).toNat
 |_=>0
theorem QH(es:List PV)(i:Int):rE es i=es.getD i.toNat .any:=by unfold rE;rw[AM]
theorem qG'(n l:Nat)(i:Int)(nl:Bool)(es:List PV)(x y z:Int):Db Try.prog zz 60 41 (Dg Try.f41 2) [0,3,5] [4] (eW.put (lG n l i nl es x y z)).1 (eW.put (lG n l i nl es x y z)).2 =
 bif decide (i<(l:Int)) then Sa es n l i (HM es n (bif VU (rE es i) x y z then some (xG1 i nl es x y z) else some (.normal,eW.put (lG n l (W (i+1)) nl es x y z)))) else some (xG0 nl es x y z):=by kernel_rfl
theorem sG:∀ s r,pG s=true->(fG s).run=some r->r.1≠.normal/\(Db Try.prog zz 60 41 (Dg Try.f41 2) [0,3,5] [4] (eW.put s).1 (eW.put s).2=some r \/
   ∃ s',Db Try.prog zz 60 41 (Dg Try.f41 2) [0,3,5] [4] (eW.put s).1 (eW.put s).2=some (.normal,eW.put s')/\pG s'=true/\mG s'<mG s/\(fG s').run=some r):=by
 intro t r hp hr;unfold pG at hp;split at hp
 ·rename_i n l i nl es x y z;simp only[Aa,Ab]at hp;obtain⟨⟨⟨⟨rfl,rfl⟩,h2⟩,h3⟩,h4⟩:=hp;have hr':=Hl hr;refine⟨by rw[hr'];cases DI x y z i (es.drop i.toNat) == -1 <;> simp,?_⟩;rw[show eW.put ([.n es.length,.n es.length,.i i],[.l nl es,.i x,.i y,.i z])=eW.put (lG es.length es.length i nl es x y z) from rfl,qG'];by_cases hi:i<(es.length:Int)
  ·rw[Ac hi,Aj,FC rfl h2 hi,DJ rfl,QH,Dx (by omega) (by omega)];rw[Ds h2 hi]at hr';simp only[DI]at hr';cases c1:VU (es.getD i.toNat .any) x y z with
   |true=>
    rw[c1,Aj,show(i == -1)=false by rw[AR];omega]at hr';exact .inl (by rw[hr'];rfl)
   |false=>
    rw[c1]at hr';refine .inr ⟨lG es.length es.length (i+1) nl es x y z,rfl,by simp only[pG,Aa,Ab];exact⟨⟨⟨⟨trivial,trivial⟩,by omega⟩,by omega⟩,h4⟩,by simp only[mG];omega,?_⟩;rw[hr'];simp only[fG,Ar];cases DI x y z (i+1) (es.drop (i+1).toNat) == -1 <;> rfl
  ·rw[Ai hi];rw[AC (by omega)]at hr';exact .inl (by rw[hr'];rfl)
 ·cases hp
def zB:CY:=zz.Dl 41 2 [0,3,5] [] eW pG fG
theorem bo:CG Try.prog zB.env:=
 zA.Dl (n:=60) Try.func41 (show Try.f41.body=some (DY Try.f41) by kernel_rfl) (show(loops (DY Try.f41)).filter (fun b=>Ew b==2)=[Dg Try.f41 2] by kernel_rfl) [0,3,5] [4] [] eW mG sG
theorem zC(f:Bool)(es:List PV)(x y z:Int):DD Try.prog zB 60 41 [.C9 f 30 es,DV x y z] =
 bif pF (lF f es 0 x y z) then bif DI x y z 0 (es.drop (0:Int).toNat) == -1 then some (iv (-1)) else some (iv (DI x y z 0 (es.drop (0:Int).toNat))) else none:=by kernel_rfl
theorem pF0{f:Bool}{es:List PV}{x y z:Int}(h:es.length<=10000):pF (lF f es 0 x y z)=true:=by
 simp only[pF,Aa,Ab];exact⟨⟨by omega,by omega⟩,h⟩
theorem iA(f:Bool)(es:List PV)(x y z:Int)(h:es.length<=10000):DD Try.prog zB 60 41 [.C9 f 30 es,DV x y z]=some (iv (DI x y z 0 es)):=by
 rw[zC,pF0 h,show(0:Int).toNat=0 from rfl,AF];cases hq:DI x y z 0 es == -1 with
 |true=>rw[eq_of_beq hq];rfl
 |false=>rfl
def iB:List PV->Option (DT PV)
 | [.C9 _ 30 es,.agg [.val (.int .i64 x),.val (.int .i64 y),.val (.int .i64 z)]]=>some (.br (decide (es.length<=10000)) (.leaf (iv (DI x y z 0 es))) .no)
 |_=>none
theorem pZ:Hx.Dd Try.prog 41:=(Cy bo (n:=60) (iA false [] 0 0 0 (by simp))).1
theorem zD(args:List PV)(d:DT PV)(r:PV)(h:iB args=some d)(hr:d.run=some r):Dr Try.prog 41 args r:=by
 unfold iB at h;split at h
 ·rename_i f es x y z;cases h;obtain⟨h1,rfl⟩:=DN hr;exact(Cy bo (n:=60) (iA f es x y z (AN h1))).2
 ·cases h
theorem uS(n l:Nat)(nl:Bool)(es:List PV)(x y z:Int):Jx Try.prog zB 60 41 [.sl 0 n 0 l,DV x y z] [So nl es] =
 bif pG (lG n l 0 nl es x y z) then bif DI x y z 0 (es.drop (0:Int).toNat) == -1 then some (iv (-1),[So nl es]) else some (iv (DI x y z 0 (es.drop (0:Int).toNat)),[So nl es]) else none:=by kernel_rfl
def Zt:List PV->List Row->Option (DT (PV×List Row))
 | [.sl 0 n 0 l,.agg [.val (.int .i64 x),.val (.int .i64 y),.val (.int .i64 z)]],[⟨es,3,30,true,true,nl,none,false⟩]=>
  some (.br (decide (es.length<=10000)&&(decide (n=es.length)&&decide (l=es.length))) (.leaf (iv (DI x y z 0 es),[So nl es])) .no)
 |_,_=>none
theorem uT(args:List PV)(H:List Row)(d:DT (PV×List Row))(q:PV)(H':List Row)(h:Zt args H=some d)(hd:d.run=some (q,H')):Fa Try.prog 0 41 args H q H':=by
 unfold Zt at h;split at h
 ·rename_i n l x y z es nl;cases h;obtain⟨hc,he⟩:=FU hd;cases he;simp only[Aa,Ab]at hc;obtain⟨h1,rfl,rfl⟩:=hc;refine(DH bo ((uS es.length es.length nl es x y z).trans ?_)).2;have hp:pG (lG es.length es.length 0 nl es x y z)=true:=by
   simp only[pG,Aa,Ab];exact⟨⟨⟨⟨trivial,trivial⟩,by omega⟩,by omega⟩,h1⟩
  rw[hp,show(0:Int).toNat=0 from rfl,AF];cases hq:DI x y z 0 es == -1 with
  |true=>rw[eq_of_beq hq];rfl
  |false=>rfl
 ·cases h
def R20:CY:=(zB.DE 41 iB).E7 41 Zt
theorem iC:CG Try.prog R20.env:=(bo.DE pZ zD).E7 pZ uT
theorem nk(i:Int)(f:Bool)(L:List PV)(lv:Int)(cs nm:ByteArray)(st:Bool)(wt ds:Int):DD Try.prog R20 60 43 [Li i f L lv cs nm st wt ds] =
 bif (L.length:Int)==0 then some (.El [DV 0 0 0,DV 0 0 0]) else
  bif decide ((0:Int)<=0)&&decide ((0:Int)<(L.length:Int)) then bif decide (0<=NS L)&&decide (NS L<(L.length:Int)) then
   some (.El [lq L lv,pK L lv]) else none else none:=by kernel_rfl
theorem Xm(i:Int)(f:Bool)(L:List PV)(lv:Int)(cs nm:ByteArray)(st:Bool)(wt ds:Int)(h:P8 L=true):DD Try.prog R20 60 43 [Li i f L lv cs nm st wt ds]=some (.El [lq L lv,pK L lv]):=by
 unfold P8 at h;simp only[Aa,Am]at h;rw[nk,h.1,h.2.1.1,h.2.1.2,h.2.2.1,h.2.2.2];rfl
theorem np:Hx.Dd Try.prog 43:=(Cy iC (n:=60) (Xm 0 false [F0 0 0] 0 .empty .empty false 0 0 rfl)).1
theorem nq(args:List PV)(d:DT PV)(r:PV)(h:OH args=some d)(hr:d.run=some r):Dr Try.prog 43 args r:=by
 unfold OH at h;split at h
 ·rename_i i f L lv cs nm st wt ds;cases h;obtain⟨h1,rfl⟩:=DN hr;exact(Cy iC (n:=60) (Xm i f L lv cs nm st wt ds h1)).2
 ·cases h
def zE:CY:=(R20.DE 43 OH).F4 32 3 [(3,30,3)]
theorem zF:CG Try.prog zE.env:=(iC.DE np nq).F4 32 3 [(3,30,3)]
def Xn:S1:=⟨45,[(0,.C9 49),(3,.sl 0),(4,Dk)],[.many 30 3]⟩
abbrev lH(f:Bool)(ws:List PV)(n l:Nat)(i:Int)(nl:Bool)(es:List PV):LS:=([.l f ws,.n n,.n l,.i i],[.l nl es])
def fdK{α:Type}(n l:Nat)(es:List PV)(s:PV)(x y:Option α):Option α:=
 HM es n (bif decide (((es.drop 0).take l).length<=10000) then bif decide (DI (gX s) (gY s) (gL s) 0 ((es.drop 0).take l)<0) then x else y else none)
def apK{α:Type}(n l:Nat)(es:List PV)(k:Option α):Option α:=bif decide (es.length=n)&&decide (n=l)&&decide ((n+1)*24<=140737488355328) then k else none
abbrev eF(e:PV):PV:=lq (wL e) (Mw e)
abbrev eL(e:PV):PV:=pK (wL e) (Mw e)
def uU(f:Bool)(ws:List PV)(i:Int)(e:PV)(n l:Nat)(nl:Bool)(es:List PV):Option (PX×List PV×List Row):=
 fdK n l es (eL e) (apK n l es (some (.normal,Xn.put (lH f ws (n+1) (n+1) (W (i+1)) (nl&&false) (es++[eL e]))))) (some (.normal,Xn.put (lH f ws n l (W (i+1)) nl es)))
theorem qH(f:Bool)(ws:List PV)(n l:Nat)(i:Int)(nl:Bool)(es:List PV):Db Try.prog zE 60 32 (Dg Try.f32 3) [0,3,4] [3] (Xn.put (lH f ws n l i nl es)).1 (Xn.put (lH f ws n l i nl es)).2 =
 bif decide (i<(ws.length:Int)) then bif decide (0<=i)&&decide (i<(ws.length:Int)) then
  bif ((wL (ws.getD i.toNat .any)).length:Int)==0 then some (.normal,Xn.put (lH f ws n l (W (i+1)) nl es)) else
  bif decide (0<=i)&&decide (i<(ws.length:Int)) then bif P8 (wL (ws.getD i.toNat .any)) then
   fdK n l es (eF (ws.getD i.toNat .any)) (apK n l es (uU f ws i (ws.getD i.toNat .any) (n+1) (n+1) (nl&&false) (es++[eF (ws.getD i.toNat .any)]))) (uU f ws i (ws.getD i.toNat .any) n l nl es)
  else none else none else none else some (.exit 0,tm 45 [(3,.sl 0 n 0 l)],[So nl es]):=by kernel_rfl
def JA(es:List PV)(s:PV):List PV:=bif decide (DI (gX s) (gY s) (gL s) 0 es<0) then es++[s] else es
def Jc(es:List PV)(e:PV):List PV:=bif ((wL e).length:Int)==0 then es else JA (JA es (eF e)) (eL e)
def Eb(ws es:List PV):List PV:=ws.foldl Jc es
theorem Ss(es:List PV)(s:PV):es.length<=(JA es s).length/\(JA es s).length<=es.length+1:=by
 unfold JA;cases decide (DI (gX s) (gY s) (gL s) 0 es<0) <;> simp
theorem Xo(es:List PV)(e:PV):es.length<=(Jc es e).length/\(Jc es e).length<=es.length+2:=by
 unfold Jc;cases((wL e).length:Int)==0 with
 |true=>simp
 |false=>
  have h1:=Ss es (eF e);have h2:=Ss (JA es (eF e)) (eL e);simp only[Ar];omega
theorem iD{α:Type}{es:List PV}{s:PV}{x y:Option α}(h:es.length<=10000):fdK es.length es.length es s x y=bif decide (DI (gX s) (gY s) (gL s) 0 es<0) then x else y:=by
 unfold fdK;rw[DJ rfl,AF,A_,Ac h];rfl
theorem iE{α:Type}{es:List PV}{k:Option α}(h:es.length<=10000):apK es.length es.length es k=k:=by
 unfold apK;rw[show(decide (es.length=es.length)&&decide (es.length=es.length)&&decide ((es.length+1)*24<=140737488355328))=true by simp;omega];rfl
theorem uV{f:Bool}{ws:List PV}{i:Int}{e:PV}{nl:Bool}{es:List PV}(h:es.length<=9999)(hn:nl=es.isEmpty):
  uU f ws i e es.length es.length nl es=some (.normal,Xn.put (lH f ws (JA es (eL e)).length (JA es (eL e)).length (W (i+1)) (JA es (eL e)).isEmpty (JA es (eL e)))):=by
 unfold uU;rw[iD (by omega),iE (by omega)];unfold JA;cases decide (DI (gX (eL e)) (gY (eL e)) (gL (eL e)) 0 es<0) with
 |true=>simp only[Aj,BC,Ap,As,AB];rw[show(es++[eL e]).isEmpty=false by simp]
 |false=>simp only[Ar];rw[hn]
def pH:LS->Bool
 |([.l _ ws,.n n,.n l,.i i],[.l nl es])=>decide (n=es.length)&&decide (l=es.length)&&decide (0<=i)&&decide (i<=(ws.length:Int))&&decide (ws.length<=1000)&&decide ((es.length:Int)<=2*i)&&(nl==es.isEmpty)&&(ws.drop i.toNat).all fun e=>decide ((wL e).length<=100000)
 |_=>false
abbrev xH(es:List PV):PX×List PV×List Row:=(.exit 0,tm 45 [(3,.sl 0 es.length 0 es.length)],[So es.isEmpty es])
def fH:LS->DT (PX×List PV×List Row)
 |([.l _ ws,.n _,.n _,.i i],[.l _ es])=>.leaf (xH (Eb (ws.drop i.toNat) es))
 |_=>.no
def mH:LS->Nat
 |([.l _ ws,.n _,.n _,.i i],_)=>((ws.length:Int)-i).toNat
 |_=>0
theorem sH:∀ s r,pH s=true->(fH s).run=some r->r.1≠.normal/\(Db Try.prog zE 60 32 (Dg Try.f32 3) [0,3,4] [3] (Xn.put s).1 (Xn.put s).2=some r \/
   ∃ s',Db Try.prog zE 60 32 (Dg Try.f32 3) [0,3,4] [3] (Xn.put s).1 (Xn.put s).2=some (.normal,Xn.put s')/\pH s'=true/\mH s'<mH s/\(fH s').run=some r):=by
 intro t r hp hr;unfold pH at hp;split at hp
 ·rename_i f ws n l i nl es;simp only[Aa,Ab,Ay]at hp;obtain⟨⟨⟨⟨⟨⟨⟨rfl,rfl⟩,h2⟩,h3⟩,h4⟩,h5⟩,h6⟩,h7⟩:=hp;have hr':=(Ah hr).symm;refine⟨by rw[hr'];simp,?_⟩;rw[show Xn.put ([.l f ws,.n es.length,.n es.length,.i i],[.l nl es])=Xn.put (lH f ws es.length es.length i nl es) from rfl,qH];by_cases hi:i<(ws.length:Int)
  ·rw[Ds h2 hi,Cc,Aa]at h7;rw[Ac hi,Ac h2];simp only[Aj,Bg];rw[Ds h2 hi]at hr';have hl:=Xo es (ws.getD i.toNat .any);have go:∃ s',(some (PX.normal,Xn.put (lH f ws (Jc es (ws.getD i.toNat .any)).length (Jc es (ws.getD i.toNat .any)).length (W (i+1)) (Jc es (ws.getD i.toNat .any)).isEmpty (Jc es (ws.getD i.toNat .any)))):Option (PX×List PV×List Row))=some (.normal,Xn.put s')/\pH s'=true/\mH s'<mH (lH f ws es.length es.length i nl es)/\(fH s').run=some r:=by
    rw[Dx (by omega) (by omega)];refine⟨lH f ws (Jc es (ws.getD i.toNat .any)).length (Jc es (ws.getD i.toNat .any)).length (i+1) (Jc es (ws.getD i.toNat .any)).isEmpty (Jc es (ws.getD i.toNat .any)),rfl,by
     simp only[pH,Aa,Ab,Ay];exact⟨⟨⟨⟨⟨⟨⟨trivial,trivial⟩,by omega⟩,by omega⟩,h4⟩,by omega⟩,trivial⟩,h7.2⟩,by simp only[mH];omega,?_⟩
    rw[hr'];rfl
   obtain⟨s',g1,g2,g3,g4⟩:=go;refine .inr ⟨s',?_,g2,g3,g4⟩;rw[<- g1];cases c0:((wL (ws.getD i.toNat .any)).length:Int)==0 with
   |true=>simp only[Aj,Jc,c0,h6]
   |false=>
    have hst:=Ll (L:=wL (ws.getD i.toNat .any)) (by rw[AR]at c0;omega) (AN h7.1);rw[hst];simp only[Aj,Ar];have h1:=Ss es (eF (ws.getD i.toNat .any));rw[iD (by omega),iE (by omega)];simp only[Jc,c0,Ar];have e1:(bif decide (DI (gX (eF (ws.getD i.toNat .any))) (gY (eF (ws.getD i.toNat .any))) (gL (eF (ws.getD i.toNat .any))) 0 es<0) then uU f ws i (ws.getD i.toNat .any) (es.length+1) (es.length+1) (nl&&false) (es++[eF (ws.getD i.toNat .any)]) else uU f ws i (ws.getD i.toNat .any) es.length es.length nl es) =
      uU f ws i (ws.getD i.toNat .any) (JA es (eF (ws.getD i.toNat .any))).length (JA es (eF (ws.getD i.toNat .any))).length (JA es (eF (ws.getD i.toNat .any))).isEmpty (JA es (eF (ws.getD i.toNat .any))):=by
     unfold JA;cases decide (DI (gX (eF (ws.getD i.toNat .any))) (gY (eF (ws.getD i.toNat .any))) (gL (eF (ws.getD i.toNat .any))) 0 es<0) with
     |true=>simp only[Aj,BC,Ap,As,AB];rw[show(es++[eF (ws.getD i.toNat .any)]).isEmpty=false by simp]
     |false=>simp only[Ar];rw[h6]
    rw[e1,uV (by omega) rfl]
  ·rw[Ai hi];rw[AC (by omega)]at hr';exact .inl (by rw[hr',h6];rfl)
 ·cases hp
def zG:CY:=zE.Dl 32 3 [0,3,4] [] Xn pH fH
theorem bp:CG Try.prog zG.env:=
 zF.Dl (n:=60) Try.func32 (show Try.f32.body=some (DY Try.f32) by kernel_rfl) (show(loops (DY Try.f32)).filter (fun b=>Ew b==3)=[Dg Try.f32 3] by kernel_rfl) [0,3,4] [3] [] Xn mH sH
theorem qRS(f:Bool)(ws:List PV):DD Try.prog zG 60 32 [.C9 f 49 ws] =
 bif pH (lH f ws 0 0 0 true []) then HM (Eb (ws.drop 0) []) (Eb (ws.drop 0) []).length (some (.C9 false 30 (((Eb (ws.drop 0) []).drop 0).take (Eb (ws.drop 0) []).length))) else none:=by kernel_rfl
theorem zH:DD Try.prog zG 60 32 [.val (.slice none 0 0)]=some (.C9 false 30 []):=by kernel_rfl
theorem afB(f:Bool)(ws:List PV)(h1:ws.length<=1000)(h2:Jz ws=true):DD Try.prog zG 60 32 [.C9 f 49 ws]=some (.C9 false 30 (Eb ws [])):=by
 have hp:pH (lH f ws 0 0 0 true [])=true:=by
  simp only[pH,Aa,Ab,Ay];exact⟨⟨⟨⟨⟨⟨⟨rfl,rfl⟩,by omega⟩,by omega⟩,h1⟩,by simp⟩,rfl⟩,h2⟩
 rw[qRS,hp,AF,DJ rfl,AF,A_];rfl
def cRS:List PV->Option (DT PV)
 | [.C9 _ 49 ws]=>some (.br (decide (ws.length<=1000)&&Jz ws) (.leaf (.C9 false 30 (Eb ws []))) .no)
 | [.val (.slice none 0 0)]=>some (.leaf (.C9 false 30 []))
 |_=>none
theorem eRS:Hx.Dd Try.prog 32:=(Cy bp (n:=60) zH).1
theorem oRS(args:List PV)(d:DT PV)(r:PV)(h:cRS args=some d)(hr:d.run=some r):Dr Try.prog 32 args r:=by
 unfold cRS at h;split at h
 ·rename_i f ws;cases h;obtain⟨h1,rfl⟩:=DN hr;simp only[Aa,Ab]at h1;exact(Cy bp (n:=60) (afB f ws h1.1 h1.2)).2
 ·cases h;cases hr;exact(Cy bp (n:=60) zH).2
 ·cases h
def R23:CY:=zG.DE 32 cRS
theorem zI:CG Try.prog R23.env:=bp.DE eRS oRS
abbrev g0(es:List PV):PV:=es.getD (0:Int).toNat .any
theorem Su:∀(ws es:List PV),(Eb ws es).length<=es.length+2*ws.length
 | [],es=>by simp[Eb]
 |e::ws,es=>by
  have h1:=Xo es e;have h2:=Su ws (Jc es e);show(Eb ws (Jc es e)).length<=_
  simp only[As];omega
def cRE:List PV->Option (DT PV)
 | [.C9 _ 49 ws,.agg [.val (.int .i64 px),.val (.int .i64 py)]]=>some (.br (decide (ws.length<=1000)&&Jz ws) (.leaf (To px py (Eb ws []))) .no)
 |_=>none
theorem I3{e:PV}{x y z:Int}:VU e x y z=true ↔ DA e=(x,y,z):=by
 unfold VU;simp only[Bq,Aa,Ay,CM];constructor
 ·rintro⟨⟨a,b⟩,c⟩;exact⟨a,b,c⟩
 ·rintro⟨a,b,c⟩;exact⟨⟨a,b⟩,c⟩
theorem Gr{x y z:Int}:∀{es:List PV} {i:Int},0<=i->(DI x y z i es<0 ↔ (x,y,z)∉es.map DA)
 | [],i,h=>by simp[DI]
 |e::es,i,h=>by
  rw[DI,AV,AK];cases hq:VU e x y z with
  |true=>rw[I3]at hq;rw[Aj,hq];simp;omega
  |false=>
   rw[Cp,ne_eq,I3]at hq;rw[Ar,Gr (by omega)];simp only[not_or];exact⟨fun h=>⟨fun h'=>hq h'.symm,h⟩,fun h=>h.2⟩
theorem Xp{es:List PV}{s:PV}{t:T3}:t∈(JA es s).map DA ↔ t∈es.map DA\/t=DA s:=by
 unfold JA;cases hd:decide (DI (gX s) (gY s) (gL s) 0 es<0) with
 |true=>rw[Aj,Bz,A3];simp
 |false=>
  rw[AQ,Gr (by omega),C7]at hd;rw[Ar];exact⟨.inl,fun h=>h.elim id fun e=>e▸hd⟩
def EO(ws:List PV)(t:T3):Prop:=∃ e∈ws,(wL e).length≠0/\(t=DA (eF e)\/t=DA (eL e))
theorem Xq{t:T3}:∀{ws es:List PV},t∈(Eb ws es).map DA ↔ t∈es.map DA\/EO ws t
 | [],es=>by
  have:¬EO [] t:=fun⟨e,h,_⟩=>by cases h
  simp only[Eb,List.foldl_nil,this,Cu]
 |e::ws,es=>by
  show t∈(Eb ws (Jc es e)).map DA ↔ _
  rw[Xq];have h1:t∈(Jc es e).map DA ↔ t∈es.map DA\/((wL e).length≠0/\(t=DA (eF e)\/t=DA (eL e))):=by
   unfold Jc;cases h0:((wL e).length:Int)==0 with
   |true=>
    rw[Ay]at h0;have:(wL e).length=0:=by omega
    rw[Aj];simp[this]
   |false=>
    rw[AR]at h0;have:(wL e).length≠0:=by omega
    rw[Ar,Xp,Xp];constructor
    ·rintro ((h |h) |h)
     ·exact .inl h
     ·exact .inr ⟨this,.inl h⟩
     ·exact .inr ⟨this,.inr h⟩
    ·rintro (h |⟨_,h |h⟩)
     ·exact .inl (.inl h)
     ·exact .inl (.inr h)
     ·exact .inr h
  rw[h1];constructor
  ·rintro ((h |h) |⟨x,hx,h⟩)
   ·exact .inl h
   ·exact .inr ⟨e,AJ ..,h⟩
   ·exact .inr ⟨x,AU _ hx,h⟩
  ·rintro (h |⟨x,hx,h⟩)
   ·exact .inl (.inl h)
   ·rcases AK.1 hx with rfl |hx
    ·exact .inl (.inr h)
    ·exact .inr ⟨x,hx,h⟩
theorem QI{x y z a b c:Int}:JN (DV x y z) (DV a b c)=true ↔ x=a/\y=b/\z=c:=by
 show((x==a)&&((y==b)&&((z==c)&&true)))=true ↔ _
 simp only[Bq,Aa,Ay]
theorem Sv{x y z:Int}{v:PV}{t:T3}:∀{D:List (PV×PV)},NU D->(t∈(EU D (DV x y z) v).map (fun u=>DA u.1) ↔ t∈D.map (fun u=>DA u.1)\/t=(x,y,z))
 | [],_=>by simp only[EU,AV,Bs,AI,B8,Dw];rfl
 |(a,w)::D,h=>by
  have ha:a=pW a:=h (a,w) (AJ ..);unfold EU;cases hq:JN (DV x y z) a with
  |true=>
   rw[ha,QI]at hq;have:DA a=(x,y,z):=by simp only[CM];exact⟨hq.1.symm,hq.2.1.symm,hq.2.2.symm⟩
   rw[Aj,AV,AV,AK,AK];show t=(x,y,z)\/_ ↔ (t=DA a\/_)\/_
   rw[this];constructor
   ·rintro (h |h)
    ·exact .inr h
    ·exact .inl (.inr h)
   ·rintro ((h |h) |h)
    ·exact .inl h
    ·exact .inr h
    ·exact .inl h
  |false=>
   have ih:=Sv (x:=x) (y:=y) (z:=z) (v:=v) (t:=t) (D:=D) (fun u hu=>h u (AU _ hu));rw[Ar,AV,AV,AK,AK,ih];constructor
   ·rintro (h |h |h)
    ·exact .inl (.inl h)
    ·exact .inl (.inr h)
    ·exact .inr h
   ·rintro ((h |h) |h)
    ·exact .inl h
    ·exact .inr (.inl h)
    ·exact .inr (.inr h)
theorem Xr{t:T3}:∀{es:List PV} {D:List (PV×PV)},NU D->(t∈(G3 es D).map (fun u=>DA u.1) ↔ t∈D.map (fun u=>DA u.1)\/∃ e∈es,t=DA (eF e)\/t=DA (eL e))
 | [],D,_=>by simp[G3]
 |e::es,D,h=>by
  have h1:NU (EU D (lq (wL e) (Mw e)) (bv true)):=h.put _ _ _ _;show t∈(G3 es (D6 D e)).map (fun u=>DA u.1) ↔ _
  rw[Xr (show NU (D6 D e) from h1.put _ _ _ _)];unfold D6;rw[Sv h1,Sv h];constructor
  ·rintro (((h |h) |h) |⟨x,hx,h⟩)
   ·exact .inl h
   ·exact .inr ⟨e,AJ ..,.inl h⟩
   ·exact .inr ⟨e,AJ ..,.inr h⟩
   ·exact .inr ⟨x,AU _ hx,h⟩
  ·rintro (h |⟨x,hx,h⟩)
   ·exact .inl (.inl (.inl h))
   ·rcases AK.1 hx with rfl |hx
    ·rcases h with h |h
     ·exact .inl (.inl (.inr h))
     ·exact .inl (.inr h)
    ·exact .inr ⟨x,hx,h⟩
theorem Zu{ws:List PV}{t:T3}:t∈(Zr ws).map DA ↔ EO ws t:=by
 show t∈((G3 (Df (Dc false) ws) []).map (·.1)).map DA ↔ _
 rw[Cq];have:=Xr (t:=t) (es:=Df (Dc false) ws) (D:=[]) (fun x hx=>by cases hx);simp only[Bs,B8,Dw]at this;refine this.trans ?_;constructor
 ·rintro⟨e,he,h⟩
  unfold Df at he;rw[Bj]at he;have h2:=he.2;simp only[Dc,Am,BK,AR]at h2;exact⟨e,he.1,by omega,h⟩
 ·rintro⟨e,he,h0,h⟩
  refine⟨e,?_,h⟩;unfold Df;rw[Bj];refine⟨he,?_⟩;simp only[Dc,Cf,CL,Am,AR];omega
theorem Gs{ws:List PV}{t:T3}:t∈(Eb ws []).map DA ↔ EO ws t:=by
 rw[Xq];simp
def nr:List PV->Option (DT PV) | [.val (.int .i64 n),.val (.int .i64 m)]=>some (.br (decide (0<m)&&decide (m<=4611686018427387904)) (.leaf (iv (n % m))) .no) |_=>none
theorem afD(n m:Int):DD Try.prog {} 60 20 [iv n,iv m]=bif !decide (m=0) then (bif !decide (m=0) then some (iv (Int.tmod (W (Int.tmod n m+m)) m)) else none) else none:=by kernel_rfl
theorem iF{n m:Int}(h0:0<m)(h1:m<=4611686018427387904):Int.tmod (W (Int.tmod n m+m)) m=n % m:=by
 have hb:=Int.lt_tmod_of_pos n h0;have hb2:=Int.tmod_lt_of_pos n h0;rw[Dx (by omega) (by omega),Int.tmod_eq_emod_of_nonneg (by omega),Int.add_emod_right];rcases Int.le_total 0 n with hn |hn
 ·rw[Int.tmod_eq_emod_of_nonneg hn,Int.emod_emod]
 ·rw[Int.tmod_def,Int.sub_emod,Int.mul_emod_right];simp
theorem zJ:Hx.Dd Try.prog 20:=(Cy FK (n:=60) (args:=[iv 0,iv 1]) (p:=iv 0) (by kernel_rfl)).1
theorem zK(args:List PV)(d:DT PV)(r:PV)(h:nr args=some d)(hd:d.run=some r):Dr Try.prog 20 args r:=by
 unfold nr at h;split at h
 ·rename_i n m;cases h;obtain⟨hc,rfl⟩:=DN hd;simp only[Aa,Ab]at hc;refine(Cy FK (n:=60) ?_).2;rw[afD,show decide (m=0)=false by simp;omega,iF hc.1 hc.2];rfl
 ·cases h
def M6:CY:=M5.DE 20 nr
theorem uW:CG Try.prog M6.env:=afm.DE zJ zK
def dv(es:List PV)(k:Nat):Int:=((es.getD k .any).cellAt 0).DL
def dI(es:List PV)(a n:Int):Int:=if (es.length:Int)<=a then 0 else dv es a.toNat % n
def aI(es:List PV)(a:Int):Int:=if (es.length:Int)<=a then a else a+1
abbrev Ic(f:Bool)(es:List PV)(a:Int):Row:=r1 103 2 (.agg [.C9 f 3 es,iv a])
def E3(a n:Int):Bool:=decide (0<=a)&&decide (a<4611686018427387904)&&decide (0<n)&&decide (n<=4611686018427387904)
def fI(f:Bool)(es:List PV)(a:Int):Bool:=f&&decide ((es.length:Int)<=a)
def uX:List PV->List Row->Option (DT (PV×List Row))
 | [.ptr 0 1 0 0,.val (.int .i64 n)],[⟨[.agg [.C9 f 3 es,.val (.int .i64 a)]],2,103,true,true,false,none,false⟩]=>
  some (.br (E3 a n) (.leaf (iv (dI es a n),[Ic (fI f es a) es (aI es a)])) .no)
 |_,_=>none
theorem afF(es:List PV)(a:Int)(f:Bool)(n:Int):OA Try.prog M6 60 0 55 [.ptr 0 1 0 0,iv n] [Ic f es a] =
 bif decide (a ≥ ((es.length:Nat):Int)) then some (iv 0,[Ic f es a])
 else bif decide (0<=W (W (a+1)-1))&&decide (W (W (a+1)-1)<((es.length:Nat):Int)) then
  bif decide (0<n)&&decide (n<=4611686018427387904) then some (iv (dv es (W (W (a+1)-1)).toNat % n),[Ic false es (W (a+1))]) else none
 else none:=by kernel_rfl
theorem afG:Hx.Dd Try.prog 55:=(RE uW (n:=60) (ro:=0) (args:=[.ptr 0 1 0 0,iv 1]) (H:=[Ic true [] 0]) (p:=iv 0) (H':=[Ic true [] 0]) (by kernel_rfl)).1
theorem afH(args:List PV)(H:List Row)(d:DT (PV×List Row))(p:PV)(H':List Row)(h:uX args H=some d)(hd:d.run=some (p,H')):Fa Try.prog 0 55 args H p H':=by
 unfold uX at h;split at h
 ·rename_i n f es a;cases h;obtain⟨hc,he⟩:=FU hd;cases he;unfold E3 at hc;simp only[Aa,Ab]at hc;obtain⟨⟨⟨h0,h3⟩,h1⟩,h2⟩:=hc;refine(RE uW (n:=60) ?_).2;rw[afF];have hw1:W (a+1)=a+1:=Dx (by omega) (by omega);have hw:W (W (a+1)-1)=a:=by rw[hw1,Dx (by omega) (by omega)];omega
  unfold dI aI fI;by_cases hk:(es.length:Int)<=a
  ·have g1:decide (a ≥ ((es.length:Nat):Int))=true:=by simp;omega
   rw[g1,Ak hk,Ak hk,Bq];rfl
  ·have g1:decide (a ≥ ((es.length:Nat):Int))=false:=by simp;omega
   have g2:(decide (0<=a)&&decide (a<((es.length:Nat):Int)))=true:=by simp;omega
   rw[g1,hw,g2,hw1,Aq hk,Aq hk];simp only[BC,h1,h2,CT,Bq,Aj,Ar]
 ·cases h
def M7:CY:=M6.E7 55 uX
theorem IP:CG Try.prog M7.env:=uW.E7 afG afH
theorem I4(es:List PV)(k:Int){n:Int}(h:0<n):0<=dI es k n:=by unfold dI;split;exact BG _;exact Cm _ (by omega)
theorem IF(es:List PV)(k:Int){n:Int}(h:0<n):dI es k n<n:=by unfold dI;split;exact h;exact B9 _ h
theorem F7(es:List PV)(a:Int):a<=aI es a/\aI es a<=a+1:=by unfold aI;split <;> omega
def Yf(i j:Int):Int:=W (2*W (W (4*j)+i))
def T7(L:List PV)(i j:Int):Int:=W (W (40+W (100*i))+(bif decide (W (Yf i j+1)<(L.length:Int)) then W (((L.getD (Yf i j).toNat .any).cellAt 0).DL % 21-10) else 0))
def T8(L:List PV)(i j:Int):Int:=W (W (40+W (100*j))+(bif decide (W (Yf i j+1)<(L.length:Int)) then W (((L.getD (W (Yf i j+1)).toNat .any).cellAt 0).DL % 21-10) else 0))
theorem zL(f:Bool)(L:List PV)(i j:Int):DD Try.prog M7 60 73 [.C9 f 3 L,iv i,iv j] =
 bif decide (W (Yf i j+1)<(L.length:Int)) then bif decide (0<=Yf i j)&&decide (Yf i j<(L.length:Int)) then bif decide (0<=W (Yf i j+1))&&decide (W (Yf i j+1)<(L.length:Int)) then
  some (F0 (W (W (40+W (100*i))+W (((L.getD (Yf i j).toNat .any).cellAt 0).DL % 21-10))) (W (W (40+W (100*j))+W (((L.getD (W (Yf i j+1)).toNat .any).cellAt 0).DL % 21-10)))) else none else none
 else some (F0 (W (W (40+W (100*i))+0)) (W (W (40+W (100*j))+0))):=by kernel_rfl
theorem iG(i j:Int):DD Try.prog M7 60 73 [.val (.slice none 0 0),iv i,iv j] =
 bif decide (W (Yf i j+1)<0) then none else some (F0 (W (W (40+W (100*i))+0)) (W (W (40+W (100*j))+0))):=by kernel_rfl
def LZ(i j:Int):Bool:=decide (0<=i)&&decide (i<=10)&&decide (0<=j)&&decide (j<=10)
theorem iH{i j:Int}(h:LZ i j=true):Yf i j=2*(4*j+i)/\W (Yf i j+1)=2*(4*j+i)+1/\0<=2*(4*j+i):=by
 unfold LZ at h;simp only[Aa,Ab]at h;have h1:Yf i j=2*(4*j+i):=by
  unfold Yf;rw[Dx (n:=4*j) (by omega) (by omega),Dx (n:=4*j+i) (by omega) (by omega),Dx (by omega) (by omega)]
 exact⟨h1,by rw[h1,Dx (by omega) (by omega)],by omega⟩
def iI:List PV->Option (DT PV)
 | [.C9 _ 3 L,.val (.int .i64 i),.val (.int .i64 j)]=>some (.br (LZ i j) (.leaf (F0 (T7 L i j) (T8 L i j))) .no)
 | [.val (.slice none 0 0),.val (.int .i64 i),.val (.int .i64 j)]=>some (.br (LZ i j) (.leaf (F0 (T7 [] i j) (T8 [] i j))) .no)
 |_=>none
theorem zM:Hx.Dd Try.prog 73:=(Cy IP (n:=60) ((iG 0 0).trans (by rfl))).1
theorem zN(args:List PV)(d:DT PV)(r:PV)(h:iI args=some d)(hr:d.run=some r):Dr Try.prog 73 args r:=by
 unfold iI at h;split at h
 ·rename_i f L i j;cases h;obtain⟨h1,rfl⟩:=DN hr;refine(Cy IP (n:=60) ((zL f L i j).trans ?_)).2;obtain⟨k1,k2,k3⟩:=iH h1;unfold T7 T8;rw[k1,k2] at *;by_cases hl:2*(4*j+i)+1<(L.length:Int)
  ·rw[Ac hl,show(decide (0<=2*(4*j+i))&&decide (2*(4*j+i)<(L.length:Int)))=true by simp;omega,show(decide (0<=2*(4*j+i)+1)&&true)=true by simp;omega];rfl
  ·rw[Ai hl];rfl
 ·rename_i i j;cases h;obtain⟨h1,rfl⟩:=DN hr;refine(Cy IP (n:=60) ((iG i j).trans ?_)).2;obtain⟨k1,k2,k3⟩:=iH h1;unfold T7 T8;rw[k2] at *;rw[Ai (show ¬2*(4*j+i)+1<0 by omega),show decide (2*(4*j+i)+1<(([]:List PV).length:Int))=false by simp;omega];rfl
 ·cases h
def a1(L:List PV)(a:Int):Nat->Int
 |0=>a
 |n+1=>aI L (a1 L a n)
def f1(f:Bool)(L:List PV)(a:Int):Nat->Bool
 |0=>f
 |n+1=>fI (f1 f L a n) L (a1 L a n)
theorem Hu(L:List PV)(a:Int):∀ n:Nat,a<=a1 L a n/\a1 L a n<=a+n
 |0=>by simp[a1]
 |n+1=>by
  have h1:=Hu L a n;have h2:=F7 L (a1 L a n);simp only[a1];omega
theorem NX(L:List PV)(a:Int):∀ n:Nat,a1 L (aI L a) n=a1 L a (n+1)
 |0=>rfl
 |n+1=>by
  show aI L (a1 L (aI L a) n)=aI L (a1 L a (n+1))
  rw[NX L a n]
theorem QJ(f:Bool)(L:List PV)(a:Int):∀ n:Nat,f1 (fI f L a) L (aI L a) n=f1 f L a (n+1)
 |0=>rfl
 |n+1=>by
  show fI (f1 (fI f L a) L (aI L a) n) L (a1 L (aI L a) n)=fI (f1 f L a (n+1)) L (a1 L a (n+1))
  rw[QJ f L a n,NX]
def M8:CY:=(M7.DE 73 iI).J7 Try.prog 47
theorem afI:CG Try.prog M8.env:=(IP.DE zM zN).J7 47
abbrev aP:X1:=.agg [Dk,Dk]
def L7:S1:=⟨76,[(2,.ptr 0 1 0 0),(3,.ptr 1 1 0 0),(4,.ptr 2 1 0 0),(7,.sl 3),(8,Dk),(9,.ptr 4 1 0 0),(10,Dk)],[.one 103 2 (.agg [.C9 3,Dk]),.one 28 2 aP,.one 28 2 aP,.many 28 2,.one 28 2 aP]⟩
abbrev ns(n l:Nat)(many k:Int)(f:Bool)(L:List PV)(a x0 y0 x1 y1:Int)(nl:Bool)(es:List PV)(u0 u1:Int):LS:=([.n n,.n l,.i many,.i k],[.l f L,.i a,.i x0,.i y0,.i x1,.i y1,.l nl es,.i u0,.i u1])
abbrev xWg(n l:Nat)(f:Bool)(L:List PV)(a x0 y0 x1 y1:Int)(nl:Bool)(es:List PV)(u0 u1:Int):PX×List PV×List Row:=
 (.exit 0,tm 76 [(2,.ptr 0 1 0 0),(4,.ptr 2 1 0 0),(7,.sl 3 n 0 l)],(L7.put (ns n l 0 0 f L a x0 y0 x1 y1 nl es u0 u1)).2)
abbrev T9(x u many k:Int):Int:=W (x+W (Int.tdiv (W (u*k)) (W (many+1))))
abbrev wgB(many d:Int):Int:=W (Int.tdiv (W (d-10)) (W (1+W (Int.tdiv many 2))))
def Sw(es:List PV)(n l:Nat):Bool:=(es.length==n)&&(decide (l<=n)&&decide ((n+1)*16<=140737488355328))
theorem qWg(n l:Nat)(many k:Int)(f:Bool)(L:List PV)(a x0 y0 x1 y1:Int)(es:List PV)(u0 u1:Int):Db Try.prog M8 60 72 (Dg Try.f72 5) [2,3,4,7,8,9,10] [2,4,7] (L7.put (ns n l many k f L a x0 y0 x1 y1 false es u0 u1)).1 (L7.put (ns n l many k f L a x0 y0 x1 y1 false es u0 u1)).2 =
 bif decide (k<=many) then bif true && !decide (W (many+1)=0) then bif true && !decide (W (many+1)=0) then bif E3 a 21 then bif true && !decide (W (1+W (Int.tdiv many 2))=0) then
  bif decide (u0 > u1) then bif Sw es n l then
   some (.normal,L7.put (ns (max n (l+1)) (l+1) many (W (k+1)) (fI f L a) L (aI L a) x0 y0 x1 y1 false (es.take l++F0 (T9 x0 u0 many k) (W (T9 y0 u1 many k+wgB many (dI L a 21)))::es.drop (l+1)) u0 u1)) else none
  else bif Sw es n l then
   some (.normal,L7.put (ns (max n (l+1)) (l+1) many (W (k+1)) (fI f L a) L (aI L a) x0 y0 x1 y1 false (es.take l++F0 (W (T9 x0 u0 many k+wgB many (dI L a 21))) (T9 y0 u1 many k)::es.drop (l+1)) u0 u1)) else none
 else none else none else none else none else some (xWg n l f L a x0 y0 x1 y1 false es u0 u1):=by kernel_rfl
def wgP(x0 y0 u0 u1 many k d:Int):PV:=bif decide (u0 > u1) then F0 (T9 x0 u0 many k) (W (T9 y0 u1 many k+wgB many d)) else F0 (W (T9 x0 u0 many k+wgB many d)) (T9 y0 u1 many k)
def nt(x0 y0 u0 u1 many:Int)(L:List PV):Nat->Int->Int->List PV
 |0,_,_=>[]
 |m+1,k,a=>wgP x0 y0 u0 u1 many k (dI L a 21)::nt x0 y0 u0 u1 many L m (k+1) (aI L a)
theorem U3{x0 y0 u0 u1 many:Int}{L:List PV}:∀{m:Nat} {k a:Int},(nt x0 y0 u0 u1 many L m k a).length=m
 |0,_,_=>rfl
 |m+1,k,a=>by rw[nt,As,U3]
def nu:LS->Bool
 |([.n n,.n l,.i many,.i k],[.l _ _,.i a,.i _,.i _,.i _,.i _,.l nl es,.i _,.i _])=>decide (n=es.length)&&decide (l=es.length)&&decide (0<=many)&&decide (many<=3)&&decide (1<=k)&&decide (k<=many+1)&&decide (es.length<=1000+k.toNat)&&decide (0<=a)&&decide (a<=1000000000+k) && !nl
 |_=>false
def zO:LS->DT (PX×List PV×List Row)
 |([.n _,.n _,.i many,.i k],[.l f L,.i a,.i x0,.i y0,.i x1,.i y1,.l _ es,.i u0,.i u1])=>
  .leaf (xWg (es.length+(many+1-k).toNat) (es.length+(many+1-k).toNat) (f1 f L a (many+1-k).toNat) L (a1 L a (many+1-k).toNat) x0 y0 x1 y1 false (es++nt x0 y0 u0 u1 many L (many+1-k).toNat k a) u0 u1)
 |_=>.no
def xy:LS->Nat
 |([.n _,.n _,.i many,.i k],_)=>(many+1-k).toNat
 |_=>0
theorem sWg:∀ s r,nu s=true->(zO s).run=some r->r.1≠.normal/\(Db Try.prog M8 60 72 (Dg Try.f72 5) [2,3,4,7,8,9,10] [2,4,7] (L7.put s).1 (L7.put s).2=some r \/
   ∃ s',Db Try.prog M8 60 72 (Dg Try.f72 5) [2,3,4,7,8,9,10] [2,4,7] (L7.put s).1 (L7.put s).2=some (.normal,L7.put s')/\nu s'=true/\xy s'<xy s/\(zO s').run=some r):=by
 intro t r hp hr;unfold nu at hp;split at hp
 ·rename_i n l many k f L a x0 y0 x1 y1 nl es u0 u1;simp only[Aa,Ab,Am]at hp;obtain⟨⟨⟨⟨⟨⟨⟨⟨⟨rfl,rfl⟩,h2⟩,h3⟩,h4⟩,h5⟩,h6⟩,h7⟩,h8⟩,rfl⟩:=hp;have hr':=(Ah hr).symm;refine⟨by rw[hr'];simp,?_⟩;rw[show L7.put ([.n es.length,.n es.length,.i many,.i k],[.l f L,.i a,.i x0,.i y0,.i x1,.i y1,.l false es,.i u0,.i u1])=L7.put (ns es.length es.length many k f L a x0 y0 x1 y1 false es u0 u1) from rfl,qWg];by_cases hi:k<=many
  ·obtain⟨m,hm⟩:∃ m,(many+1-k).toNat=m+1:=⟨(many+1-k).toNat-1,by omega⟩;have hm2:(many+1-(k+1)).toNat=m:=by omega
   have hq:Int.tdiv many 2=0\/Int.tdiv many 2=1:=by
    have:many=0\/many=1\/many=2\/many=3:=by omega
    rcases this with rfl |rfl |rfl |rfl <;> decide
   have hw1:W (many+1)=many+1:=Dx (by omega) (by omega);have hw2:W (1+W (Int.tdiv many 2))=1+Int.tdiv many 2:=by rw[Dx (n:=Int.tdiv many 2) (by omega) (by omega),Dx (by omega) (by omega)]
   have hroom:Sw es es.length es.length=true:=by unfold Sw;simp;omega
   have hok:E3 a 21=true:=by unfold E3;simp;omega
   rw[Ac hi,hok,hroom,Dx (n:=k+1) (by omega) (by omega),show(!decide (W (many+1)=0))=true by rw[hw1];simp;omega,show(!decide (W (1+W (Int.tdiv many 2))=0))=true by rw[hw2];simp;omega];simp only[Bg,Aj];rw[A_,AC (by omega),show max es.length (es.length+1)=es.length+1 by omega];rw[hm]at hr';simp only[nt]at hr';have key:∀ p:PV,p=wgP x0 y0 u0 u1 many k (dI L a 21)->∃ s',some (PX.normal,L7.put (ns (es.length+1) (es.length+1) many (k+1) (fI f L a) L (aI L a) x0 y0 x1 y1 false (es++[p]) u0 u1))=some (PX.normal,L7.put s')/\nu s'=true /\
     xy s'<xy ([.n es.length,.n es.length,.i many,.i k],[.l f L,.i a,.i x0,.i y0,.i x1,.i y1,.l false es,.i u0,.i u1])/\(zO s').run=some r:=by
    rintro p rfl
    have ha:=F7 L a;refine⟨_,rfl,?_,by simp only[xy];omega,?_⟩
    ·simp only[nu,Aa,Ab,Am,Ap,As,AB];exact⟨⟨⟨⟨⟨⟨⟨⟨⟨trivial,trivial⟩,h2⟩,h3⟩,by omega⟩,by omega⟩,by omega⟩,by omega⟩,by omega⟩,trivial⟩
    ·rw[hr'];simp only[zO,hm2,DT.run,Ap,As,AB];rw[NX,QJ,Bu,show es.length+(0+1)+m=es.length+(m+1) by omega];rfl
   unfold wgP at key;cases hb:decide (u0 > u1) with
   |true=>rw[hb]at key;exact .inr (key _ rfl)
   |false=>rw[hb]at key;exact .inr (key _ rfl)
  ·rw[Ai hi];refine .inl ?_;rw[hr',show(many+1-k).toNat=0 by omega,BA];simp only[nt,BL];rfl
 ·cases hp
def M9:CY:=M8.Dl 72 5 [2,3,4,7,8,9,10] [true,true,true,false,true] L7 nu zO
theorem uY:CG Try.prog M9.env:=
 afI.Dl (n:=60) Try.func72 (show Try.f72.body=some (DY Try.f72) by kernel_rfl) (show(loops (DY Try.f72)).filter (fun b=>Ew b==5)=[Dg Try.f72 5] by kernel_rfl) [2,3,4,7,8,9,10] [2,4,7] [true,true,true,false,true] L7 xy sWg
abbrev L8(L:List PV)(a:Int):Nat:=(dI L a 4+1-1).toNat
abbrev iJ(x0 y0 x1 y1:Int)(L:List PV)(a:Int):List PV:=[F0 x0 y0]++nt x0 y0 (W (x1-x0)) (W (y1-y0)) (dI L a 4) L (L8 L a) 1 (aI L a)
theorem afK(x0 y0 x1 y1:Int)(f:Bool)(L:List PV)(a:Int):Jx Try.prog M9 60 72 [F0 x0 y0,F0 x1 y1,.ptr 0 1 0 0] [Ic f L a] =
 bif E3 a 4 then bif nu (ns 1 1 (dI L a 4) 1 (fI f L a) L (aI L a) x0 y0 x1 y1 false [F0 x0 y0] (W (x1-x0)) (W (y1-y0))) then
  bif Sw (iJ x0 y0 x1 y1 L a) (1+L8 L a) (1+L8 L a) then
  HM ((iJ x0 y0 x1 y1 L a).take (1+L8 L a)++F0 x1 y1::(iJ x0 y0 x1 y1 L a).drop (1+L8 L a+1)) (max (1+L8 L a) (1+L8 L a+1))
   (some (.C9 false 28 ((((iJ x0 y0 x1 y1 L a).take (1+L8 L a)++F0 x1 y1::(iJ x0 y0 x1 y1 L a).drop (1+L8 L a+1)).drop 0).take (1+L8 L a+1)),[Ic (f1 (fI f L a) L (aI L a) (L8 L a)) L (a1 L (aI L a) (L8 L a))]))
  else none else none else none:=by kernel_rfl
abbrev dX(x0 y0 x1 y1:Int)(L:List PV)(a:Int):List PV:=iJ x0 y0 x1 y1 L a++[F0 x1 y1]
theorem p9(x0 y0 x1 y1:Int)(f:Bool)(L:List PV)(a:Int)(h:0<=a)(h2:a<=1000000000):Jx Try.prog M9 60 72 [F0 x0 y0,F0 x1 y1,.ptr 0 1 0 0] [Ic f L a] =
  some (.C9 false 28 (dX x0 y0 x1 y1 L a),[Ic (f1 f L a (L8 L a+1)) L (a1 L a (L8 L a+1))]):=by
 have h3:=I4 L a (n:=4) (by omega);have h4:=IF L a (n:=4) (by omega);have ha:=F7 L a;have hok:E3 a 4=true:=by unfold E3;simp;omega
 have hp:nu (ns 1 1 (dI L a 4) 1 (fI f L a) L (aI L a) x0 y0 x1 y1 false [F0 x0 y0] (W (x1-x0)) (W (y1-y0)))=true:=by
  simp only[nu,Aa,Ab,Am,As,AB];exact⟨⟨⟨⟨⟨⟨⟨⟨⟨trivial,trivial⟩,by omega⟩,by omega⟩,by omega⟩,by omega⟩,by omega⟩,by omega⟩,by omega⟩,trivial⟩
 have hlen:(iJ x0 y0 x1 y1 L a).length=1+L8 L a:=by
  show(([F0 x0 y0]++nt x0 y0 (W (x1-x0)) (W (y1-y0)) (dI L a 4) L (L8 L a) 1 (aI L a)):List PV).length=_
  rw[Ap,U3];rfl
 have hN:L8 L a<=3:=by show(dI L a 4+1-1).toNat<=3;omega
 have hroom:Sw (iJ x0 y0 x1 y1 L a) (1+L8 L a) (1+L8 L a)=true:=by unfold Sw;rw[hlen];simp;omega
 rw[afK,hok,hp,hroom];simp only[Aj];rw[<- hlen,A_,AC (by omega),show max (iJ x0 y0 x1 y1 L a).length ((iJ x0 y0 x1 y1 L a).length+1)=(iJ x0 y0 x1 y1 L a).length+1 by omega,
  DJ (by rw[Ap];rfl),AF,A7 (by rw[Ap];simp),NX,QJ]
def uZ:List PV->List Row->Option (DT (PV×List Row))
 | [.agg [.val (.int .i64 x0),.val (.int .i64 y0)],.agg [.val (.int .i64 x1),.val (.int .i64 y1)],.ptr 0 1 0 0],[⟨[.agg [.C9 f 3 L,.val (.int .i64 a)]],2,103,true,true,false,none,false⟩]=>
  some (.br (decide (0<=a)&&decide (a<=1000000000)) (.leaf (.C9 false 28 (dX x0 y0 x1 y1 L a),[Ic (f1 f L a (L8 L a+1)) L (a1 L a (L8 L a+1))])) .no)
 |_,_=>none
theorem afL:Hx.Dd Try.prog 72:=(DH uY (p9 0 0 0 0 false [] 0 (by omega) (by omega))).1
theorem afM(args:List PV)(H:List Row)(d:DT (PV×List Row))(q:PV)(H':List Row)(h:uZ args H=some d)(hd:d.run=some (q,H')):Fa Try.prog 0 72 args H q H':=by
 unfold uZ at h;split at h
 ·rename_i x0 y0 x1 y1 f L a;cases h;obtain⟨hc,he⟩:=FU hd;cases he;simp only[Aa,Ab]at hc;exact(DH uY (p9 x0 y0 x1 y1 f L a hc.1 hc.2)).2
 ·cases h
def M10:CY:=M9.E7 72 uZ
theorem zP:CG Try.prog M10.env:=uY.E7 afL afM
end Go.Hr
namespace Go.Hr
open Go.Hx Go.Hg Go.Hn Go.Proofs Ieee
theorem iK(way:Toward)(n drop:Nat):way.cut false n drop<=n / (1 <<< min drop (n.log2+2))+1:=by
 unfold Toward.cut;have:∀ b:Bool,b.toNat<=1:=fun b=>by cases b <;> decide
 exact Nat.add_le_add_left (this _) _
theorem iL(n drop:Nat):Toward.zero.cut false n drop<=n:=by
 unfold Toward.cut;show n / _+0<=n
 rw[BA];exact Nat.div_le_self _ _
theorem U4(n:Nat):n<2 ^ (n.log2+1):=Nat.lt_log2_self
theorem dY{mag:Nat}{place last:Int}(h:place+mag.log2<=last+52):Toward.even.cut false (mag <<< (place-last).toNat) (last-place).toNat<=2 ^ 53:=by
 by_cases hp:last<=place
 ·refine Bc (iK _ _ _) ?_;have hd:(last-place).toNat=0:=by omega
  rw[hd,Nat.zero_min,CQ,Nat.div_one,Nat.shiftLeft_eq];have h1:=U4 mag;have h2:mag*2 ^ (place-last).toNat<2 ^ (mag.log2+1)*2 ^ (place-last).toNat:=Nat.mul_lt_mul_of_pos_right h1 (Nat.two_pow_pos _);rw[<- Nat.pow_add]at h2;have h3:2 ^ (mag.log2+1+(place-last).toNat)<=2 ^ 53:=CE (by omega) (by omega);exact AA h2 h3
 ·refine Bc (iK _ _ _) ?_;have hd:(place-last).toNat=0:=by omega
  rw[hd,CQ,Nat.shiftLeft_eq,BQ];have h1:=U4 mag;have:mag / 2 ^ min (last-place).toNat (mag.log2+2)<2 ^ 53:=by
   rw[CA (Nat.two_pow_pos _),<- Nat.pow_add];exact AA h1 (CE (by omega) (by omega))
  exact this
theorem zQ{a e B k:Nat}(h1:a<=e+1022)(h2:k<=2*B):a*B+k<=(e+1024)*B:=by
 have h3:a*B<=(e+1022)*B:=A1 _ h1;have h4:(e+1022)*B+2*B=(e+1024)*B:=by rw[<- Bb]
 omega
theorem Sx{mag:Nat}{place:Int}{e:Nat}(h:place+mag.log2<=e):double.nearest false mag place<=(e+1024)*double.binade:=by
 have hl:double.leastPlace = -1074:=by decide
 have hf:double.fractionBits=52:=rfl;have h53:(2:Nat) ^ 53=2*double.binade:=by decide
 unfold Format.nearest Format.word;by_cases h0:mag=0
 ·rw[Ak h0,Aq (by decide)];exact AT _
 rw[Aq h0,Aq (by decide),hl,hf];refine Bc (Nat.min_le_left _ _) ?_;generalize hlast:max (place+(mag.log2:Int)-(52:Nat)) (-1074)=last;have hk:=dY (mag:=mag) (place:=place) (last:=last) (by omega);rw[h53]at hk;generalize double.binade=B at *;exact zQ (by omega) hk
theorem bq{w K:Nat}(h:w<=K*double.binade)(hK:1<=K)(hK2:K<=1900):∃ m i,double.read w=.number false m i/\m<2 ^ 53/\i<=(K:Int)-1075:=by
 have hs:double.signWeight=2 ^ 63:=rfl;have hb:double.binade=2 ^ 52:=rfl;have hi:double.infRung=2047*2 ^ 52:=rfl;have hl:double.leastPlace = -1074:=by decide
 rw[hb]at h;have hw:w<2 ^ 63:=by omega
 unfold Format.read;dsimp only;rw[hs,hb,hi,hl,Nat.div_eq_of_lt hw,Nat.mod_eq_of_lt hw,show((0 % 2==1):Bool)=false from rfl];by_cases h1:w<2 ^ 52
 ·rw[Ak h1];exact⟨w,-1074,rfl,by omega,by omega⟩
 ·rw[Aq h1,Ak (by omega)];refine⟨_,_,rfl,?_,?_⟩
  ·have:=Nat.mod_lt w (show 0<2 ^ 52 by decide);omega
  ·have:w / 2 ^ 52<=K:=Nat.div_le_of_le_mul (by omega);omega
theorem Lm(n:Nat):∀(todo root:Nat),Datum.rootFrom n todo root<root+2 ^ todo
 |0,root=>by simp[Datum.rootFrom]
 |todo+1,root=>by
  unfold Datum.rootFrom;have h1:=Lm n todo (root+1 <<< todo);have h2:=Lm n todo root;rw[Nat.shiftLeft_eq,BQ]at h1 ⊢;have h3:2 ^ (todo+1)=2 ^ todo+2 ^ todo:=by rw[Nat.pow_succ];omega
  rw[h3];generalize 2 ^ todo=b at *;show Datum.rootFrom n todo (if (root+b)*(root+b)<=n then root+b else root)<root+(b+b)
  by_cases hc:(root+b)*(root+b)<=n
  ·rw[Ak hc];omega
  ·rw[Aq hc];omega
theorem QK{n k:Nat}(h:n<2 ^ (k+1)):n.log2<=k:=by
 by_cases h0:n=0
 ·subst h0;exact AT _
 ·have:=(Nat.log2_lt h0).2 h;omega
theorem nv{m:Nat}{i:Int}(hm:m<2 ^ 53)(hi:i<=11):∃ m2 i2,Datum.root 54 (.number false m i)=some (.number false m2 i2)/\(m2=0\/i2+(m2.log2:Int)<=40):=by
 unfold Datum.root;dsimp only;by_cases h0:m=0
 ·rw[Ak h0];exact⟨m,i,rfl,.inl h0⟩
 ·rw[Aq h0,Aq (by decide)];refine⟨_,_,rfl,.inr ?_⟩;have hl:m.log2<=52:=QK hm;generalize hmore:2*54-m.log2+((i-((2*54-m.log2:Nat):Int)) % 2).toNat=more;generalize hN:m <<< more=N;have hNl:N.log2<=m.log2+more:=by
   apply QK
   rw[<- hN,Nat.shiftLeft_eq];have h1:=Nat.mul_lt_mul_of_pos_right (U4 m) (Nat.two_pow_pos more);rw[<- Nat.pow_add]at h1;exact AA h1 (CE (by omega) (by omega))
  have hw:=Lm N (N.log2 / 2+1) 0;rw[AM]at hw;generalize Datum.rootFrom N (N.log2 / 2+1) 0=w at *;have hb:(w*w != N).toNat<=1:=by cases(w*w != N) <;> decide
  generalize (w*w != N).toNat=b at *;have h2:(2*w+b).log2<=N.log2 / 2+1:=by
   apply QK
   rw[show N.log2 / 2+1+1=(N.log2 / 2+1)+1 from rfl,Nat.pow_succ];omega
  omega
theorem dZ{m:Nat}{i:Int}(hm:m<2 ^ 53)(hi:i<=0):∃ t:Int,(Datum.number false m i).toInt .zero=some t/\0<=t/\t<2 ^ 53:=by
 have hz:i.toNat=0:=by omega
 refine⟨_,rfl,?_⟩;show 0<=signed false (Toward.zero.cut false (m <<< i.toNat) (-i).toNat) 0/\signed false (Toward.zero.cut false (m <<< i.toNat) (-i).toNat) 0<2 ^ 53
 rw[hz,CQ];have:=iL m (-i).toNat;generalize Toward.zero.cut false m (-i).toNat=c at *;unfold signed;rw[Aq (by decide),CQ];omega
theorem iM{n:Int}(h1:0<=n)(h2:n<9223372036854775808):∃ r,FloatKind.f64.format.sqrt (FloatKind.f64.nearest n)=some r/\∃ t:Int,(FloatKind.f64.decode r).toInt .zero=some t/\0<=t/\t<2 ^ 53:=by
 have e1:FloatKind.f64.nearest n=double.nearest false n.natAbs 0:=by
  show double.nearest (decide (n<0)) n.natAbs 0=_
  rw[Ai (by omega)]
 have hn:n.natAbs.log2<=62:=QK (by omega);obtain⟨m,i,g1,g2,g3⟩:=bq (Sx (mag:=n.natAbs) (place:=0) (e:=62) (by omega)) (by decide) (by decide);obtain⟨m2,i2,g4,g5⟩:=nv g2 (show i<=11 by omega);have e2:double.nearest false m2 i2<=(40+1024)*double.binade:=by
  rcases g5 with g5 |g5
  ·subst g5;unfold Format.nearest Format.word;rw[Ak rfl,Aq (by decide)];exact AT _
  ·exact Sx g5
 obtain⟨m3,i3,g6,g7,g8⟩:=bq e2 (by decide) (by decide);refine⟨double.nearest false m2 i2,?_,?_⟩
 ·show((double.read (FloatKind.f64.nearest n)).root 54).map double.write=_
  rw[e1,g1,g4];rfl
 ·show ∃ t:Int,(double.read (double.nearest false m2 i2)).toInt .zero=some t/\_
  rw[g6];exact dZ g7 (by omega)
def zR:CY:=R23.RQ Try.prog
theorem zS:CG Try.prog zR.env:=zI.RQ
abbrev sqF(n:Int):Nat:=(FloatKind.f64.format.sqrt (FloatKind.f64.nearest n)).getD 0
abbrev xz(n:Int):Option Int:=(FloatKind.f64.decode (sqF n)).toInt .zero
def Td:S1:=⟨32,[(0,Dk),(3,Dk)],[]⟩
theorem qE1(n s:Int):Db Try.prog zR 60 65 (Dg Try.f65 4) [0,3] [0,3] (Td.put ([.i n,.i s],[])).1 (Td.put ([.i n,.i s],[])).2 =
 bif decide (W (s*s) > n) then some (.normal,Td.put ([.i n,.i (W (s-1))],[])) else some (.exit 0,Td.put ([.i n,.i s],[])):=by kernel_rfl
def u3(n s:Int):Prop:=0<=s/\s<=3037000499/\(s=0\/s*s<=n)/\(s=3037000499\/n<(s+1)*(s+1))
theorem qa{a b:Int}(h0:0<=a)(h:a<b):(a+1)*(a+1)<=b*b:=Int.mul_le_mul (by omega) (by omega) (by omega) (by omega)
theorem u3.uniq{n s t:Int}(h:u3 n s)(k:u3 n t):s=t:=by
 obtain⟨h1,h2,h3,h4⟩:=h;obtain⟨k1,k2,k3,k4⟩:=k;by_cases a:s<t
 ·have:=qa h1 a;omega
 ·by_cases b:t<s
  ·have:=qa k1 b;omega
  ·omega
def iN(n:Int):Nat->Int->Int
 |0,s=>s
 |k+1,s=>iN n k (bif decide (s+2 ^ k<=3037000499)&&decide ((s+2 ^ k)*(s+2 ^ k)<=n) then s+2 ^ k else s)
def U5(n:Int):Int:=iN n 32 0
theorem Zv{n:Int}:∀{k:Nat} {s:Int},0<=s->s<=3037000499->(s=0\/s*s<=n)->(3037000499<s+2 ^ k\/n<(s+2 ^ k)*(s+2 ^ k))->u3 n (iN n k s)
 |0,s,h0,h1,h2,h3=>by
  refine⟨h0,h1,h2,?_⟩;rw[Int.pow_zero]at h3;rcases h3 with h3 |h3
  ·left;show s=_;omega
  ·exact .inr h3
 |k+1,s,h0,h1,h2,h3=>by
  have hp:(0:Int)<2 ^ k:=Int.pow_pos (by decide);have he:(2:Int) ^ (k+1)=2 ^ k+2 ^ k:=by rw[Int.pow_succ];omega
  rw[he]at h3;rw[iN];cases hc:decide (s+2 ^ k<=3037000499)&&decide ((s+2 ^ k)*(s+2 ^ k)<=n) with
  |true=>
   simp only[Aa,Ab]at hc;rw[Aj];refine Zv (by omega) hc.1 (.inr hc.2) ?_;rw[Int.add_assoc];exact h3
  |false=>
   rw[Bool.and_eq_false_iff,AQ,AQ]at hc;rw[Ar];exact Zv h0 h1 h2 (by omega)
theorem Sy(n:Int)(_:n<9223372036854775808):u3 n (U5 n):=Zv (BG _) (by decide) (.inl rfl) (.inl (by decide))
theorem nw{a b:Int}(h0:0<=a)(h:a<=b):a*a<=b*b:=Int.mul_le_mul h h (by omega) (by omega)
theorem Zw{a:Int}(h0:0<=a)(h:a<=3037000499):W (a*a)=a*a:=by
 have h1:=Int.mul_nonneg h0 h0;have h2:=nw h0 h;exact Dx (by omega) (by omega)
abbrev lr(n s:Int):Int:=bif decide (s*s > n) then U5 n else s
def qb:LS->Bool
 |([.i n,.i s],[])=>decide (1<=n)&&decide (n<9223372036854775808)&&decide (0<=s)&&decide (s<=3037000499)
 |_=>false
def fE1:LS->DT (PX×List PV×List Row)
 |([.i n,.i s],[])=>.leaf (.exit 0,Td.put ([.i n,.i (lr n s)],[]))
 |_=>.no
def mE1:LS->Nat
 |([.i _,.i s],[])=>s.toNat
 |_=>0
theorem sE1:∀ s r,qb s=true->(fE1 s).run=some r->r.1≠.normal/\(Db Try.prog zR 60 65 (Dg Try.f65 4) [0,3] [0,3] (Td.put s).1 (Td.put s).2=some r \/
   ∃ s',Db Try.prog zR 60 65 (Dg Try.f65 4) [0,3] [0,3] (Td.put s).1 (Td.put s).2=some (.normal,Td.put s')/\qb s'=true/\mE1 s'<mE1 s/\(fE1 s').run=some r):=by
 intro t r hp hr;unfold qb at hp;split at hp
 ·rename_i n s;simp only[Aa,Ab]at hp;obtain⟨⟨⟨h1,h2⟩,h3⟩,h4⟩:=hp;have hr':=(Ah hr).symm;refine⟨by rw[hr'];simp,?_⟩;rw[qE1,Zw h3 h4];by_cases hs:s*s > n
  ·have hs0:s≠0:=fun e=>by rw[e]at hs;omega
   rw[Ac hs,Dx (n:=s-1) (by omega) (by omega)];refine .inr ⟨([.i n,.i (s-1)],[]),rfl,by simp only[qb,Aa,Ab];exact⟨⟨⟨h1,h2⟩,by omega⟩,by omega⟩,by simp only[mE1];omega,?_⟩;rw[hr'];have e1:lr n s=U5 n:=by unfold lr;rw[Ac hs,Aj]
   have e2:lr n (s-1)=U5 n:=by
    unfold lr;by_cases hs2:(s-1)*(s-1) > n
    ·rw[Ac hs2,Aj]
    ·rw[Ai hs2,Ar];exact u3.uniq ⟨by omega,by omega,.inr (by omega),.inr (by rw[show s-1+1=s by omega];exact hs)⟩ (Sy n h2)
   simp only[fE1,e1,e2];rfl
  ·rw[Ai hs];refine .inl ?_;rw[hr'];have e1:lr n s=s:=by unfold lr;rw[Ai hs,Ar]
   simp only[e1];rfl
 ·cases hp
def zT:CY:=zR.Dl 65 4 [0,3] [] Td qb fE1
theorem zU:CG Try.prog zT.env:=
 zS.Dl (n:=60) Try.func65 (show Try.f65.body=some (DY Try.f65) by kernel_rfl) (show(loops (DY Try.f65)).filter (fun b=>Ew b==4)=[Dg Try.f65 4] by kernel_rfl) [0,3] [0,3] [] Td mE1 sE1
theorem qE2'(n s:Int):Db Try.prog zT 60 65 (Dg Try.f65 6) [0,3] [3] (Td.put ([.i n,.i s],[])).1 (Td.put ([.i n,.i s],[])).2 =
 bif decide (s<3037000499) then bif decide (W (W (s+1)*W (s+1))<=n) then some (.normal,Td.put ([.i n,.i (W (s+1))],[])) else some (.exit 2,tm 32 [(3,iv s)],[]) else some (.exit 2,tm 32 [(3,iv s)],[]):=by kernel_rfl
def qc:LS->Bool
 |([.i n,.i s],[])=>decide (1<=n)&&decide (n<9223372036854775808)&&decide (0<=s)&&decide (s<=3037000499)&&decide (s*s<=n)
 |_=>false
def fE2:LS->DT (PX×List PV×List Row)
 |([.i n,.i _],[])=>.leaf (.exit 2,tm 32 [(3,iv (U5 n))],[])
 |_=>.no
def mE2:LS->Nat
 |([.i _,.i s],[])=>(3037000499-s).toNat
 |_=>0
theorem sE2:∀ s r,qc s=true->(fE2 s).run=some r->r.1≠.normal/\(Db Try.prog zT 60 65 (Dg Try.f65 6) [0,3] [3] (Td.put s).1 (Td.put s).2=some r \/
   ∃ s',Db Try.prog zT 60 65 (Dg Try.f65 6) [0,3] [3] (Td.put s).1 (Td.put s).2=some (.normal,Td.put s')/\qc s'=true/\mE2 s'<mE2 s/\(fE2 s').run=some r):=by
 intro t r hp hr;unfold qc at hp;split at hp
 ·rename_i n s;simp only[Aa,Ab]at hp;obtain⟨⟨⟨⟨h1,h2⟩,h3⟩,h4⟩,h5⟩:=hp;have hr':=(Ah hr).symm;refine⟨by rw[hr'];simp,?_⟩;rw[qE2'];have fin:u3 n s->(some (PX.exit 2,tm 32 [(3,iv s)],[]):Option (PX×List PV×List Row))=some r:=fun h=>by rw[hr',h.uniq (Sy n h2)]
  by_cases hs:s<3037000499
  ·rw[Ac hs,Dx (n:=s+1) (by omega) (by omega),Zw (a:=s+1) (by omega) (by omega)];by_cases hn:(s+1)*(s+1)<=n
   ·rw[Ac hn];exact .inr ⟨([.i n,.i (s+1)],[]),rfl,by simp only[qc,Aa,Ab];exact⟨⟨⟨⟨h1,h2⟩,by omega⟩,by omega⟩,hn⟩,by simp only[mE2];omega,by rw[hr'];rfl⟩
   ·rw[Ai hn];exact .inl (fin ⟨h3,h4,.inr h5,.inr (by omega)⟩)
  ·rw[Ai hs];exact .inl (fin ⟨h3,h4,.inr h5,.inl (by omega)⟩)
 ·cases hp
def R29:CY:=zT.Dl 65 6 [0,3] [] Td qc fE2
theorem iO:CG Try.prog R29.env:=
 zU.Dl (n:=60) Try.func65 (show Try.f65.body=some (DY Try.f65) by kernel_rfl) (show(loops (DY Try.f65)).filter (fun b=>Ew b==6)=[Dg Try.f65 6] by kernel_rfl) [0,3] [3] [] Td mE2 sE2
def lu(n:Int):Int:=if 3037000499<(xz n).getD 0 then 3037000499 else (xz n).getD 0
theorem qSq(n:Int):DD Try.prog R29 60 65 [iv n]=bif decide (n<=0) then some (iv 0) else
 bif (FloatKind.f64.format.sqrt (FloatKind.f64.nearest n)).isSome then bif (xz n).isSome&&(decide (IntKind.i64.min<=(xz n).getD 0)&&decide ((xz n).getD 0<=IntKind.i64.max)) then
  bif qb ([.i n,.i (lu n)],[]) then bif qc ([.i n,.i (lr n (lu n))],[]) then some (iv (U5 n)) else none else none else none else none:=by kernel_rfl
theorem ny{n:Int}(h:n<=0):U5 n=0:=by
 have h1:=Sy n (by omega);refine h1.uniq ⟨BG _,by decide,.inl rfl,.inr (by omega)⟩
theorem zV(n:Int)(h:n<9223372036854775808):DD Try.prog R29 60 65 [iv n]=some (iv (U5 n)):=by
 rw[qSq];by_cases h0:n<=0
 ·rw[Ac h0,ny h0];rfl
 ·rw[Ai h0];obtain⟨x,h1,t,h2,h3,h4⟩:=iM (n:=n) (by omega) h;have e1:xz n=some t:=by
   show(FloatKind.f64.decode ((FloatKind.f64.format.sqrt (FloatKind.f64.nearest n)).getD 0)).toInt .zero=some t
   rw[h1];exact h2
  have hm:lu n=if 3037000499<t then 3037000499 else t:=by unfold lu;rw[e1];rfl
  have b1:0<=lu n:=by rw[hm];split <;> omega
  have b2:lu n<=3037000499:=by rw[hm];split <;> omega
  rw[h1,e1,show(some x).isSome=true from rfl,show(some t).isSome=true from rfl,Bx,
   Ac (show IntKind.i64.min<=t by show(-9223372036854775808:Int)<=t;omega),Ac (show t<=IntKind.i64.max by show t<=(9223372036854775807:Int);omega)]
  have p1:qb ([.i n,.i (lu n)],[])=true:=by simp only[qb,Aa,Ab];exact⟨⟨⟨by omega,h⟩,b1⟩,b2⟩
  have p2:qc ([.i n,.i (lr n (lu n))],[])=true:=by
   simp only[qc,Aa,Ab];unfold lr;by_cases hs:lu n*lu n > n
   ·rw[Ac hs,Aj];obtain⟨g1,g2,g3,g4⟩:=Sy n h;refine⟨⟨⟨⟨by omega,h⟩,g1⟩,g2⟩,?_⟩;rcases g3 with g3 |g3
    ·rw[g3];omega
    ·exact g3
   ·rw[Ai hs,Ar];exact⟨⟨⟨⟨by omega,h⟩,b1⟩,b2⟩,by omega⟩
  rw[p1,p2];rfl
def cSq:List PV->Option (DT PV)
 | [.val (.int .i64 n)]=>some (.br (decide (n<9223372036854775808)) (.leaf (iv (U5 n))) .no)
 |_=>none
theorem eSq:Hx.Dd Try.prog 65:=(Cy iO (n:=60) (zV 0 (by decide))).1
theorem oSq(args:List PV)(d:DT PV)(r:PV)(h:cSq args=some d)(hr:d.run=some r):Dr Try.prog 65 args r:=by
 unfold cSq at h;split at h
 ·rename_i n;cases h;obtain⟨h1,rfl⟩:=DN hr;exact(Cy iO (n:=60) (zV n (AN h1))).2
 ·cases h
def xA:CY:=R29.DE 65 cSq
theorem qd:CG Try.prog xA.env:=iO.DE eSq oSq
def bt:S1:=⟨25,[(0,Dk),(3,Dk),(4,Dk)],[]⟩
abbrev xB(o b:Int):Int:=W (o+W (1*2 ^ min b.toNat IntKind.i64.bits))
theorem qB(n o b:Int):Db Try.prog xA 60 66 (Dg Try.f66 3) [0,3,4] [3] (bt.put ([.i n,.i o,.i b],[])).1 (bt.put ([.i n,.i o,.i b],[])).2 =
 bif decide (b ≥ 0) then bif !decide (b<0) then bif decide (xB o b<=3037000499) then bif decide (W (xB o b*xB o b)<=n) then some (.normal,bt.put ([.i n,.i (xB o b),.i (W (b-1))],[]))
  else some (.normal,bt.put ([.i n,.i o,.i (W (b-1))],[])) else some (.normal,bt.put ([.i n,.i o,.i (W (b-1))],[])) else none else some (.exit 0,tm 25 [(3,iv o)],[]):=by kernel_rfl
def pB:LS->Bool
 |([.i _,.i o,.i b],[])=>decide (-1<=b)&&decide (b<=31)&&decide (0<=o)&&decide (o<=3037000499)
 |_=>false
def fB:LS->DT (PX×List PV×List Row)
 |([.i n,.i o,.i b],[])=>.leaf (.exit 0,tm 25 [(3,iv (iN n (b+1).toNat o))],[])
 |_=>.no
def mB:LS->Nat
 |([.i _,.i _,.i b],[])=>(b+1).toNat
 |_=>0
theorem Xt{b:Int}(h0:0<=b)(h:b<=31):(0:Int)<2 ^ b.toNat/\(2:Int) ^ b.toNat<=2147483648:=by
 refine⟨Int.pow_pos (by decide),?_⟩;have:(2:Nat) ^ b.toNat<=2 ^ 31:=CE (by decide) (by omega);have h2:((2 ^ b.toNat:Nat):Int)=(2:Int) ^ b.toNat:=by rw[Int.natCast_pow];rfl
 omega
theorem u4{o b:Int}(h0:0<=b)(h:b<=31)(h1:0<=o)(h2:o<=3037000499):xB o b=o+2 ^ b.toNat:=by
 obtain⟨p1,p2⟩:=Xt h0 h;unfold xB;rw[show min b.toNat IntKind.i64.bits=b.toNat by show min b.toNat 64=_;omega,Int.one_mul,Dx (n:=2 ^ b.toNat) (by omega) (by omega),Dx (by omega) (by omega)]
theorem sB:∀ s r,pB s=true->(fB s).run=some r->r.1≠.normal/\(Db Try.prog xA 60 66 (Dg Try.f66 3) [0,3,4] [3] (bt.put s).1 (bt.put s).2=some r \/
   ∃ s',Db Try.prog xA 60 66 (Dg Try.f66 3) [0,3,4] [3] (bt.put s).1 (bt.put s).2=some (.normal,bt.put s')/\pB s'=true/\mB s'<mB s/\(fB s').run=some r):=by
 intro t r hp hr;unfold pB at hp;split at hp
 ·rename_i n o b;simp only[Aa,Ab]at hp;obtain⟨⟨⟨h1,h2⟩,h3⟩,h4⟩:=hp;have hr':=(Ah hr).symm;refine⟨by rw[hr'];simp,?_⟩;rw[qB];by_cases hb:b ≥ 0
  ·rw[Ac hb,Ai (show ¬b<0 by omega),u4 hb h2 h3 h4,Dx (n:=b-1) (by omega) (by omega)];obtain⟨p1,p2⟩:=Xt hb h2;have hk:(b+1).toNat=b.toNat+1:=by omega
   have hk2:(b-1+1).toNat=b.toNat:=by omega
   have go:∀ o':Int,0<=o'->o'<=3037000499->iN n b.toNat o'=iN n (b.toNat+1) o->∃ s',(some (PX.normal,bt.put ([.i n,.i o',.i (b-1)],[])):Option (PX×List PV×List Row))=some (.normal,bt.put s')/\pB s'=true/\mB s'<mB ([.i n,.i o,.i b],[])/\(fB s').run=some r:=fun o' g1 g2 g3=>
    ⟨([.i n,.i o',.i (b-1)],[]),rfl,by simp only[pB,Aa,Ab];exact⟨⟨⟨by omega,by omega⟩,g1⟩,g2⟩,by simp only[mB];omega,by rw[hr'];simp only[fB,hk,hk2,g3];rfl⟩
   refine .inr ?_;simp only[Aj,BS];by_cases c1:o+2 ^ b.toNat<=3037000499
   ·rw[Ac c1,Aj,Zw (a:=o+2 ^ b.toNat) (by omega) c1];by_cases c2:(o+2 ^ b.toNat)*(o+2 ^ b.toNat)<=n
    ·rw[Ac c2,Aj];exact go _ (by omega) c1 (by rw[iN,Ac c1,Ac c2];rfl)
    ·rw[Ai c2,Ar];exact go _ h3 h4 (by rw[iN,Ac c1,Ai c2];rfl)
   ·rw[Ai c1,Ar];exact go _ h3 h4 (by rw[iN,Ai c1,Cf,Ar])
  ·rw[Ai hb];have:(b+1).toNat=0:=by omega
   exact .inl (by rw[hr',this];rfl)
 ·cases hp
def R31:CY:=xA.Dl 66 3 [0,3,4] [] bt pB fB
theorem zX:CG Try.prog R31.env:=
 qd.Dl (n:=60) Try.func66 (show Try.f66.body=some (DY Try.f66) by kernel_rfl) (show(loops (DY Try.f66)).filter (fun b=>Ew b==3)=[Dg Try.f66 3] by kernel_rfl) [0,3,4] [3] [] bt mB sB
theorem afP(n:Int):DD Try.prog R31 60 66 [iv n]=bif pB ([.i n,.i 0,.i 31],[]) then some (iv (iN n (31+1:Int).toNat 0)) else none:=by kernel_rfl
def u5:List PV->Option PV
 | [.val (.int .i64 n)]=>some (iv (U5 n))
 |_=>none
theorem afQ(args:List PV)(r:PV)(h:u5 args=some r):Hx.Dd Try.prog 66/\Dr Try.prog 66 args r:=by
 unfold u5 at h;split at h
 ·rename_i n;cases h;exact Cy zX (n:=60) ((afP n).trans rfl)
 ·cases h
end Go.Hr
namespace Go.Hr
open Go.Hx Go.Hg Go.Hn Go.Proofs
def zY:CY:=(xA.FX 64).RR 35 2 [2,7]
theorem zZ:CG Try.prog zY.env:=(qd.FX 64).RR 35 2 [2,7]
def nA(st:aj):Row:=afe 35 Try.f35 2 (tm 22 [(2,.ptr 0 1 0 0),(7,.fn (.func 83) [] [.ptr 1 1 0 0])]) st
def eX:S1:=⟨25,[(0,.Ih 2),(1,.ptr 1 1 0 0),(3,Dk)],[.one 3 1 Dk,.one 47 1 (.C9 28),.raw]⟩
abbrev lT(i n:Int)(f:Bool)(es:List PV)(r:Row):LS:=([.i i],[.i n,.l f es,.r r])
def eY:S1:=⟨30,[(0,.C9 28),(3,Dk),(4,Dk)],[]⟩
abbrev lU(f:Bool)(es:List PV)(n i:Int):LS:=([.l f es,.i n,.i i],[])
abbrev pX8(es:List PV)(i:Int):Int:=ptX es i.toNat
abbrev pY8(es:List PV)(i:Int):Int:=ptY es i.toNat
def nB(es:List PV)(i j:Int):Int:=W (W (W (pX8 es j-pX8 es i)*W (pX8 es j-pX8 es i))+W (W (pY8 es j-pY8 es i)*W (pY8 es j-pY8 es i)))
abbrev F8(es:List PV)(i:Int):Bool:=decide (0<=i)&&decide (i<(es.length:Int))
theorem qT(i n:Int)(f:Bool)(es:List PV):Db Try.prog zY 60 83 (Dg Try.f83 1) [0,1,3] [] (eX.put (lT i n f es (nA .ready))).1 (eX.put (lT i n f es (nA .ready))).2 =
 bif decide (W (i+1)<(es.length:Int)) then bif F8 es i then bif F8 es (W (i+1)) then bif decide (nB es i (W (i+1))<9223372036854775808) then
  some (.normal,eX.put (lT (W (i+1)) (W (n+U5 (nB es i (W (i+1))))) f es (nA .ready))) else none else none else none else some (.exit 0,tm 25 [],(eX.put (lT 0 n f es (nA .ready))).2):=by kernel_rfl
def L9(es:List PV)(i:Int):Nat->Int
 |0=>0
 |m+1=>U5 (nB es i (i+1))+L9 es (i+1) m
abbrev F9(es:List PV)(i:Int):Nat:=((es.length:Int)-1-i).toNat
def Du(es:List PV):Int:=L9 es 0 (F9 es 0)
theorem QL(es:List PV)(i j:Int):nB es i j<9223372036854775808:=(mv _).2
theorem U6(n:Int)(h:n<9223372036854775808):0<=U5 n/\U5 n<=3037000499:=let h:=Sy n h; ⟨h.1,h.2.1⟩
theorem Sz(es:List PV):∀(m:Nat) (i:Int),0<=L9 es i m/\L9 es i m<=3037000499*m
 |0,_=>⟨BG _,BG _⟩
 |m+1,i=>by
  have h1:=Sz es m (i+1);have h2:=U6 _ (QL es i (i+1));rw[L9];omega
theorem SA{es:List PV}{i:Int}(h:i+1<(es.length:Int)):F9 es i=F9 es (i+1)+1:=by unfold F9;omega
def pTq:LS->Bool
 |([.i i],[.i n,.l _ es,.r _])=>decide (0<=i)&&decide (es.length<=100000)&&decide (0<=n)&&decide (n<=3037000499*i)&&decide (i<=100000)
 |_=>false
def qe:LS->Bool
 |([.i i],[.i n,.l f es,.r r])=>pTq ([.i i],[.i n,.l f es,.r r])&&same r (nA .ready)
 |_=>false
def fT:LS->DT (PX×List PV×List Row)
 |([.i i],[.i n,.l f es,.r _])=>.leaf (.exit 0,tm 25 [],(eX.put (lT 0 (n+L9 es i (F9 es i)) f es (nA .ready))).2)
 |_=>.no
def mT:LS->Nat
 |([.i i],[.i _,.l _ es,.r _])=>((es.length:Int)-i).toNat
 |_=>0
theorem sT:∀ s r,qe s=true->(fT s).run=some r->r.1≠.normal/\(Db Try.prog zY 60 83 (Dg Try.f83 1) [0,1,3] [] (eX.put s).1 (eX.put s).2=some r \/
   ∃ s',Db Try.prog zY 60 83 (Dg Try.f83 1) [0,1,3] [] (eX.put s).1 (eX.put s).2=some (.normal,eX.put s')/\qe s'=true/\mT s'<mT s/\(fT s').run=some r):=by
 intro t r hp hr;unfold qe at hp;split at hp
 ·rename_i i n f es rr;simp only[pTq,Aa,Ab,RT]at hp;obtain⟨⟨⟨⟨⟨h1,h2⟩,h3⟩,h4⟩,h5⟩,rfl⟩:=hp;have hr':=(Ah hr).symm;refine⟨by rw[hr'];simp,?_⟩;rw[qT,Dx (n:=i+1) (by omega) (by omega)];by_cases hi:i+1<(es.length:Int)
  ·have hq:=U6 _ (QL es i (i+1));rw[Ac hi,show F8 es i=true by simp;omega,show F8 es (i+1)=true by simp;omega,Ac (QL es i (i+1)),Dx (n:=n+U5 (nB es i (i+1))) (by omega) (by omega)];refine .inr ⟨lT (i+1) (n+U5 (nB es i (i+1))) f es (nA .ready),rfl,by simp only[qe,pTq,Aa,Ab,RT];exact⟨⟨⟨⟨⟨by omega,h2⟩,by omega⟩,by omega⟩,by omega⟩,trivial⟩,by simp only[mT];omega,?_⟩;rw[hr',SA hi,L9];simp only[fT,Int.add_assoc];rfl
  ·have:F9 es i=0:=by unfold F9;omega
   rw[Ai hi,hr',this,L9,Int.add_zero];exact .inl rfl
 ·cases hp
def xD:CY:=zY.Dl 83 1 [0,1,3] [] eX qe fT
theorem Xu:CG Try.prog xD.env:=
 zZ.Dl (n:=60) Try.func83 (show Try.f83.body=some (DY Try.f83) by kernel_rfl) (show(loops (DY Try.f83)).filter (fun b=>Ew b==1)=[Dg Try.f83 1] by kernel_rfl) [0,1,3] [] [] eX mT sT
def iP:CY:=xD.EJ 66 u5
theorem u6:CG Try.prog iP.env:=Xu.EJ afQ
theorem qU(f:Bool)(es:List PV)(n i:Int):Db Try.prog iP 60 36 (Dg Try.f36 3) [0,3,4] [3] (eY.put (lU f es n i)).1 (eY.put (lU f es n i)).2 =
 bif decide (W (i+1)<(es.length:Int)) then bif F8 es (W (i+1)) then bif F8 es i then
  some (.normal,eY.put (lU f es (W (n+U5 (nB es i (W (i+1))))) (W (i+1)))) else none else none else some (.exit 0,tm 30 [(3,iv n)],[]):=by kernel_rfl
def pU:LS->Bool
 |([.l _ es,.i n,.i i],[])=>decide (0<=i)&&decide (es.length<=100000)&&decide (0<=n)&&decide (n<=3037000499*i)&&decide (i<=100000)
 |_=>false
def fU:LS->DT (PX×List PV×List Row)
 |([.l _ es,.i n,.i i],[])=>.leaf (.exit 0,tm 30 [(3,iv (n+L9 es i (F9 es i)))],[])
 |_=>.no
def mU:LS->Nat
 |([.l _ es,.i _,.i i],[])=>((es.length:Int)-i).toNat
 |_=>0
theorem sU:∀ s r,pU s=true->(fU s).run=some r->r.1≠.normal/\(Db Try.prog iP 60 36 (Dg Try.f36 3) [0,3,4] [3] (eY.put s).1 (eY.put s).2=some r \/
   ∃ s',Db Try.prog iP 60 36 (Dg Try.f36 3) [0,3,4] [3] (eY.put s).1 (eY.put s).2=some (.normal,eY.put s')/\pU s'=true/\mU s'<mU s/\(fU s').run=some r):=by
 intro t r hp hr;unfold pU at hp;split at hp
 ·rename_i f es n i;simp only[Aa,Ab]at hp;obtain⟨⟨⟨⟨h1,h2⟩,h3⟩,h4⟩,h5⟩:=hp;have hr':=(Ah hr).symm;refine⟨by rw[hr'];simp,?_⟩;rw[show eY.put ([.l f es,.i n,.i i],[])=eY.put (lU f es n i) from rfl,qU,Dx (n:=i+1) (by omega) (by omega)];by_cases hi:i+1<(es.length:Int)
  ·have hq:=U6 _ (QL es i (i+1));rw[Ac hi,show F8 es i=true by simp;omega,show F8 es (i+1)=true by simp;omega,Dx (n:=n+U5 (nB es i (i+1))) (by omega) (by omega)];refine .inr ⟨lU f es (n+U5 (nB es i (i+1))) (i+1),rfl,by simp only[pU,Aa,Ab];exact⟨⟨⟨⟨by omega,h2⟩,by omega⟩,by omega⟩,by omega⟩,by simp only[mU];omega,?_⟩;rw[hr',SA hi,L9];simp only[fU,Int.add_assoc];rfl
  ·have:F9 es i=0:=by unfold F9;omega
   rw[Ai hi,hr',this,L9,Int.add_zero];exact .inl rfl
 ·cases hp
def R35:CY:=iP.Dl 36 3 [0,3,4] [] eY pU fU
theorem iQ:CG Try.prog R35.env:=
 u6.Dl (n:=60) Try.func36 (show Try.f36.body=some (DY Try.f36) by kernel_rfl) (show(loops (DY Try.f36)).filter (fun b=>Ew b==3)=[Dg Try.f36 3] by kernel_rfl) [0,3,4] [3] [] eY mU sU
theorem afR(f:Bool)(es:List PV):DD Try.prog xD 60 35 [.C9 f 28 es]=bif qe (lT 0 0 f es (nA .ready)) then some (iv (0+L9 es 0 (F9 es 0))) else none:=by kernel_rfl
theorem z0(f:Bool)(es:List PV):DD Try.prog R35 60 36 [.C9 f 28 es]=bif pU (lU f es 0 0) then some (iv (0+L9 es 0 (F9 es 0))) else none:=by kernel_rfl
def ea:List PV->Option (DT PV)
 | [.C9 _ 28 es]=>some (.br (decide (es.length<=100000)) (.leaf (iv (Du es))) .no)
 | [.val (.slice none 0 0)]=>some (.leaf (iv 0))
 |_=>none
theorem z7(f:Bool)(es:List PV)(h:es.length<=100000):DD Try.prog xD 60 35 [.C9 f 28 es]=some (iv (Du es)):=by
 rw[afR,show qe (lT 0 0 f es (nA .ready))=true by simp only[qe,pTq,Aa,Ab,RT];exact⟨⟨⟨⟨⟨by omega,h⟩,by omega⟩,by omega⟩,by omega⟩,trivial⟩,Int.zero_add];rfl
theorem u7(f:Bool)(es:List PV)(h:es.length<=100000):DD Try.prog R35 60 36 [.C9 f 28 es]=some (iv (Du es)):=by
 rw[z0,show pU (lU f es 0 0)=true by simp only[pU,Aa,Ab];exact⟨⟨⟨⟨by omega,h⟩,by omega⟩,by omega⟩,by omega⟩,Int.zero_add];rfl
theorem qf:DD Try.prog xD 60 35 [.val (.slice none 0 0)]=some (iv 0):=by kernel_rfl
theorem iR:DD Try.prog R35 60 36 [.val (.slice none 0 0)]=some (iv 0):=by kernel_rfl
theorem afS:Hx.Dd Try.prog 35:=(Cy Xu (n:=60) qf).1
theorem afT(args:List PV)(d:DT PV)(r:PV)(h:ea args=some d)(hr:d.run=some r):Dr Try.prog 35 args r:=by
 unfold ea at h;split at h
 ·rename_i f es;cases h;obtain⟨h1,rfl⟩:=DN hr;exact(Cy Xu (n:=60) (z7 f es (AN h1))).2
 ·cases h;cases hr;exact(Cy Xu (n:=60) qf).2
 ·cases h
theorem z8:Hx.Dd Try.prog 36:=(Cy iQ (n:=60) iR).1
theorem z9(args:List PV)(d:DT PV)(r:PV)(h:ea args=some d)(hr:d.run=some r):Dr Try.prog 36 args r:=by
 unfold ea at h;split at h
 ·rename_i f es;cases h;obtain⟨h1,rfl⟩:=DN hr;exact(Cy iQ (n:=60) (u7 f es (AN h1))).2
 ·cases h;cases hr;exact(Cy iQ (n:=60) iR).2
 ·cases h
def R36:CY:=xD.DE 35 ea
theorem aab:CG Try.prog R36.env:=Xu.DE afS afT
end Go.Hr
namespace Go.Hr
abbrev Ky:=Int×List Int
def EA:List Int->List Int->Int
 | [],[]=>0
 | [],_::_=>-1
 |_::_,[]=>1
 |a::l,b::m=>if a<b then -1 else if b<a then 1 else EA l m
def Ua(a b:Ky):Prop:=a.1<b.1\/a.1=b.1/\(a.2.length<b.2.length\/a.2.length=b.2.length/\EA a.2 b.2<0)
instance (a b:Ky):Decidable (Ua a b):=inferInstanceAs (Decidable (_\/_))
theorem Ub:∀ l:List Int,EA l l=0
 | []=>rfl
 |a::l=>by rw[EA,Aq (by omega),Aq (by omega),Ub]
theorem Uc:∀{l m:List Int},EA l m=0->l=m
 | [],[],_=>rfl
 | [],_::_,h=>by simp[EA]at h
 |_::_,[],h=>by simp[EA]at h
 |a::l,b::m,h=>by
  rw[EA]at h;split at h
  ·cases h
  ·split at h
   ·cases h
   ·rw[Uc h,show a=b by omega]
theorem JB:∀(l m:List Int),(EA l m<0 ↔ 0<EA m l)
 | [],[]=>by simp[EA]
 | [],_::_=>by simp[EA]
 |_::_,[]=>by simp[EA]
 |a::l,b::m=>by
  rw[EA,EA];by_cases h1:a<b
  ·rw[Ak h1,Aq (by omega),Ak h1];decide
  ·rw[Aq h1];by_cases h2:b<a
   ·rw[Ak h2,Ak h2];decide
   ·rw[Aq h2,Aq h2,Aq h1];exact JB l m
theorem Mx:∀{l m n:List Int},EA l m<=0->EA m n<=0->EA l n<=0
 | [],_,[],_,_=>by simp[EA]
 | [],_,_::_,_,_=>by simp[EA]
 |_::_,[],_,h,_=>by simp[EA]at h
 |_::_,_::_,[],_,h=>by simp[EA]at h
 |a::l,b::m,c::n,h,k=>by
  rw[EA]at h k ⊢;by_cases h1:a<b
  ·by_cases k1:b<c
   ·rw[Ak (by omega)];decide
   ·rw[Aq k1]at k;by_cases k2:c<b
    ·rw[Ak k2]at k;exact absurd k (by decide)
    ·rw[Ak (by omega)];decide
  ·rw[Aq h1]at h;by_cases h2:b<a
   ·rw[Ak h2]at h;exact absurd h (by decide)
   ·rw[Aq h2]at h;by_cases k1:b<c
    ·rw[Ak (by omega)];decide
    ·rw[Aq k1]at k;by_cases k2:c<b
     ·rw[Ak k2]at k;exact absurd k (by decide)
     ·rw[Aq k2]at k;rw[Aq (by omega),Aq (by omega)];exact Mx h k
theorem Ud:∀{l m:List Int} (x:Int),l.length=m.length->EA (l++[x]) (m++[x])=EA l m
 | [],[],x,_=>by simp[EA]
 | [],_::_,_,h=>by simp at h
 |_::_,[],_,h=>by simp at h
 |a::l,b::m,x,h=>by
  rw[List.cons_append,List.cons_append,EA,EA,Ud x (by simpa using h)]
theorem nC{a:Ky}:¬Ua a a:=by
 unfold Ua;rw[Ub];omega
theorem nD{a b:Ky}(h1:¬Ua a b)(h2:¬Ua b a):a=b:=by
 unfold Ua at h1 h2;obtain⟨a1,a2⟩:=a;obtain⟨b1,b2⟩:=b;simp only at h1 h2;have e1:a1=b1:=by omega
 have e2:a2.length=b2.length:=by omega
 have h3:¬EA a2 b2<0:=by omega
 have h4:¬EA b2 a2<0:=by omega
 rw[JB]at h4;rw[e1,Uc (l:=a2) (m:=b2) (by omega)]
abbrev PF(a b:Ky):Prop:=¬Ua b a
theorem U7{a b:Ky}:PF a b ↔ a.1<b.1\/a.1=b.1/\(a.2.length<b.2.length\/a.2.length=b.2.length/\EA a.2 b.2<=0):=by
 unfold PF Ua;have:=JB b.2 a.2;have:=JB a.2 b.2;omega
theorem IG{a:Ky}:PF a a:=nC
theorem Fe{a b c:Ky}(h:PF a b)(k:PF b c):PF a c:=by
 rw[U7] at *;rcases h with h |⟨h1,h |⟨h2,h3⟩⟩
 ·omega
 ·omega
 ·rcases k with k |⟨k1,k |⟨k2,k3⟩⟩
  ·omega
  ·omega
  ·exact .inr ⟨by omega,.inr ⟨by omega,Mx h3 k3⟩⟩
theorem SB{a b:Ky}(h:PF a b)(k:PF b a):a=b:=nD k h
theorem iS{a b:Ky}(h:Ua a b):PF a b:=fun k=>by
 unfold Ua at h k;have:=JB b.2 a.2;omega
abbrev JC(a:Ky)(id w:Int):Ky:=(a.1+w,a.2++[id])
theorem LN{a b:Ky}{id w:Int}(h:PF a b):PF (JC a id w) (JC b id w):=by
 rw[U7] at *;simp only[Ap,As,AB];rcases h with h |⟨h1,h |⟨h2,h3⟩⟩
 ·omega
 ·omega
 ·rw[Ud id h2];omega
theorem nF{a:Ky}{id w:Int}(hw:0<=w):PF a (JC a id w):=by
 rw[U7];simp only[Ap,As,AB];omega
abbrev Eg:=T3×T3×Int×Int
inductive Ln(G:List Eg)(s:T3):T3->Ky->Prop
 |nil:Ln G s s (0,[])
 |step {t u:T3} {id w:Int} {k:Ky} (h:Ln G s t k) (he:(t,u,id,w)∈G):Ln G s u (JC k id w)
abbrev NonNeg(G:List Eg):Prop:=∀ e∈G,0<=e.2.2.2
theorem Ln.cost{G:List Eg}{s t:T3}{k:Ky}(hG:NonNeg G)(h:Ln G s t k):0<=k.1:=by
 induction h with
 |nil=>exact BG _
 |step h he ih=>have:=hG _ he;simp only at this ⊢;omega
def Kv(G:List Eg)(s t:T3)(k:Ky):Prop:=Ln G s t k/\∀ k',Ln G s t k'->PF k k'
theorem Kv.uniq{G:List Eg}{s t:T3}{k k':Ky}(h:Kv G s t k)(h':Kv G s t k'):k=k':=SB (h.2 _ h'.1) (h'.2 _ h.1)
structure Dij(G:List Eg)(s:T3)(D N:List (T3×Ky)):Prop where
 wN:∀ x∈N,Ln G s x.1 x.2
 wD:∀ x∈D,Kv G s x.1 x.2
 xE:∀ x∈D,∀ u id w,(x.1,u,id,w)∈G->u∈D.map (·.1)\/(u,JC x.2 id w)∈N
 from_:s∈D.map (·.1)\/(s,(0,[]))∈N
 nd:(D.map (·.1)).Nodup
theorem Dij.some{G:List Eg}{s u:T3}{D N:List (T3×Ky)}{k:Ky}(hG:NonNeg G)(h:Dij G s D N)(hw:Ln G s u k):u∈D.map (·.1)\/∃ n∈N,PF n.2 k:=by
 induction hw with
 |nil=>exact h.from_.imp_right fun h=>⟨_,h,IG⟩
 | @step t u id w k hw he ih=>
  rcases ih with ih |⟨n,hn,ih⟩
  ·obtain⟨x,hx,rfl⟩:=AX.1 ih;rcases h.xE x hx u id w he with h1 |h1
   ·exact .inl h1
   ·exact .inr ⟨_,h1,LN ((h.wD x hx).2 _ hw)⟩
  ·exact .inr ⟨n,hn,Fe ih (nF (hG _ he))⟩
def HN(G:List Eg)(D:List (T3×Ky))(r:T3×Ky):List (T3×Ky):=
 G.filterMap fun e=>if e.1=r.1/\e.2.1∉D.map (·.1) then some (e.2.1,JC r.2 e.2.2.1 e.2.2.2) else none
theorem Dij.init{G:List Eg}{s:T3}:Dij G s [] [(s,(0,[]))] where
 wN x hx:=by rw[AI.1 hx];exact .nil
 wD x hx:=by cases hx
 xE x hx:=by cases hx
 from_:=.inr (AI.2 rfl)
 nd:=.nil
theorem Dij.known{G:List Eg}{s:T3}{D N:List (T3×Ky)}(h:Dij G s D N){r:T3}(hr:r∈D.map (·.1)):Dij G s D (N.filter fun x=>!decide (x.1=r)) where
 wN x hx:=h.wN x (Bj.1 hx).1
 wD:=h.wD
 xE x hx u id w he:=(h.xE x hx u id w he).elim .inl fun hn=>by
  by_cases hu:u=r
  ·exact .inl (hu▸hr)
  ·exact .inr (Bj.2 ⟨hn,by simpa using hu⟩)
 from_:=h.from_.elim .inl fun hn=>by
  by_cases hu:s=r
  ·exact .inl (hu▸hr)
  ·exact .inr (Bj.2 ⟨hn,by simpa using hu⟩)
 nd:=h.nd
theorem Dij.take{G:List Eg}{s:T3}{D N:List (T3×Ky)}(hG:NonNeg G)(h:Dij G s D N){r:T3×Ky}(hr:r∈N)(hl:∀ x∈N,PF r.2 x.2)(hn:r.1∉D.map (·.1)):
  Dij G s (D++[r]) ((N.filter fun x=>!decide (x.1=r.1))++HN G (D++[r]) r) where
 wN x hx:=by
  rcases A3.1 hx with hx |hx
  ·exact h.wN x (Bj.1 hx).1
  ·obtain⟨e,he,hx⟩:=BZ.1 hx;split at hx
   ·rename_i hc;cases hx;have:=(h.wN r hr);rw[<- hc.1]at this;exact .step this he
   ·cases hx
 wD x hx:=by
  rcases A3.1 hx with hx |hx
  ·exact h.wD x hx
  ·rw[AI.1 hx];refine⟨h.wN r hr,fun k' hk=>?_⟩;rcases h.some hG hk with h1 |⟨n,h1,h2⟩
   ·exact absurd h1 hn
   ·exact Fe (hl n h1) h2
 xE x hx u id w he:=by
  have key:u∈D.map (·.1)\/(u,JC x.2 id w)∈N\/x=r:=by
   rcases A3.1 hx with hx |hx
   ·exact(h.xE x hx u id w he).elim .inl fun h=>.inr (.inl h)
   ·exact .inr (.inr (AI.1 hx))
  rcases key with h1 |h1 |h1
  ·exact .inl (by rw[Bz];exact BT _ h1)
  ·by_cases hu:u=r.1
   ·exact .inl (by rw[Bz,hu];exact List.mem_append_right _ (AI.2 rfl))
   ·exact .inr (BT _ (Bj.2 ⟨h1,by simpa using hu⟩))
  ·subst h1;by_cases hu:u∈(D++[x]).map (·.1)
   ·exact .inl hu
   ·exact .inr (List.mem_append_right _ (BZ.2 ⟨_,he,by rw[Ak ⟨rfl,hu⟩]⟩))
 from_:=by
  rcases h.from_ with h1 |h1
  ·exact .inl (by rw[Bz];exact BT _ h1)
  ·by_cases hu:s=r.1
   ·exact .inl (by rw[Bz,hu];exact List.mem_append_right _ (AI.2 rfl))
   ·exact .inr (BT _ (Bj.2 ⟨h1,by simpa using hu⟩))
 nd:=by
  rw[Bz,CX];exact⟨h.nd,by simp,fun a ha b hb=>by rw[AV,Bs,AI]at hb;subst hb;exact fun e=>hn (e▸ha)⟩
theorem Dij.done{G:List Eg}{s u:T3}{D:List (T3×Ky)}{k:Ky}(hG:NonNeg G)(h:Dij G s D [])(hw:Ln G s u k):u∈D.map (·.1):=
 (h.some hG hw).elim id fun⟨_,hn,_⟩=>by cases hn
abbrev OF:=T3->Option Ky
def Gw(G:List Eg)(s:T3):OF:=fun v=>@dite _ (∃ k,Kv G s v k) (Classical.propDecidable _) (fun h=>some h.choose) (fun _=>none)
theorem EK{G:List Eg}{s v:T3}{k:Ky}:Gw G s v=some k ↔ Kv G s v k:=by
 unfold Gw;split
 ·rename_i h;constructor
  ·intro e;cases e;exact h.choose_spec
  ·intro e;rw[h.choose_spec.uniq e]
 ·rename_i h;exact⟨fun e=>(nomatch e),fun e=>absurd ⟨_,e⟩ h⟩
def bet(k:Ky):Option Ky->Bool
 |none=>true
 |some k'=>decide (Ua k k')
def imp(f:OF)(e:Eg):Bool:=
 match f e.1 with
 |none=>false
 |some k=>bet (JC k e.2.2.1 e.2.2.2) (f e.2.1)
def Oh(f:OF)(e:Eg):OF:=fun v=>bif decide (v=e.2.1)&&imp f e then (f e.1).map fun k=>JC k e.2.2.1 e.2.2.2 else f v
def HY(G:List Eg)(f:OF):OF:=G.foldl Oh f
def again:List Eg->OF->Bool
 | [],_=>false
 |e::G,f=>imp f e||again G (Oh f e)
def nG(f g:OF):Prop:=∀ v k,g v=some k->∃ k',f v=some k'/\PF k' k
theorem nG.refl{f:OF}:nG f f:=fun _ k h=>⟨k,h,IG⟩
theorem nG.trans{f g h:OF}(a:nG f g)(b:nG g h):nG f h:=fun v k hk=>by
 obtain⟨k1,h1,h2⟩:=b v k hk;obtain⟨k2,h3,h4⟩:=a v k1 h1;exact⟨k2,h3,Fe h4 h2⟩
theorem LO{f:OF}{e:Eg}(h:imp f e=true):∃ k,f e.1=some k/\Oh f e e.2.1=some (JC k e.2.2.1 e.2.2.2)/\bet (JC k e.2.2.1 e.2.2.2) (f e.2.1)=true:=by
 unfold imp at h;split at h
 ·cases h
 ·rename_i k hk;refine⟨k,hk,?_,h⟩;unfold Oh imp;rw[hk];simp only[h,CT,Bg,Aj,AE]
theorem Kb{f:OF}{e:Eg}(h:imp f e=false):Oh f e=f:=by
 funext v;unfold Oh;rw[h,BC,Ar]
theorem SC{f:OF}{e:Eg}{v:T3}(h:v≠e.2.1):Oh f e v=f v:=by
 unfold Oh;rw[Ai h,Cf,Ar]
theorem iT{f:OF}{e:Eg}:nG (Oh f e) f:=by
 cases h:imp f e with
 |false=>rw[Kb h];exact .refl
 |true=>
  intro v k hk;obtain⟨k1,h1,h2,h3⟩:=LO h;by_cases hv:v=e.2.1
  ·subst hv;rw[hk]at h3;exact⟨_,h2,iS (AN h3)⟩
  ·exact⟨k,by rw[SC hv,hk],IG⟩
theorem Xv{f:OF}{e:Eg}{k:Ky}(hk:f e.1=some k):∃ k',Oh f e e.2.1=some k'/\PF k' (JC k e.2.2.1 e.2.2.2):=by
 cases h:imp f e with
 |true=>
  obtain⟨k1,h1,h2,h3⟩:=LO h;rw[hk]at h1;cases h1;exact⟨_,h2,IG⟩
 |false=>
  rw[Kb h];unfold imp at h;rw[hk]at h;simp only at h;cases hu:f e.2.1 with
  |none=>rw[hu]at h;cases h
  |some k'=>rw[hu]at h;exact⟨k',rfl,of_decide_eq_false h⟩
theorem U8:∀(G:List Eg) (f:OF),nG (HY G f) f
 | [],_=>.refl
 |e::G,f=>(U8 G (Oh f e)).trans iT
theorem Xw{e:Eg}{k:Ky}:∀{G:List Eg} {f:OF},e∈G->f e.1=some k->∃ k',HY G f e.2.1=some k'/\PF k' (JC k e.2.2.1 e.2.2.2)
 |g::G,f,he,hk=>by
  rcases AK.1 he with rfl |he
  ·obtain⟨k1,h1,h2⟩:=Xv hk;obtain⟨k2,h3,h4⟩:=U8 G (Oh f e) _ _ h1;exact⟨k2,h3,Fe h4 h2⟩
  ·obtain⟨k1,h1,h2⟩:=iT (e:=g) _ _ hk;obtain⟨k2,h3,h4⟩:=Xw (G:=G) (f:=Oh f g) he h1;exact⟨k2,h3,Fe h4 (LN h2)⟩
def WF(G:List Eg)(s:T3)(f:OF):Prop:=∀ v k,f v=some k->Ln G s v k
theorem u9{G:List Eg}{s:T3}{f:OF}{e:Eg}(he:e∈G)(h:WF G s f):WF G s (Oh f e):=fun v k hk=>by
 cases hi:imp f e with
 |false=>rw[Kb hi]at hk;exact h v k hk
 |true=>
  obtain⟨k1,h1,h2,h3⟩:=LO hi;by_cases hv:v=e.2.1
  ·subst hv;rw[h2]at hk;cases hk;exact .step (h _ _ h1) he
  ·rw[SC hv]at hk;exact h v k hk
theorem Zx{G:List Eg}{s:T3}:∀{L:List Eg} {f:OF},(∀ e∈L,e∈G)->WF G s f->WF G s (HY L f)
 | [],_,_,h=>h
 |e::L,_,hL,h=>Zx (L:=L) (fun x hx=>hL x (AU _ hx)) (u9 (hL e (AJ ..)) h)
theorem Xx:∀{L:List Eg} {f:OF},again L f=false->HY L f=f/\∀ e∈L,imp f e=false
 | [],_,_=>⟨rfl,fun _ h=>by cases h⟩
 |e::L,f,h=>by
  unfold again at h;rw[BK,Kb h.1]at h;obtain⟨h1,h2⟩:=Xx h.2;refine⟨by show HY L (Oh f e)=f;rw[Kb h.1,h1],fun x hx=>?_⟩;rcases AK.1 hx with rfl |hx
  ·exact h.1
  ·exact h2 x hx
theorem va{f:OF}{e:Eg}{k:Ky}(h:imp f e=false)(hk:f e.1=some k):∃ k',f e.2.1=some k'/\PF k' (JC k e.2.2.1 e.2.2.2):=by
 have:=Xv hk;rwa [Kb h]at this
theorem Zy{G:List Eg}{s:T3}{f:OF}(hw:WF G s f)(h0:∃ k,f s=some k/\PF k (0,[]))(hc:∀ e∈G,imp f e=false):f=Gw G s:=by
 have key:∀{v k},Ln G s v k->∃ k',f v=some k'/\PF k' k:=fun h=>by
  induction h with
  |nil=>exact h0
  |step h he ih=>
   obtain⟨k1,h1,h2⟩:=ih;obtain⟨k2,h3,h4⟩:=va (hc _ he) h1;exact⟨k2,h3,Fe h4 (LN h2)⟩
 funext v
 cases hv:f v with
 |some k=>
  refine(EK.2 ⟨hw v k hv,fun k' hk=>?_⟩).symm;obtain⟨k1,h1,h2⟩:=key hk;rw[hv]at h1;cases h1;exact h2
 |none=>
  cases hm:Gw G s v with
  |none=>rfl
  |some k=>
   obtain⟨k1,h1,_⟩:=key (EK.1 hm).1;rw[hv]at h1;cases h1
theorem Zz{G:List Eg}{s:T3}{e:Eg}(he:e∈G)(hex:∀ v k,Ln G s v k->∃ k',Kv G s v k'):imp (Gw G s) e=false:=by
 cases h:imp (Gw G s) e with
 |false=>rfl
 |true=>
  obtain⟨k,h1,h2,h3⟩:=LO h;have hw:Ln G s e.2.1 (JC k e.2.2.1 e.2.2.2):=.step (EK.1 h1).1 he;obtain⟨k',hk'⟩:=hex _ _ hw;rw[EK.2 hk']at h3;exact absurd (AN h3) (hk'.2 _ hw)
theorem Ue{G:List Eg}{s:T3}(hex:∀ v k,Ln G s v k->∃ k',Kv G s v k'):∀{L:List Eg},(∀ e∈L,e∈G)->again L (Gw G s)=false
 | [],_=>rfl
 |e::L,h=>by
  have h1:=Zz (h e (AJ ..)) hex;unfold again;rw[h1,Kb h1,Bt];exact Ue hex fun x hx=>h x (AU _ hx)
def OK(G:List Eg):Nat->OF->OF
 |0,f=>f
 |n+1,f=>OK G n (HY G f)
theorem Uf{G:List Eg}:∀{n:Nat} {f:OF},OK G (n+1) f=HY G (OK G n f)
 |0,_=>rfl
 |n+1,f=>by show OK G (n+1) (HY G f)=_;rw[Uf];rfl
theorem U9{G:List Eg}{s:T3}:∀{n:Nat} {f:OF},WF G s f->WF G s (OK G n f)
 |0,_,h=>h
 |n+1,_,h=>U9 (n:=n) (Zx (fun _ h=>h) h)
theorem bu{G:List Eg}:∀{n:Nat} {f:OF},nG (OK G n f) f
 |0,_=>.refl
 |n+1,f=>(bu (n:=n) (f:=HY G f)).trans (U8 G f)
theorem Ug{G:List Eg}{s v:T3}{k:Ky}(hw:Ln G s v k):∀{n:Nat} {f:OF},(∃ k0,f s=some k0/\PF k0 (0,[]))->k.2.length<=n->∃ k',OK G n f v=some k'/\PF k' k:=by
 induction hw with
 |nil=>
  intro n f h0 hn;obtain⟨k0,h1,h2⟩:=h0;obtain⟨k1,h3,h4⟩:=bu (n:=n) _ _ h1;exact⟨k1,h3,Fe h4 h2⟩
 | @step t u id w k hw he ih=>
  intro n f h0 hn;simp only[Ap,As,AB]at hn;cases n with
  |zero=>omega
  |succ n=>
   obtain⟨k1,h1,h2⟩:=ih (n:=n) h0 (by omega);rw[Uf];obtain⟨k2,h3,h4⟩:=Xw he h1;exact⟨k2,h3,Fe h4 (LN h2)⟩
structure vb(G:List Eg)(s:T3):Prop where
 ex:∀ v k,Ln G s v k->∃ k',Kv G s v k'
 bd:∃ B,∀ v k,Kv G s v k->k.2.length<=B
structure BF(G:List Eg)(s:T3)(f:OF):Prop where
 wf:WF G s f
 st:∃ k,f s=some k/\PF k (0,[])
theorem BF.HY{G:List Eg}{s:T3}{f:OF}(h:BF G s f):BF G s (HY G f) where
 wf:=Zx (fun _ h=>h) h.wf
 st:=by
  obtain⟨k,h1,h2⟩:=h.st;obtain⟨k',h3,h4⟩:=U8 G f _ _ h1;exact⟨k',h3,Fe h4 h2⟩
theorem BF.ends{G:List Eg}{s:T3}{f:OF}(hF:vb G s)(h:BF G s f):∃ n,OK G n f=Gw G s:=by
 obtain⟨B,hB⟩:=hF.bd;refine⟨B,?_⟩;funext v
 have hwf:=U9 (n:=B) h.wf;cases hm:Gw G s v with
 |some k=>
  have hk:=EK.1 hm;obtain⟨k',h1,h2⟩:=Ug hk.1 (n:=B) h.st (hB v k hk);rw[h1,SB h2 (hk.2 _ (hwf _ _ h1))]
 |none=>
  cases hs:OK G B f v with
  |none=>rfl
  |some k=>
   obtain⟨k',hk'⟩:=hF.ex _ _ (hwf _ _ hs);rw[EK.2 hk']at hm;cases hm
theorem G4{p:Nat->Prop}(h:∃ n,p n):∃ n,p n/\∀ m,m<n->¬p m:=by
 obtain⟨n,hn⟩:=h;induction n using Nat.strongRecOn with
 |_ n ih=>
  by_cases hc:∃ m,m<n/\p m
  ·obtain⟨m,h1,h2⟩:=hc;exact ih m h1 h2
  ·exact⟨n,hn,fun m h1 h2=>hc ⟨m,h1,h2⟩⟩
def bw(G:List Eg)(s:T3)(f:OF):Nat:=@dite _ (∃ n,OK G n f=Gw G s) (Classical.propDecidable _) (fun h=>(G4 h).choose) (fun _=>0)
theorem vc{G:List Eg}{s:T3}{f:OF}(hF:vb G s)(h:BF G s f)(ha:again G f=true):bw G s (HY G f)<bw G s f:=by
 have h1:=h.ends hF;have h2:=h.HY.ends hF;unfold bw;rw[dif_pos h1,dif_pos h2];have e1:=(G4 h1).choose_spec;have e2:=(G4 h2).choose_spec;generalize (G4 h1).choose=a at *;generalize (G4 h2).choose=b at *;cases a with
 |zero=>
  have:f=Gw G s:=e1.1;rw[this,Ue hF.ex fun _ h=>h]at ha;cases ha
 |succ a=>
  by_cases hb:b<=a
  ·omega
  ·exact absurd e1.1 (e2.2 a (by omega))
end Go.Hr
namespace Go.Hr
open Go.Hx Go.Hg Go.Hn Go.Proofs
abbrev Dn(es:List PV):List Int:=es.map fun e=>(e.cellAt 0).DL
theorem EP(es:List PV):(Dn es).length=es.length:=AP ..
theorem IH{es:List PV}{i:Int}(h0:0<=i)(h1:i<(es.length:Int)):(Dn es).drop i.toNat=((es.getD i.toNat .any).cellAt 0).DL::(Dn es).drop (i+1).toNat:=by
 show(es.map _).drop _=_::(es.map _).drop _
 rw[<- List.map_drop,<- List.map_drop,Ds h0 h1];rfl
theorem DW{es:List PV}{i:Int}(h0:0<=i)(h1:i<(es.length:Int)):F8 es i=true:=by
 show(decide (0<=i)&&decide (i<(es.length:Int)))=true
 rw[Ac h0,Ac h1];rfl
def P9:Hx.S1:=⟨36,[(0,.C9 3),(1,.C9 3),(9,.C9 3),(10,Dk),(11,Dk)],[]⟩
abbrev ve(f:Bool)(es:List PV)(g:Bool)(bs:List PV)(f':Bool)(es':List PV)(n i:Int):LS:=([.l f es,.l g bs,.l f' es',.i n,.i i],[])
abbrev xCp(f:Bool)(es:List PV)(g:Bool)(bs:List PV):PX×List PV×List Row:=(.exit 0,tm 36 [(0,.C9 f 3 es),(1,.C9 g 3 bs)],[])
abbrev rCp(f:Bool)(es:List PV)(g:Bool)(bs:List PV)(c:Int):PX×List PV×List Row:=(.ret,tm 36 [(0,.C9 f 3 es),(1,.C9 g 3 bs),(4,iv c)],[])
abbrev nI(es:List PV)(i:Int):Int:=((es.getD i.toNat .any).cellAt 0).DL
theorem qCp(f:Bool)(es:List PV)(g:Bool)(bs:List PV)(f':Bool)(es':List PV)(n i:Int):
 Db Try.prog R36 60 81 (Dg Try.f81 2) [0,1,9,10,11] [0,1,4] (P9.put (ve f es g bs f' es' n i)).1 (P9.put (ve f es g bs f' es' n i)).2 =
 bif decide (i<n) then bif F8 es' i then bif decide (i ≥ (bs.length:Int)) then some (rCp f es g bs 1) else bif F8 bs i then
  bif P5 (nI es' i-nI bs i) != 0 then some (rCp f es g bs (P5 (nI es' i-nI bs i))) else some (.normal,P9.put (ve f es g bs f' es' n (W (i+1)))) else none else none
 else some (xCp f es g bs):=by kernel_rfl
def ZA:List Int->List Int->Int
 | [],_=>0
 |_::_,[]=>1
 |a::l,b::m=>bif P5 (a-b) != 0 then P5 (a-b) else ZA l m
def qg:LS->Bool
 |([.l _ _,.l _ _,.l _ es',.i n,.i i],[])=>decide (n=(es'.length:Int))&&decide (0<=i)&&decide (es'.length<=1000000)
 |_=>false
def fCp:LS->DT (PX×List PV×List Row)
 |([.l f es,.l g bs,.l _ es',.i _,.i i],[])=>.br (ZA ((Dn es').drop i.toNat) ((Dn bs).drop i.toNat)==0) (.leaf (xCp f es g bs)) (.leaf (rCp f es g bs (ZA ((Dn es').drop i.toNat) ((Dn bs).drop i.toNat))))
 |_=>.no
def mCp:LS->Nat
 |([.l _ _,.l _ _,.l _ _,.i n,.i i],[])=>(n-i).toNat
 |_=>0
theorem sCp:∀ s r,qg s=true->(fCp s).run=some r->r.1≠.normal/\(Db Try.prog R36 60 81 (Dg Try.f81 2) [0,1,9,10,11] [0,1,4] (P9.put s).1 (P9.put s).2=some r \/
   ∃ s',Db Try.prog R36 60 81 (Dg Try.f81 2) [0,1,9,10,11] [0,1,4] (P9.put s).1 (P9.put s).2=some (.normal,P9.put s')/\qg s'=true/\mCp s'<mCp s/\(fCp s').run=some r):=by
 intro s r hp hr;unfold qg at hp;split at hp
 ·rename_i f es g bs f' es' n i;simp only[Aa,Ab]at hp;obtain⟨⟨rfl,h2⟩,h3⟩:=hp;have hr':=Hl hr;refine⟨by rw[hr'];cases(ZA ((Dn es').drop i.toNat) ((Dn bs).drop i.toNat)==0) <;> simp,?_⟩;rw[show P9.put ([.l f es,.l g bs,.l f' es',.i (es'.length:Int),.i i],[])=P9.put (ve f es g bs f' es' (es'.length:Int) i) from rfl,qCp];by_cases hi:i<(es'.length:Int)
  ·rw[Ac hi,Aj,DW h2 hi,Aj];rw[IH h2 hi]at hr';by_cases hb:i ≥ (bs.length:Int)
   ·rw[Ac hb];rw[AC (show(Dn bs).length<=i.toNat by rw[EP];omega)]at hr';exact .inl (by rw[hr'];rfl)
   ·rw[Ai hb,Ar,DW h2 (show i<(bs.length:Int) by omega),Aj];rw[IH h2 (show i<(bs.length:Int) by omega),ZA]at hr';cases hc:P5 (nI es' i-nI bs i) != 0 with
    |true=>
     rw[hc]at hr';simp only[Aj]at hr';rw[show(P5 (nI es' i-nI bs i)==0)=false by rw[bne]at hc;simpa using hc]at hr';exact .inl (by rw[hr'];rfl)
    |false=>
     rw[hc]at hr';refine .inr ⟨ve f es g bs f' es' (es'.length:Int) (i+1),by rw[Dx (by omega) (by omega)];rfl,by simp only[qg,Aa,Ab];exact⟨⟨trivial,by omega⟩,h3⟩,by simp only[mCp];omega,?_⟩;rw[hr'];simp only[fCp,Ar];cases(ZA ((Dn es').drop (i+1).toNat) ((Dn bs).drop (i+1).toNat)==0) <;> rfl
  ·rw[Ai hi];rw[AC (show(Dn es').length<=i.toNat by rw[EP];omega)]at hr';exact .inl (by rw[hr'];rfl)
 ·cases hp
def R37:CY:=R36.Dl 81 2 [0,1,9,10,11] [] P9 qg fCp
theorem iV:CG Try.prog R37.env:=
 aab.Dl (n:=60) Try.func81 (show Try.f81.body=some (DY Try.f81) by kernel_rfl) (show(loops (DY Try.f81)).filter (fun b=>Ew b==2)=[Dg Try.f81 2] by kernel_rfl) [0,1,9,10,11] [0,1,4] [] P9 mCp sCp
theorem afV(f:Bool)(es:List PV)(g:Bool)(bs:List PV):DD Try.prog R37 60 81 [.C9 f 3 es,.C9 g 3 bs] =
 bif qg (ve f es g bs f es es.length 0) then bif ZA ((Dn es).drop (0:Int).toNat) ((Dn bs).drop (0:Int).toNat)==0 then bif decide ((es.length:Int)<(bs.length:Int)) then some (iv (-1)) else some (iv 0)
  else some (iv (ZA ((Dn es).drop (0:Int).toNat) ((Dn bs).drop (0:Int).toNat))) else none:=by kernel_rfl
theorem ZB{n:Int}:(P5 n != 0)=decide (n≠0):=by
 by_cases h:n=0
 ·subst h;decide
 ·rw[Ac h];unfold P5;split
  ·decide
  ·rw[Ak (by omega)];decide
theorem bA:∀{l m:List Int},(bif ZA l m==0 then (bif decide ((l.length:Int)<(m.length:Int)) then (-1:Int) else 0) else ZA l m)=EA l m
 | [],[]=>by simp[ZA,EA]
 | [],b::m=>by
  have:decide ((([]:List Int).length:Int)<((b::m).length:Int))=true:=by rw[B5];simp only[AB,As];omega
  rw[ZA,this];rfl
 |a::l,[]=>by simp[ZA,EA]
 |a::l,b::m=>by
  rw[ZA,EA,ZB];by_cases h1:a<b
  ·rw[Ak h1,Ac (show a-b≠0 by omega),Aj,show P5 (a-b) = -1 by unfold P5;rw[Ak (by omega)]];rfl
  ·rw[Aq h1];by_cases h2:b<a
   ·rw[Ak h2,Ac (show a-b≠0 by omega),Aj,show P5 (a-b)=1 by unfold P5;rw[Aq (by omega),Ak (by omega)]];rfl
   ·rw[Aq h2,Ai (show ¬a-b≠0 by omega),Ar,<- bA (l:=l) (m:=m)];have:decide (((a::l).length:Int)<((b::m).length:Int))=decide ((l.length:Int)<(m.length:Int)):=by
     simp only[As];rw[B2];omega
    rw[this]
theorem qh(f:Bool)(es:List PV)(g:Bool)(bs:List PV)(h:es.length<=1000000):DD Try.prog R37 60 81 [.C9 f 3 es,.C9 g 3 bs]=some (iv (EA (Dn es) (Dn bs))):=by
 have e1:((Dn es).length:Int)=(es.length:Int):=by rw[EP]
 have e2:((Dn bs).length:Int)=(bs.length:Int):=by rw[EP]
 have:=bA (l:=Dn es) (m:=Dn bs);rw[e1,e2]at this;rw[afV,show qg (ve f es g bs f es es.length 0)=true by simp only[qg,Aa,Ab];exact⟨⟨trivial,by omega⟩,h⟩,Aj,<- this,show(0:Int).toNat=0 from rfl,AF,AF];cases ZA (Dn es) (Dn bs)==0 with
 |true=>cases decide ((es.length:Int)<(bs.length:Int)) <;> rfl
 |false=>rfl
def vf:List PV->Option (DT PV)
 | [.C9 _ 3 es,.C9 _ 3 bs]=>some (.br (decide (es.length<=1000000)) (.leaf (iv (EA (Dn es) (Dn bs)))) .no)
 |_=>none
theorem afW:Hx.Dd Try.prog 81:=(Cy iV (n:=60) (qh false [] false [] (by simp))).1
theorem afX(args:List PV)(d:DT PV)(r:PV)(h:vf args=some d)(hr:d.run=some r):Dr Try.prog 81 args r:=by
 unfold vf at h;split at h
 ·rename_i f es g bs;cases h;obtain⟨h1,rfl⟩:=DN hr;exact(Cy iV (n:=60) (qh f es g bs (AN h1))).2
 ·cases h
def R38:CY:=R37.DE 81 vf
theorem qi:CG Try.prog R38.env:=iV.DE afW afX
theorem afZ(f:Bool)(a b c:Int):DD Try.prog R38 60 47 [.C9 f 3 [iv a,iv b,iv c]]=bif a != 0 then some (iv a) else bif b != 0 then some (iv b) else bif c != 0 then some (iv c) else some (iv 0):=by kernel_rfl
def or3(a b c:Int):Int:=bif a != 0 then a else bif b != 0 then b else bif c != 0 then c else 0
def vg:List PV->Option PV
 | [.C9 _ 3 [.val (.int .i64 a),.val (.int .i64 b),.val (.int .i64 c)]]=>some (iv (or3 a b c))
 |_=>none
theorem af0(args:List PV)(r:PV)(h:vg args=some r):Hx.Dd Try.prog 47/\Dr Try.prog 47 args r:=by
 unfold vg at h;split at h
 ·rename_i f a b c;cases h;refine Cy qi (n:=60) ((afZ f a b c).trans ?_);unfold or3;cases a != 0 <;> cases b != 0 <;> cases c != 0 <;> rfl
 ·cases h
def R39:CY:=R38.EJ 47 vg
theorem iW:CG Try.prog R39.env:=qi.EJ af0
abbrev Hv(x y l:Int)(f:Bool)(ps:List PV)(c:Int):PV:=.agg [iv x,iv y,iv l,.C9 f 3 ps,iv c]
def Ve(c:Int)(ps:List PV)(d:Int)(qs:List PV):Int:=or3 (P5 (c-d)) (P5 ((ps.length:Int)-(qs.length:Int))) (EA (Dn ps) (Dn qs))
theorem aad(x y l:Int)(f:Bool)(ps:List PV)(c a b m:Int)(g:Bool)(qs:List PV)(d:Int):DD Try.prog R39 60 59 [Hv x y l f ps c,Hv a b m g qs d] =
 bif decide (ps.length<=1000000) then some (iv (Ve c ps d qs)) else none:=by kernel_rfl
def cKc:List PV->Option (DT PV)
 | [.agg [.val (.int .i64 _),.val (.int .i64 _),.val (.int .i64 _),.C9 _ 3 ps,.val (.int .i64 c)],.agg [.val (.int .i64 _),.val (.int .i64 _),.val (.int .i64 _),.C9 _ 3 qs,.val (.int .i64 d)]]=>
  some (.br (decide (ps.length<=1000000)) (.leaf (iv (Ve c ps d qs))) .no)
 |_=>none
theorem iX(x y l:Int)(f:Bool)(ps:List PV)(c a b m:Int)(g:Bool)(qs:List PV)(d:Int)(h:ps.length<=1000000):DD Try.prog R39 60 59 [Hv x y l f ps c,Hv a b m g qs d]=some (iv (Ve c ps d qs)):=by
 rw[aad,Ac h];rfl
theorem eKc:Hx.Dd Try.prog 59:=(Cy iW (n:=60) (iX 0 0 0 false [] 0 0 0 0 false [] 0 (by simp))).1
theorem oKc(args:List PV)(d:DT PV)(r:PV)(h:cKc args=some d)(hr:d.run=some r):Dr Try.prog 59 args r:=by
 unfold cKc at h;split at h
 ·rename_i x y l f ps c a b m g qs d;cases h;obtain⟨h1,rfl⟩:=DN hr;exact(Cy iW (n:=60) (iX x y l f ps c a b m g qs d (AN h1))).2
 ·cases h
def vh:CY:=R39.DE 59 cKc
theorem bC:CG Try.prog vh.env:=iW.DE eKc oKc
theorem iY{c d:Int}{ps qs:List PV}:Ve c ps d qs<0 ↔ Ua (c,Dn ps) (d,Dn qs):=by
 unfold Ve or3 Ua;simp only[EP];rw[ZB,ZB];by_cases h1:c=d
 ·subst h1;rw[Ai (by omega),Ar];by_cases h2:ps.length=qs.length
  ·rw[Ai (by omega),Ar];cases h3:EA (Dn ps) (Dn qs) != 0 with
   |true=>rw[Aj];omega
   |false=>
    rw[bne_eq_false_iff_eq]at h3;rw[Ar,h3];omega
  ·rw[Ac (by omega),Aj,LM];omega
 ·rw[Ac (by omega),Aj,LM];omega
abbrev Vf(x y l:Int)(f:Bool)(ps:List PV)(c:Int)(s:Bool):PV:=.agg [iv x,iv y,iv l,.C9 f 3 ps,iv c,bv s]
abbrev aR:X1:=.agg [Dk,Dk,Dk,.C9 3,Dk,.bool]
def Ma:Hx.S1:=⟨57,[(1,.C9 3),(5,.ptr 0 1 0 0),(7,Dk)],[.one 83 6 aR]⟩
abbrev iZ(f:Bool)(ps:List PV)(i x y l:Int)(g:Bool)(qs:List PV)(d:Int)(s:Bool):LS:=([.l f ps,.i i],[.i x,.i y,.i l,.l g qs,.i d,.b s])
theorem qBt(f:Bool)(ps:List PV)(i x y l:Int)(g:Bool)(qs:List PV)(d:Int)(s:Bool):Db Try.prog vh 60 63 (Dg Try.f63 8) [1,5,7] [6] (Ma.put (iZ f ps i x y l g qs d s)).1 (Ma.put (iZ f ps i x y l g qs d s)).2 =
 bif decide (i<(ps.length:Int)) then bif F8 ps i then bif F8 qs i then bif nI ps i != nI qs i then bif F8 ps i then bif F8 qs i then some (.ret,tm 57 [(6,bv (decide (nI ps i<nI qs i)))],(Ma.put (iZ f ps i x y l g qs d s)).2) else none else none
  else some (.normal,Ma.put (iZ f ps (W (i+1)) x y l g qs d s)) else none else none else some (.exit 0,tm 57 [],(Ma.put (iZ f ps i x y l g qs d s)).2):=by kernel_rfl
def qj:LS->Bool
 |([.l _ ps,.i i],[.i _,.i _,.i _,.l _ qs,.i _,.b _])=>decide (0<=i)&&decide (ps.length=qs.length)&&decide (ps.length<=1000000)
 |_=>false
def fBt:LS->DT (PX×List PV×List Row)
 |([.l f ps,.i i],[.i x,.i y,.i l,.l g qs,.i d,.b s])=>.br (EA ((Dn ps).drop i.toNat) ((Dn qs).drop i.toNat)==0) (.leaf (.exit 0,tm 57 [],(Ma.put (iZ f ps 0 x y l g qs d s)).2))
   (.leaf (.ret,tm 57 [(6,bv (decide (EA ((Dn ps).drop i.toNat) ((Dn qs).drop i.toNat)<0)))],(Ma.put (iZ f ps 0 x y l g qs d s)).2))
 |_=>.no
def mBt:LS->Nat
 |([.l _ ps,.i i],_)=>((ps.length:Int)-i).toNat
 |_=>0
theorem sBt:∀ s r,qj s=true->(fBt s).run=some r->r.1≠.normal/\(Db Try.prog vh 60 63 (Dg Try.f63 8) [1,5,7] [6] (Ma.put s).1 (Ma.put s).2=some r \/
   ∃ s',Db Try.prog vh 60 63 (Dg Try.f63 8) [1,5,7] [6] (Ma.put s).1 (Ma.put s).2=some (.normal,Ma.put s')/\qj s'=true/\mBt s'<mBt s/\(fBt s').run=some r):=by
 intro t r hp hr;unfold qj at hp;split at hp
 ·rename_i f ps i x y l g qs d s;simp only[Aa,Ab]at hp;obtain⟨⟨h1,h2⟩,h3⟩:=hp;have hr':=Hl hr;refine⟨by rw[hr'];cases(EA ((Dn ps).drop i.toNat) ((Dn qs).drop i.toNat)==0) <;> simp,?_⟩;rw[show Ma.put ([.l f ps,.i i],[.i x,.i y,.i l,.l g qs,.i d,.b s])=Ma.put (iZ f ps i x y l g qs d s) from rfl,qBt];by_cases hi:i<(ps.length:Int)
  ·rw[Ac hi,DW h1 hi,DW h1 (show i<(qs.length:Int) by omega)];rw[IH h1 hi,IH h1 (show i<(qs.length:Int) by omega),EA]at hr';simp only[Aj];cases hc:nI ps i != nI qs i with
   |true=>
    have hne:nI ps i≠nI qs i:=CO.1 hc;refine .inl ?_;rw[hr'];by_cases hl:nI ps i<nI qs i
    ·rw[Ak hl,Ac hl];rfl
    ·rw[Aq hl,Ak (show nI qs i<nI ps i by omega),Ai hl];rfl
   |false=>
    rw[bne_eq_false_iff_eq]at hc;have h4:¬nI ps i<nI qs i:=by omega
    have h5:¬nI qs i<nI ps i:=by omega
    rw[Aq h4,Aq h5]at hr';rw[Dx (by omega) (by omega)];refine .inr ⟨iZ f ps (i+1) x y l g qs d s,rfl,by simp only[qj,Aa,Ab];exact⟨⟨by omega,h2⟩,h3⟩,by simp only[mBt];omega,?_⟩;rw[hr'];simp only[fBt];cases(EA ((Dn ps).drop (i+1).toNat) ((Dn qs).drop (i+1).toNat)==0) <;> rfl
  ·rw[Ai hi];rw[AC (show(Dn ps).length<=i.toNat by rw[EP];omega),AC (show(Dn qs).length<=i.toNat by rw[EP];omega)]at hr';exact .inl (by rw[hr'];rfl)
 ·cases hp
def R41:CY:=vh.Dl 63 8 [1,5,7] [] Ma qj fBt
theorem ja:CG Try.prog R41.env:=
 bC.Dl (n:=60) Try.func63 (show Try.f63.body=some (DY Try.f63) by kernel_rfl) (show(loops (DY Try.f63)).filter (fun b=>Ew b==8)=[Dg Try.f63 8] by kernel_rfl) [1,5,7] [6] [] Ma mBt sBt
theorem af2(c:Int)(f:Bool)(ps:List PV)(x y l:Int)(g:Bool)(qs:List PV)(d:Int)(s:Bool):DD Try.prog R41 60 63 [iv c,.C9 f 3 ps,Vf x y l g qs d s] =
 bif !s then some (bv true) else bif c != d then some (bv (decide (c<d))) else bif (ps.length:Int) != (qs.length:Int) then some (bv (decide ((ps.length:Int)<(qs.length:Int)))) else
  bif qj (iZ f ps 0 x y l g qs d s) then bif EA ((Dn ps).drop (0:Int).toNat) ((Dn qs).drop (0:Int).toNat)==0 then some (bv false) else some (bv (decide (EA ((Dn ps).drop (0:Int).toNat) ((Dn qs).drop (0:Int).toNat)<0))) else none:=by kernel_rfl
def ZC(c:Int)(ps:List PV)(d:Int)(qs:List PV)(s:Bool):Bool:=bet (c,Dn ps) (bif s then some (d,Dn qs) else none)
theorem qk(c:Int)(f:Bool)(ps:List PV)(x y l:Int)(g:Bool)(qs:List PV)(d:Int)(s:Bool)(h:ps.length<=1000000):DD Try.prog R41 60 63 [iv c,.C9 f 3 ps,Vf x y l g qs d s]=some (bv (ZC c ps d qs s)):=by
 rw[af2];cases s with
 |false=>rfl
 |true=>
  show _=some (bv (decide (Ua (c,Dn ps) (d,Dn qs))))
  have hk:decide (Ua (c,Dn ps) (d,Dn qs))=decide (c<d\/c=d/\(ps.length<qs.length\/ps.length=qs.length/\EA (Dn ps) (Dn qs)<0)):=by
   rw[B2];unfold Ua;simp only[EP]
  rw[hk];simp only[BX,Ar];by_cases h1:c=d
  ·subst h1;rw[C5,Ar];by_cases h2:ps.length=qs.length
   ·rw[show((ps.length:Int) != (qs.length:Int))=false by rw[h2];exact C5 ..,Ar];rw[show qj (iZ f ps 0 x y l g qs c true)=true by simp only[qj,Aa,Ab];exact⟨⟨by omega,h2⟩,h⟩,Aj,show(0:Int).toNat=0 from rfl,AF,AF];cases h3:EA (Dn ps) (Dn qs)==0 with
    |true=>
     rw[Ay]at h3;rw[Aj,Ai (show ¬(c<c\/c=c/\(ps.length<qs.length\/ps.length=qs.length/\EA (Dn ps) (Dn qs)<0)) by omega)]
    |false=>
     rw[Ar];have:decide (EA (Dn ps) (Dn qs)<0)=decide (c<c\/c=c/\(ps.length<qs.length\/ps.length=qs.length/\EA (Dn ps) (Dn qs)<0)):=by rw[B2];omega
     rw[this]
   ·rw[show((ps.length:Int) != (qs.length:Int))=true by rw[CO];omega,Aj];have:decide ((ps.length:Int)<(qs.length:Int))=decide (c<c\/c=c/\(ps.length<qs.length\/ps.length=qs.length/\EA (Dn ps) (Dn qs)<0)):=by rw[B2];omega
    rw[this]
  ·rw[show(c != d)=true by rw[CO];exact h1,Aj];have:decide (c<d)=decide (c<d\/c=d/\(ps.length<qs.length\/ps.length=qs.length/\EA (Dn ps) (Dn qs)<0)):=by rw[B2];omega
   rw[this]
def vi:List PV->Option (DT PV)
 | [.val (.int .i64 c),.C9 _ 3 ps,.agg [.val (.int .i64 _),.val (.int .i64 _),.val (.int .i64 _),.C9 _ 3 qs,.val (.int .i64 d),.val (.bool s)]]=>some (.br (decide (ps.length<=1000000)) (.leaf (bv (ZC c ps d qs s))) .no)
 |_=>none
theorem af3:Hx.Dd Try.prog 63:=(Cy ja (n:=60) (qk 0 false [] 0 0 0 false [] 0 false (by simp))).1
theorem af4(args:List PV)(d:DT PV)(r:PV)(h:vi args=some d)(hr:d.run=some r):Dr Try.prog 63 args r:=by
 unfold vi at h;split at h
 ·rename_i c f ps x y l g qs d s;cases h;obtain⟨h1,rfl⟩:=DN hr;exact(Cy ja (n:=60) (qk c f ps x y l g qs d s (AN h1))).2
 ·cases h
def ZD:List PV->Option (DT PV)
 | [.agg [.val (.int .i64 _),.C9 _ 28 L,.val (.int .i64 _),.val (.string _),.val (.string _),.val (.bool _),.val (.int .i64 _),.val (.int .i64 _)]]=>some (.br (decide (L.length<=100000)) (.leaf (iv (Du L))) .no)
 |_=>none
def vj:CY:=(R41.DE 63 vi).DE 36 ea
theorem ZE:CG Try.prog vj.env:=(ja.DE af3 af4).DE z8 z9
theorem aae(i:Int)(f:Bool)(L:List PV)(lv:Int)(cs nm:ByteArray)(st:Bool)(wt ds:Int):DD Try.prog vh 60 18 [Li i f L lv cs nm st wt ds]=bif decide (L.length<=100000) then some (iv (Du L)) else none:=by kernel_rfl
theorem ql(i:Int)(f:Bool)(L:List PV)(lv:Int)(cs nm:ByteArray)(st:Bool)(wt ds:Int):DD Try.prog vj 60 19 [Li i f L lv cs nm st wt ds]=bif decide (L.length<=100000) then some (iv (Du L)) else none:=by kernel_rfl
theorem af5:Hx.Dd Try.prog 18:=(Cy bC (n:=60) ((aae 0 false [] 0 .empty .empty false 0 0).trans (by rw[Ac (by simp)];rfl))).1
theorem qm:Hx.Dd Try.prog 19:=(Cy ZE (n:=60) ((ql 0 false [] 0 .empty .empty false 0 0).trans (by rw[Ac (by simp)];rfl))).1
theorem af6(args:List PV)(d:DT PV)(r:PV)(h:ZD args=some d)(hr:d.run=some r):Dr Try.prog 18 args r:=by
 unfold ZD at h;split at h
 ·rename_i i f L lv cs nm st wt ds;cases h;obtain⟨h1,rfl⟩:=DN hr;exact(Cy bC (n:=60) ((aae i f L lv cs nm st wt ds).trans (by rw[h1];rfl))).2
 ·cases h
theorem qn(args:List PV)(d:DT PV)(r:PV)(h:ZD args=some d)(hr:d.run=some r):Dr Try.prog 19 args r:=by
 unfold ZD at h;split at h
 ·rename_i i f L lv cs nm st wt ds;cases h;obtain⟨h1,rfl⟩:=DN hr;exact(Cy ZE (n:=60) ((ql i f L lv cs nm st wt ds).trans (by rw[h1];rfl))).2
 ·cases h
def R42:CY:=vh.DE 18 ZD
theorem aag:CG Try.prog R42.env:=bC.DE af5 af6
def aah:CY:=vj.DE 19 ZD
theorem vk:CG Try.prog aah.env:=ZE.DE qm qn
def R43:CY:=aah.F4 34 6 [(7,83,6)]
theorem aaj:CG Try.prog R43.env:=vk.F4 34 6 [(7,83,6)]
def OL:Hx.S1:=⟨138,[(0,.C9 49),(2,.bool),(4,.ptr 0 1 0 0),(7,.sl 1),(8,.C9 30),(9,Dk)],[.one 30 3 aS,.many 83 6]⟩
abbrev qo(f:Bool)(ws:List PV)(fl:Bool)(n k:Nat)(g:Bool)(l:List PV)(i x y z:Int)(nl:Bool)(es:List PV):LS:=([.l f ws,.b fl,.n n,.n k,.l g l,.i i],[.i x,.i y,.i z,.l nl es])
abbrev xA1(f:Bool)(ws:List PV)(fl:Bool)(n k:Nat)(g:Bool)(l:List PV)(x y z:Int)(nl:Bool)(es:List PV):PX×List PV×List Row:=
 (.exit 0,tm 138 [(0,.C9 f 49 ws),(2,bv fl),(7,.sl 1 n 0 k),(8,.C9 g 30 l)],(OL.put (qo f ws fl n k g l 0 x y z nl es)).2)
abbrev Xy(x y z:Int)(e:PV):PV:=Vf (gX e) (gY e) (gL e) true [] 0 (VU e x y z)
theorem qA1(f:Bool)(ws:List PV)(fl:Bool)(n k:Nat)(g:Bool)(l:List PV)(i x y z:Int)(nl:Bool)(es:List PV):Db Try.prog R43 60 34 (Dg Try.f34 6) [0,2,4,7,8,9] [0,2,7,8] (OL.put (qo f ws fl n k g l i x y z nl es)).1 (OL.put (qo f ws fl n k g l i x y z nl es)).2 =
 bif decide (i<(l.length:Int)) then bif F8 l i then bif F8 l i then bif decide (es.length=n)&&decide (n=k)&&decide ((n+1)*64<=140737488355328) then
  some (.normal,OL.put (qo f ws fl (n+1) (n+1) g l (W (i+1)) x y z (nl&&false) (es++[Xy x y z (l.getD i.toNat .any)]))) else none else none else none
 else some (xA1 f ws fl n k g l x y z nl es):=by kernel_rfl
def qp:LS->Bool
 |([.l _ _,.b _,.n n,.n k,.l _ l,.i i],[.i _,.i _,.i _,.l nl es])=>decide (n=es.length)&&decide (k=es.length)&&decide (0<=i)&&decide (i<=(l.length:Int))&&decide ((es.length:Int)<=i)&&decide (l.length<=10000)&&(nl==es.isEmpty)
 |_=>false
def fA1:LS->DT (PX×List PV×List Row)
 |([.l f ws,.b fl,.n _,.n _,.l g l,.i i],[.i x,.i y,.i z,.l _ es])=>.leaf (xA1 f ws fl (es++(l.drop i.toNat).map (Xy x y z)).length (es++(l.drop i.toNat).map (Xy x y z)).length g l x y z (es++(l.drop i.toNat).map (Xy x y z)).isEmpty (es++(l.drop i.toNat).map (Xy x y z)))
 |_=>.no
def mA1:LS->Nat
 |([.l _ _,.b _,.n _,.n _,.l _ l,.i i],_)=>((l.length:Int)-i).toNat
 |_=>0
theorem sA1:∀ s r,qp s=true->(fA1 s).run=some r->r.1≠.normal/\(Db Try.prog R43 60 34 (Dg Try.f34 6) [0,2,4,7,8,9] [0,2,7,8] (OL.put s).1 (OL.put s).2=some r \/
   ∃ s',Db Try.prog R43 60 34 (Dg Try.f34 6) [0,2,4,7,8,9] [0,2,7,8] (OL.put s).1 (OL.put s).2=some (.normal,OL.put s')/\qp s'=true/\mA1 s'<mA1 s/\(fA1 s').run=some r):=by
 intro t r hp hr;unfold qp at hp;split at hp
 ·rename_i f ws fl n k g l i x y z nl es;simp only[Aa,Ab,Ay]at hp;obtain⟨⟨⟨⟨⟨⟨rfl,rfl⟩,h2⟩,h3⟩,h4⟩,h5⟩,h6⟩:=hp;have hr':=(Ah hr).symm;refine⟨by rw[hr'];simp,?_⟩;rw[show OL.put ([.l f ws,.b fl,.n es.length,.n es.length,.l g l,.i i],[.i x,.i y,.i z,.l nl es])=OL.put (qo f ws fl es.length es.length g l i x y z nl es) from rfl,qA1];by_cases hi:i<(l.length:Int)
  ·rw[Ac hi,DW h2 hi,Ac (show(es.length+1)*64<=140737488355328 by omega),Ac (show es.length=es.length from rfl),Dx (by omega) (by omega),BC];refine .inr ⟨qo f ws fl (es.length+1) (es.length+1) g l (i+1) x y z false (es++[Xy x y z (l.getD i.toNat .any)]),rfl,by
    simp only[qp,Aa,Ab,Ay,Ap,As,AB];exact⟨⟨⟨⟨⟨⟨trivial,trivial⟩,by omega⟩,by omega⟩,by omega⟩,h5⟩,by simp⟩,by simp only[mA1];omega,?_⟩
   rw[hr',Ds h2 hi];simp only[fA1,AV,Bu,List.singleton_append];rfl
  ·rw[Ai hi];rw[AC (by omega)]at hr';simp only[Bs,BL]at hr';exact .inl (by rw[hr',h6];rfl)
 ·cases hp
def aak:CY:=R43.Dl 34 6 [0,2,4,7,8,9] [false,false] OL qp fA1
theorem vl:CG Try.prog aak.env:=
 aaj.Dl (n:=60) Try.func34 (show Try.f34.body=some (DY Try.f34) by kernel_rfl) (show(loops (DY Try.f34)).filter (fun b=>Ew b==6)=[Dg Try.f34 6] by kernel_rfl) [0,2,4,7,8,9] [0,2,7,8] [false,false] OL mA1 sA1
def xF:CY:=(aak.FF 34 24 5).Iz 34 24 [82,88]
theorem aal:CG Try.prog xF.env:=(vl.FF 34 24 5).Iz 34 24 [82,88]
def Kc:Hx.S1:=⟨138,[(0,.C9 49),(2,.bool),(7,.sl 1),(8,.C9 30),(10,.bool),(11,Dk)],[.one 30 3 aS,.many 83 6]⟩
abbrev ZF(f:Bool)(ws:List PV)(fl:Bool)(n k:Nat)(g:Bool)(l:List PV)(ag:Bool)(i x y z:Int)(nl:Bool)(es:List PV):LS:=([.l f ws,.b fl,.n n,.n k,.l g l,.b ag,.i i],[.i x,.i y,.i z,.l nl es])
abbrev aW:X1:=.agg [Dk,.C9 28,Dk,.str,.str,.bool,Dk,Dk]
def KD:Hx.S1:=⟨138,[(0,.C9 49),(2,.bool),(7,.sl 1),(8,.C9 30),(10,.bool),(11,Dk),(12,.ptr 2 1 0 0),(15,Dk),(16,Dk),(17,Dk)],
 [.one 30 3 aS,.many 83 6,.one 49 8 aW,.one 30 3 aS,.one 30 3 aS]⟩
abbrev eb(f:Bool)(ws:List PV)(fl:Bool)(n k:Nat)(g:Bool)(l:List PV)(ag:Bool)(i a b m x y z:Int)(nl:Bool)(es:List PV)(wi:Int)(wf:Bool)(wl:List PV)(lv:Int)(cs nm:ByteArray)(st:Bool)(wt ds a0 a1 a2 b0 b1 b2:Int):LS:=
 ([.l f ws,.b fl,.n n,.n k,.l g l,.b ag,.i i,.i a,.i b,.i m],[.i x,.i y,.i z,.l nl es,.i wi,.l wf wl,.i lv,.s cs,.s nm,.b st,.i wt,.i ds,.i a0,.i a1,.i a2,.i b0,.i b1,.i b2])
abbrev rP(e:PV):List PV:=(e.cellAt 3).Tf
abbrev rC(e:PV):Int:=(e.cellAt 4).DL
abbrev rS(e:PV):Bool:=(e.cellAt 5).cQ
abbrev vm(e:PV)(ps:List PV):PV:=Vf (gX e) (gY e) (gL e) false ps (rC e) (rS e)
abbrev qq(e:PV)(c:Int):PV:=Vf (gX e) (gY e) (gL e) false (rP e) c (rS e)
abbrev qu(e:PV):PV:=Vf (gX e) (gY e) (gL e) false (rP e) (rC e) true
def vn(es:List PV)(n l:Nat)(i:Int){α:Type}(k:Option α):Option α:=Sa es n l i (HM es n (bif (es.length==n)&&true&&true&&true then k else none))
abbrev jb(es:List PV)(a wi:Int):List PV:=((([]++rP (rE es a))++[iv wi]).drop 0).take ((0+(rP (rE es a)).length)+1)
abbrev aL3(es:List PV)(a wi:Int):Bool:=(([]++rP (rE es a))++[iv wi]).length==(0+(rP (rE es a)).length)+1
abbrev VW(es:List PV)(a b wi:Int):List PV:=es.set (0+b.toNat) (vm (rE es b) (jb es a wi))
abbrev qv(es:List PV)(a b wi:Int)(wl:List PV):List PV:=(VW es a b wi).set (0+b.toNat) (qq (rE (VW es a b wi) b) (W (rC (rE (VW es a b wi) a)+Du wl)))
abbrev es3(es:List PV)(a b wi:Int)(wl:List PV):List PV:=(qv es a b wi wl).set (0+b.toNat) (qu (rE (qv es a b wi wl) b))
abbrev xA3(f:Bool)(ws:List PV)(fl:Bool)(n k:Nat)(g:Bool)(l:List PV)(ag:Bool)(i x y z:Int)(nl:Bool)(es:List PV)(wi:Int)(wf:Bool)(wl:List PV)(lv:Int)(cs nm:ByteArray)(st:Bool)(wt ds a0 a1 a2 b0 b1 b2:Int):PX×List PV×List Row:=
 (.exit 6,tm 138 [(0,.C9 f 49 ws),(2,bv fl),(7,.sl 1 n 0 k),(8,.C9 g 30 l),(10,bv ag),(11,iv i)],(KD.put (eb f ws fl n k g l ag i 0 0 0 x y z nl es wi wf wl lv cs nm st wt ds a0 a1 a2 b0 b1 b2)).2)
theorem qA3(f:Bool)(ws:List PV)(fl:Bool)(n k:Nat)(g:Bool)(l:List PV)(ag:Bool)(i a b m x y z:Int)(nl:Bool)(es:List PV)(wi:Int)(wf:Bool)(wl:List PV)(lv:Int)(cs nm:ByteArray)(st:Bool)(wt ds a0 a1 a2 b0 b1 b2:Int):
 Db Try.prog xF 60 34 (Dg Try.f34 21) [0,2,7,8,10,11,12,15,16,17] [0,2,7,8,10,11] (KD.put (eb f ws fl n k g l ag i a b m x y z nl es wi wf wl lv cs nm st wt ds a0 a1 a2 b0 b1 b2)).1 (KD.put (eb f ws fl n k g l ag i a b m x y z nl es wi wf wl lv cs nm st wt ds a0 a1 a2 b0 b1 b2)).2 =
 bif decide (m<2) then Sa es n k a (HM es n (HM es n (bif decide ((0+(rP (rE es a)).length)*8<=140737488355328) then
  bif decide (([]++rP (rE es a)).length=0+(rP (rE es a)).length)&&decide (0+(rP (rE es a)).length=0+(rP (rE es a)).length)&&decide ((0+(rP (rE es a)).length+1)*8<=140737488355328) then
  bif (aL3 es a wi&&(aL3 es a wi&&true))&&true then Sa es n k a (HM es n (HM es n (bif rS (rE es a) then
   Sa es n k a (HM es n (HM es n (bif decide (wl.length<=100000) then Sa es n k b (HM es n (bif decide ((jb es a wi).length<=1000000) then
    bif ZC (W (rC (rE es a)+Du wl)) (jb es a wi) (rC (rE es b)) (rP (rE es b)) (rS (rE es b)) then
     vn es n k b (Sa (VW es a b wi) n k a (HM (VW es a b wi) n (HM (VW es a b wi) n (bif decide (wl.length<=100000) then vn (VW es a b wi) n k b (vn (qv es a b wi wl) n k b
      (some (.normal,KD.put (eb f ws fl n k g l true i b a (W (m+1)) x y z nl (es3 es a b wi wl) wi wf wl lv cs nm st wt ds a0 a1 a2 b0 b1 b2)))) else none))))
    else some (.normal,KD.put (eb f ws fl n k g l ag i b a (W (m+1)) x y z nl es wi wf wl lv cs nm st wt ds a0 a1 a2 b0 b1 b2)) else none)) else none)))
   else some (.normal,KD.put (eb f ws fl n k g l ag i b a (W (m+1)) x y z nl es wi wf wl lv cs nm st wt ds a0 a1 a2 b0 b1 b2))))) else none else none else none)))
 else some (xA3 f ws fl n k g l ag i x y z nl es wi wf wl lv cs nm st wt ds a0 a1 a2 b0 b1 b2):=by kernel_rfl
abbrev aE(es:List PV)(a:Int):PV:=es.getD a.toNat .any
def MT(es:List PV)(a b wi c:Int):Bool:=rS (aE es a)&&ZC (rC (aE es a)+c) (rP (aE es a)++[iv wi]) (rC (aE es b)) (rP (aE es b)) (rS (aE es b))
def Kd(es:List PV)(a b wi c:Int):List PV:=bif MT es a b wi c then es.set b.toNat (Vf (gX (aE es b)) (gY (aE es b)) (gL (aE es b)) false (rP (aE es a)++[iv wi]) (rC (aE es a)+c) true) else es
def Xz(C:Int)(n:Nat)(e:PV):Bool:=decide (0<=rC e)&&decide (rC e<=C)&&decide ((rP e).length<=n)
theorem ZG{es:List PV}{b:Int}{e:PV}(h0:0<=b)(h:b<(es.length:Int)):aE (es.set b.toNat e) b=e:=by
 show(es.set b.toNat e).getD b.toNat .any=e
 rw[Av,Cb (by omega)];rfl
theorem aam{es:List PV}{a b:Int}{e:PV}(h0:0<=b)(h1:0<=a)(h:a≠b):aE (es.set b.toNat e) a=aE es a:=by
 show(es.set b.toNat e).getD a.toNat .any=es.getD a.toNat .any
 rw[Av,B1 (by omega),<- Av]
theorem OM{es:List PV}{a:Int}:rE es a=aE es a:=QH es a
theorem Jd{es:List PV}{a:Int}(h0:0<=a)(h:a<(es.length:Int)):aE es a∈es:=by
 show es.getD a.toNat .any∈es
 rw[Av,Ae (by omega)];exact By _
theorem bE{es:List PV}{a wi:Int}:jb es a wi=rP (aE es a)++[iv wi]:=by
 show List.take _ _=_
 rw[AF,A9,OM];exact A7 (by simp)
theorem jc{es:List PV}{a b wi:Int}:VW es a b wi=es.set b.toNat (vm (aE es b) (rP (aE es a)++[iv wi])):=by
 show es.set (0+b.toNat) (vm (rE es b) (jb es a wi))=_
 rw[AM,OM,bE]
theorem aan{es:List PV}{a b wi:Int}(ha:0<=a)(hb:0<=b)(h:b<(es.length:Int)):rC (rE (VW es a b wi) a)=rC (aE es a):=by
 rw[OM,jc];by_cases hab:a=b
 ·subst hab;rw[ZG ha h];rfl
 ·rw[aam hb ha hab]
theorem vo{es:List PV}{a b wi:Int}{wl:List PV}(ha:0<=a)(hb:0<=b)(h:b<(es.length:Int))(hw:W (rC (aE es a)+Du wl)=rC (aE es a)+Du wl):
  es3 es a b wi wl=es.set b.toNat (Vf (gX (aE es b)) (gY (aE es b)) (gL (aE es b)) false (rP (aE es a)++[iv wi]) (rC (aE es a)+Du wl) true):=by
 have h1:(VW es a b wi).length=es.length:=Bi ..;have e2:qv es a b wi wl=es.set b.toNat (Vf (gX (aE es b)) (gY (aE es b)) (gL (aE es b)) false (rP (aE es a)++[iv wi]) (rC (aE es a)+Du wl) (rS (aE es b))):=by
  show(VW es a b wi).set (0+b.toNat) (qq (rE (VW es a b wi) b) (W (rC (rE (VW es a b wi) a)+Du wl)))=_
  rw[aan ha hb h,hw,AM,OM,jc,ZG hb h,List.set_set];rfl
 show(qv es a b wi wl).set (0+b.toNat) (qu (rE (qv es a b wi wl) b))=_
 rw[AM,OM,e2,ZG hb h,List.set_set];rfl
theorem ZH{α:Type}{es:List PV}{n l:Nat}{i:Int}{k:Option α}(hn:es.length=n)(h1:0<=i)(h2:i<(l:Int)):vn es n l i k=k:=by
 unfold vn;rw[FC hn h1 h2,DJ hn,hn,AS];rfl
theorem jd{es:List PV}{a b wi c:Int}:(Kd es a b wi c).length=es.length:=by
 unfold Kd;cases MT es a b wi c <;> simp
theorem nK{es:List PV}{a b wi c C K:Int}{n:Nat}(ha:0<=a)(ha2:a<(es.length:Int))(h:(es.all (Xz C n))=true)(hc:0<=c)(hc2:c<=K):((Kd es a b wi c).all (Xz (C+K) (n+1)))=true:=by
 have hm:∀{e:PV},Xz C n e=true->Xz (C+K) (n+1) e=true:=fun {e} he=>by
  simp only[Xz,Aa,Ab]at he ⊢;omega
 rw[Ao]at h ⊢;intro e he;unfold Kd at he;cases hi:MT es a b wi c with
 |false=>rw[hi]at he;exact hm (h e he)
 |true=>
  rw[hi,Aj]at he;rcases Bw he with he |rfl
  ·exact hm (h e he)
  ·have:=h _ (Jd ha ha2);simp only[Xz,Aa,Ab]at this;have e1:rC (Vf (gX (aE es b)) (gY (aE es b)) (gL (aE es b)) false (rP (aE es a)++[iv wi]) (rC (aE es a)+c) true)=rC (aE es a)+c:=rfl;have e2:(rP (Vf (gX (aE es b)) (gY (aE es b)) (gL (aE es b)) false (rP (aE es a)++[iv wi]) (rC (aE es a)+c) true)).length=(rP (aE es a)).length+1:=by
    show(rP (aE es a)++[iv wi]).length=_;simp
   simp only[Xz,Aa,Ab,e1,e2];omega
theorem af9(f:Bool)(ws:List PV)(fl:Bool)(g:Bool)(l:List PV)(ag:Bool)(i a b m x y z:Int)(nl:Bool)(es:List PV)(wi:Int)(wf:Bool)(wl:List PV)(lv:Int)(cs nm:ByteArray)(st:Bool)(wt ds a0 a1 a2 b0 b1 b2:Int)
  (ha:0<=a) (ha2:a<(es.length:Int)) (hb:0<=b) (hb2:b<(es.length:Int)) (hm:m<2) (hl:wl.length<=1000) (hbd:(es.all (Xz 1000000000000000000 200000))=true):
 Db Try.prog xF 60 34 (Dg Try.f34 21) [0,2,7,8,10,11,12,15,16,17] [0,2,7,8,10,11] (KD.put (eb f ws fl es.length es.length g l ag i a b m x y z nl es wi wf wl lv cs nm st wt ds a0 a1 a2 b0 b1 b2)).1 (KD.put (eb f ws fl es.length es.length g l ag i a b m x y z nl es wi wf wl lv cs nm st wt ds a0 a1 a2 b0 b1 b2)).2 =
 some (.normal,KD.put (eb f ws fl es.length es.length g l (ag||MT es a b wi (Du wl)) i b a (W (m+1)) x y z nl (Kd es a b wi (Du wl)) wi wf wl lv cs nm st wt ds a0 a1 a2 b0 b1 b2)):=by
 have hA:=Ao.1 hbd _ (Jd ha ha2);simp only[Xz,Aa,Ab]at hA;have hL:=Sz wl (F9 wl 0) 0;have hL2:Du wl<=3037000499*1000:=by
  have:F9 wl 0<=1000:=by unfold F9;omega
  show L9 wl 0 (F9 wl 0)<=_;omega
 have hL1:0<=Du wl:=hL.1;have hw:W (rC (aE es a)+Du wl)=rC (aE es a)+Du wl:=Dx (by omega) (by omega);have n1:(VW es a b wi).length=es.length:=Bi ..;have n2:(qv es a b wi wl).length=es.length:=(Bi ..).trans n1;have hlen:(rP (aE es a)).length<=200000:=hA.2;have c1:decide ((0+(rP (rE es a)).length)*8<=140737488355328)=true:=by rw[OM];exact Ac (by omega)
 have c2:(decide (([]++rP (rE es a)).length=0+(rP (rE es a)).length)&&decide (0+(rP (rE es a)).length=0+(rP (rE es a)).length)&&decide ((0+(rP (rE es a)).length+1)*8<=140737488355328))=true:=by
  rw[OM];simp only[A9,AM,CT,BY,Ab];omega
 have c3:aL3 es a wi=true:=by
  show((([]++rP (rE es a))++[iv wi]).length==(0+(rP (rE es a)).length)+1)=true
  rw[Ay];simp
 rw[qA3,Ac hm,FC rfl ha ha2,DJ rfl,DJ rfl,c1,c2,c3,FC rfl ha ha2,DJ rfl,DJ rfl];rw[bE,OM,OM];simp only[Aj,Bq];cases hs:rS (aE es a) with
 |false=>
  have hi:MT es a b wi (Du wl)=false:=by unfold MT;rw[hs];rfl
  have hr:Kd es a b wi (Du wl)=es:=by unfold Kd;rw[hi];rfl
  rw[hr,hi,CL];rfl
 |true=>
  have hi:MT es a b wi (Du wl)=ZC (rC (aE es a)+Du wl) (rP (aE es a)++[iv wi]) (rC (aE es b)) (rP (aE es b)) (rS (aE es b)):=by unfold MT;rw[hs];rfl
  rw[Aj,FC rfl ha ha2,DJ rfl,DJ rfl,Ac (show wl.length<=100000 by omega),Aj,FC rfl hb hb2,DJ rfl,
   Ac (show(rP (aE es a)++[iv wi]).length<=1000000 by rw[Ap,BW];omega),Aj,hw,<- hi]
  cases hc:MT es a b wi (Du wl) with
  |false=>
   have hr:Kd es a b wi (Du wl)=es:=by unfold Kd;rw[hc];rfl
   rw[hr,CL];rfl
  |true=>
   have hr:Kd es a b wi (Du wl)=es3 es a b wi wl:=by rw[vo ha hb hb2 hw];unfold Kd;rw[hc];rfl
   rw[Aj,ZH rfl hb hb2];rw[hr,Bool.or_true];have key:∀ k:Option (PX×List PV×List Row),Sa (VW es a b wi) es.length es.length a (HM (VW es a b wi) es.length (HM (VW es a b wi) es.length (vn (VW es a b wi) es.length es.length b (vn (qv es a b wi wl) es.length es.length b k))))=k:=fun k=>by
    rw[FC n1 ha ha2,DJ n1,DJ n1,ZH n1 hb hb2,ZH n2 hb hb2]
   exact key _
def ed(wi c:Int):Nat->Bool->List PV->Int->Int->Bool×List PV
 |0,ag,es,_,_=>(ag,es)
 |k+1,ag,es,a,b=>ed wi c k (ag||MT es a b wi c) (Kd es a b wi c) b a
theorem XA{es:List PV}{C D:Int}{n m:Nat}(h:(es.all (Xz C n))=true)(h1:C<=D)(h2:n<=m):(es.all (Xz D m))=true:=by
 rw[Ao]at h ⊢;intro e he;have:=h e he;simp only[Xz,Aa,Ab]at this ⊢;omega
theorem GL{wl:List PV}(h:wl.length<=1000):0<=Du wl/\Du wl<=3037000499000:=by
 have hL:=Sz wl (F9 wl 0) 0;have:F9 wl 0<=1000:=by unfold F9;omega
 show 0<=L9 wl 0 (F9 wl 0)/\L9 wl 0 (F9 wl 0)<=_;omega
def qw:LS->Bool
 |([.l _ _,.b _,.n n,.n k,.l _ _,.b _,.i _,.i a,.i b,.i m],[.i _,.i _,.i _,.l _ es,.i _,.l _ wl,.i _,.s _,.s _,.b _,.i _,.i _,.i _,.i _,.i _,.i _,.i _,.i _])=>
  decide (n=es.length)&&decide (k=es.length)&&decide (0<=a)&&decide (a<(es.length:Int))&&decide (0<=b)&&decide (b<(es.length:Int))&&decide (0<=m)&&decide (m<=2)&&decide (wl.length<=1000)&&es.all (Xz (900000000000000000+m*3037000499000) (100000+m.toNat))
 |_=>false
def fA3:LS->DT (PX×List PV×List Row)
 |([.l f ws,.b fl,.n n,.n k,.l g l,.b ag,.i i,.i a,.i b,.i m],[.i x,.i y,.i z,.l nl es,.i wi,.l wf wl,.i lv,.s cs,.s nm,.b st,.i wt,.i ds,.i a0,.i a1,.i a2,.i b0,.i b1,.i b2])=>
  .leaf (xA3 f ws fl n k g l (ed wi (Du wl) (2-m).toNat ag es a b).1 i x y z nl (ed wi (Du wl) (2-m).toNat ag es a b).2 wi wf wl lv cs nm st wt ds a0 a1 a2 b0 b1 b2)
 |_=>.no
def mA3:LS->Nat
 |([.l _ _,.b _,.n _,.n _,.l _ _,.b _,.i _,.i _,.i _,.i m],_)=>(2-m).toNat
 |_=>0
theorem sA3:∀ s r,qw s=true->(fA3 s).run=some r->r.1≠.normal/\(Db Try.prog xF 60 34 (Dg Try.f34 21) [0,2,7,8,10,11,12,15,16,17] [0,2,7,8,10,11] (KD.put s).1 (KD.put s).2=some r \/
   ∃ s',Db Try.prog xF 60 34 (Dg Try.f34 21) [0,2,7,8,10,11,12,15,16,17] [0,2,7,8,10,11] (KD.put s).1 (KD.put s).2=some (.normal,KD.put s')/\qw s'=true/\mA3 s'<mA3 s/\(fA3 s').run=some r):=by
 intro t r hp hr;unfold qw at hp;split at hp
 ·rename_i f ws fl n k g l ag i a b m x y z nl es wi wf wl lv cs nm st wt ds a0 a1 a2 b0 b1 b2;simp only[Aa,Ab]at hp;obtain⟨⟨⟨⟨⟨⟨⟨⟨⟨rfl,rfl⟩,h1⟩,h2⟩,h3⟩,h4⟩,h5⟩,h6⟩,h7⟩,h8⟩:=hp;have hr':=(Ah hr).symm;refine⟨by rw[hr'];simp,?_⟩;rw[show KD.put ([.l f ws,.b fl,.n es.length,.n es.length,.l g l,.b ag,.i i,.i a,.i b,.i m],[.i x,.i y,.i z,.l nl es,.i wi,.l wf wl,.i lv,.s cs,.s nm,.b st,.i wt,.i ds,.i a0,.i a1,.i a2,.i b0,.i b1,.i b2]) =
   KD.put (eb f ws fl es.length es.length g l ag i a b m x y z nl es wi wf wl lv cs nm st wt ds a0 a1 a2 b0 b1 b2) from rfl]
  by_cases hm:m<2
  ·obtain⟨g1,g2⟩:=GL h7;rw[af9 f ws fl g l ag i a b m x y z nl es wi wf wl lv cs nm st wt ds a0 a1 a2 b0 b1 b2 h1 h2 h3 h4 hm h7 (XA h8 (by omega) (by omega)),Dx (by omega) (by omega)];have hlen:(Kd es a b wi (Du wl)).length=es.length:=jd;have hbd:=nK (b:=b) (wi:=wi) h1 h2 h8 g1 g2;refine .inr ⟨eb f ws fl es.length es.length g l (ag||MT es a b wi (Du wl)) i b a (m+1) x y z nl (Kd es a b wi (Du wl)) wi wf wl lv cs nm st wt ds a0 a1 a2 b0 b1 b2,rfl,?_,by simp only[mA3];omega,?_⟩
   ·simp only[qw,Aa,Ab,hlen];exact⟨⟨⟨⟨⟨⟨⟨⟨⟨trivial,trivial⟩,h3⟩,h4⟩,h1⟩,h2⟩,by omega⟩,by omega⟩,h7⟩,XA hbd (by omega) (by omega)⟩
   ·have e1:(2-m).toNat=(2-(m+1)).toNat+1:=by omega
    rw[hr',e1];rfl
  ·have hm2:m=2:=by omega
   subst hm2;rw[qA3];exact .inl (by rw[hr'];rfl)
 ·cases hp
def R45:CY:=xF.Kw Try.prog [false,false,true,false,false] 34 21 [0,2,7,8,10,11,12,15,16,17] [false,false,true,true,true] KD qw fA3
theorem aap:CG Try.prog R45.env:=
 aal.Kw (n:=60) Try.func34 (show Try.f34.body=some (DY Try.f34) by kernel_rfl) (show(loops (DY Try.f34)).filter (fun b=>Ew b==21)=[Dg Try.f34 21] by kernel_rfl) [false,false,true,false,false] [0,2,7,8,10,11,12,15,16,17] [0,2,7,8,10,11] [false,false,true,true,true] KD mA3 sA3
abbrev lx(l:List PV)(e:PV):Int:=DI (gX (eF e)) (gY (eF e)) (gL (eF e)) 0 l
abbrev ly(l:List PV)(e:PV):Int:=DI (gX (eL e)) (gY (eL e)) (gL (eL e)) 0 l
abbrev cS(e:PV)(j:Nat):ByteArray:=(e.cellAt j).GU
abbrev cI(e:PV)(j:Nat):Int:=(e.cellAt j).DL
def nL(f:Bool)(ws:List PV)(fl:Bool)(n k:Nat)(g:Bool)(l:List PV)(ag:Bool)(i x y z:Int)(nl:Bool)(es:List PV)(e:PV):Option (PX×List PV×List Row):=
 bif P8 (wL e) then bif decide (l.length<=10000) then bif decide (l.length<=10000) then
  bif qw (eb f ws fl n k g l ag i (lx l e) (ly l e) 0 x y z nl es (wI e) false (wL e) (Mw e) (cS e 3) (cS e 4) (Jv e) (cI e 6) (cI e 7) (gX (eF e)) (gY (eF e)) (gL (eF e)) (gX (eL e)) (gY (eL e)) (gL (eL e))) then
   some (.normal,Kc.put (ZF f ws fl n k g l (ed (wI e) (Du (wL e)) (2-0:Int).toNat ag es (lx l e) (ly l e)).1 (W (i+1)) x y z nl (ed (wI e) (Du (wL e)) (2-0:Int).toNat ag es (lx l e) (ly l e)).2)) else none else none else none else none
theorem qA2(f:Bool)(ws:List PV)(fl:Bool)(n k:Nat)(g:Bool)(l:List PV)(ag:Bool)(i x y z:Int)(nl:Bool)(es:List PV):
 Db Try.prog R45 60 34 (Dg Try.f34 13) [0,2,7,8,10,11] [0,2,7,8,10] (Kc.put (ZF f ws fl n k g l ag i x y z nl es)).1 (Kc.put (ZF f ws fl n k g l ag i x y z nl es)).2 =
 bif decide (i<(ws.length:Int)) then bif F8 ws i then bif ((wL (ws.getD i.toNat .any)).length:Int)==0 then some (.normal,Kc.put (ZF f ws fl n k g l ag (W (i+1)) x y z nl es)) else
  bif fl then bif Jv (ws.getD i.toNat .any) then some (.normal,Kc.put (ZF f ws fl n k g l ag (W (i+1)) x y z nl es)) else nL f ws fl n k g l ag i x y z nl es (ws.getD i.toNat .any) else nL f ws fl n k g l ag i x y z nl es (ws.getD i.toNat .any)
 else none else some (.exit 4,tm 138 [(0,.C9 f 49 ws),(2,bv fl),(7,.sl 1 n 0 k),(8,.C9 g 30 l),(10,bv ag)],(Kc.put (ZF f ws fl n k g l ag 0 x y z nl es)).2):=by kernel_rfl
def Ke(t:T3):Option Ky->PV
 |none=>Vf t.1 t.2.1 t.2.2 true [] 0 false
 |some k=>Vf t.1 t.2.1 t.2.2 k.2.isEmpty (k.2.map iv) k.1 true
def Ff(l:List PV)(f:OF):List PV:=l.map fun e=>Ke (DA e) (f (DA e))
theorem Lo:∀ p:List Int,Dn (p.map iv)=p
 | []=>rfl
 |x::p=>by show x::Dn (p.map iv)=_;rw[Lo p]
theorem bF(t:T3)(o:Option Ky):DA (Ke t o)=t:=by cases o <;> rfl
theorem ZI(t:T3)(o:Option Ky):rS (Ke t o)=o.isSome:=by cases o <;> rfl
def vp(e:PV):Option Ky:=bif rS e then some (rC e,Dn (rP e)) else none
theorem nM(t:T3)(o:Option Ky):vp (Ke t o)=o:=by
 cases o with
 |none=>rfl
 |some k=>show some (k.1,Dn (k.2.map iv))=some k;rw[Lo]
def fO(es:List PV):OF:=fun v=>match es.find? fun e=>decide (DA e=v) with |some e=>vp e |none=>none
def Mb(l:List PV)(f:OF):Prop:=∀ v k,f v=some k->v∈l.map DA
theorem ON{f:OF}:∀{l:List PV},(l.map DA).Nodup->Mb l f->fO (Ff l f)=f:=by
 have key:∀(l:List PV) (v:T3),fO (Ff l f) v=if v∈l.map DA then f v else none:=by
  intro l v;induction l with
  |nil=>rfl
  |cons e l ih=>
   show(match (Ke (DA e) (f (DA e))::Ff l f).find? fun e=>decide (DA e=v) with |some e=>vp e |none=>none)=_
   rw[List.find?_cons,bF];by_cases hv:DA e=v
   ·rw[Ac hv];subst hv;rw[Ak (by simp)];exact nM _ _
   ·rw[Ai hv];show fO (Ff l f) v=_
    rw[ih];simp only[AV,AK];by_cases hm:v∈l.map DA
    ·rw[Ak hm,Ak (.inr hm)]
    ·rw[Aq hm,Aq (fun h=>h.elim (fun h=>hv h.symm) hm)]
 intro l _ hs;funext v
 rw[key];by_cases hm:v∈l.map DA
 ·rw[Ak hm]
 ·rw[Aq hm];cases hf:f v with
  |none=>rfl
  |some k=>exact absurd (hs v k hf) hm
theorem Fg{l:List PV}{f:OF}:(Ff l f).length=l.length:=AP ..
theorem Vg{l:List PV}{f:OF}{a:Int}(h0:0<=a)(h:a<(l.length:Int)):aE (Ff l f) a=Ke (DA (aE l a)) (f (DA (aE l a))):=by
 show(l.map fun e=>Ke (DA e) (f (DA e))).getD a.toNat PV.any=Ke (DA (l.getD a.toNat PV.any)) (f (DA (l.getD a.toNat PV.any)))
 rw[Av,Av,An,Ae (by omega)];rfl
theorem SF{l:List PV}{f:OF}{a b wi c:Int}(ha:0<=a)(ha2:a<(l.length:Int))(hb:0<=b)(hb2:b<(l.length:Int)):MT (Ff l f) a b wi c=imp f (DA (aE l a),DA (aE l b),wi,c):=by
 unfold MT imp;rw[Vg ha ha2,Vg hb hb2];cases h1:f (DA (aE l a)) with
 |none=>rfl
 |some k=>
  rw[ZI];show ZC (k.1+c) (k.2.map iv++[iv wi]) _ _ _=bet (JC k wi c) (f (DA (aE l b)))
  unfold ZC;rw[show Dn (k.2.map iv++[iv wi])=k.2++[wi] by
   rw[show k.2.map iv++[iv wi]=(k.2++[wi]).map iv by simp,Lo]]
  cases h2:f (DA (aE l b)) with
  |none=>rfl
  |some k'=>
   show bet _ (some (k'.1,Dn (k'.2.map iv)))=_
   rw[Lo]
theorem XB{l:List PV}{f:OF}{a b wi c:Int}(hn:(l.map DA).Nodup)(ha:0<=a)(ha2:a<(l.length:Int))(hb:0<=b)(hb2:b<(l.length:Int)):
  Kd (Ff l f) a b wi c=Ff l (Oh f (DA (aE l a),DA (aE l b),wi,c)):=by
 unfold Kd;rw[SF ha ha2 hb hb2];cases hi:imp f (DA (aE l a),DA (aE l b),wi,c) with
 |false=>rw[Kb hi];rfl
 |true=>
  obtain⟨k,h1,h2,h3⟩:=LO hi;rw[Aj,Vg ha ha2,Vg hb hb2];have hk:f (DA (aE l a))=some k:=h1;rw[hk];apply Bf
  intro j;by_cases hj:j=b.toNat
  ·subst hj;rw[Cb (by rw[Fg];omega)];show _=(l.map _)[b.toNat]?
   rw[An,Ae (by omega)];have e0:l[b.toNat]'(by omega)=aE l b:=by
    show _=l.getD b.toNat .any
    rw[Av,Ae (by omega)];rfl
   rw[AE,e0];have h2':Oh f (DA (aE l a),DA (aE l b),wi,c) (DA (aE l b))=some (JC k wi c):=h2;rw[h2'];have e1:∀ o,gX (Ke (DA (aE l b)) o)=(DA (aE l b)).1/\gY (Ke (DA (aE l b)) o)=(DA (aE l b)).2.1/\gL (Ke (DA (aE l b)) o)=(DA (aE l b)).2.2:=fun o=>by cases o <;> exact⟨rfl,rfl,rfl⟩
   obtain⟨g1,g2,g3⟩:=e1 (f (DA (aE l b)));rw[g1,g2,g3];show some (Vf _ _ _ false (k.2.map iv++[iv wi]) (k.1+c) true)=some (Vf _ _ _ (k.2++[wi]).isEmpty ((k.2++[wi]).map iv) (k.1+c) true)
   rw[show(k.2++[wi]).isEmpty=false by simp,Bz];rfl
  ·rw[B1 (fun e=>hj e.symm)];show(l.map _)[j]? = (l.map _)[j]?
   rw[An,An];cases hl:l[j]? with
   |none=>rfl
   |some e=>
    rw[AE,AE];have hne:DA e≠DA (aE l b):=fun he=>by
     have hjl:j<l.length:=(Ad.1 hl).1;have e1:(l.map DA)[j]? = some (DA (aE l b)):=by rw[An,hl,AE,he]
     have e2:(l.map DA)[b.toNat]? = some (DA (aE l b)):=by
      rw[An,Ae (by omega),AE];congr 2
      show _=l.getD b.toNat .any
      rw[Av,Ae (by omega)];rfl
     have:=(C6 (by simpa using hjl) hn).1 (e1.trans e2.symm);exact hj this
    rw[SC (e:=(DA (aE l a),DA (aE l b),wi,c)) hne]
def eE(e:PV):List Eg:=[(DA (eF e),DA (eL e),wI e,Du (wL e)),(DA (eL e),DA (eF e),wI e,Du (wL e))]
def gE(fl:Bool)(ws:List PV):List Eg:=ws.flatMap fun e=>bif Dc fl e then [] else eE e
theorem XC{x y z:Int}:∀{es:List PV} {i:Int},0<=i->(x,y,z)∈es.map DA->i<=DI x y z i es/\DI x y z i es<i+es.length/\DA (aE es (DI x y z i es-i))=(x,y,z)
 | [],i,h,hm=>by simp at hm
 |e::es,i,h,hm=>by
  rw[DI];cases hq:VU e x y z with
  |true=>
   rw[Aj];refine⟨BG _,by simp only[As];omega,?_⟩;rw[show i-i=0 by omega];exact I3.1 hq
  |false=>
   rw[Cp,ne_eq,I3]at hq;rw[AV,AK]at hm;have hm':=hm.resolve_left fun h=>hq h.symm
   obtain⟨h1,h2,h3⟩:=XC (es:=es) (i:=i+1) (by omega) hm';rw[Ar];refine⟨by omega,by simp only[As];omega,?_⟩;rw[<- h3];show DA ((e::es).getD (DI x y z (i+1) es-i).toNat .any)=DA (es.getD (DI x y z (i+1) es-(i+1)).toNat .any)
   rw[show(DI x y z (i+1) es-i).toNat=(DI x y z (i+1) es-(i+1)).toNat+1 by omega];rfl
theorem bG{l:List PV}{s:PV}(hm:DA s∈l.map DA):0<=DI (gX s) (gY s) (gL s) 0 l/\DI (gX s) (gY s) (gL s) 0 l<(l.length:Int)/\DA (aE l (DI (gX s) (gY s) (gL s) 0 l))=DA s:=by
 obtain⟨h1,h2,h3⟩:=XC (i:=0) (BG _) hm;exact⟨h1,by omega,by rw[Int.sub_zero]at h3;exact h3⟩
theorem je{l:List PV}{f:OF}{ag:Bool}{e:PV}(hn:(l.map DA).Nodup)(h1:DA (eF e)∈l.map DA)(h2:DA (eL e)∈l.map DA):
  ed (wI e) (Du (wL e)) 2 ag (Ff l f) (lx l e) (ly l e)=(ag||again (eE e) f,Ff l (HY (eE e) f)):=by
 obtain⟨a1,a2,a3⟩:=bG h1;obtain⟨b1,b2,b3⟩:=bG h2;show((ag||MT (Ff l f) (lx l e) (ly l e) (wI e) (Du (wL e)))||MT (Kd (Ff l f) (lx l e) (ly l e) (wI e) (Du (wL e))) (ly l e) (lx l e) (wI e) (Du (wL e)),
  Kd (Kd (Ff l f) (lx l e) (ly l e) (wI e) (Du (wL e))) (ly l e) (lx l e) (wI e) (Du (wL e)))=_
 rw[XB hn a1 a2 b1 b2,SF a1 a2 b1 b2,XB hn b1 b2 a1 a2,SF b1 b2 a1 a2,a3,b3];show _=(ag||(imp f _||(imp (Oh f _) _||false)),_)
 rw[CL,Bool.or_assoc];rfl
theorem bH:∀(A B:List Eg) (f:OF),HY (A++B) f=HY B (HY A f)
 | [],_,_=>rfl
 |a::A,B,f=>bH A B (Oh f a)
theorem Ui:∀(A B:List Eg) (f:OF),again (A++B) f=(again A f||again B (HY A f))
 | [],_,_=>rfl
 |a::A,B,f=>by
  show(imp f a||again (A++B) (Oh f a))=((imp f a||again A (Oh f a))||again B (HY A (Oh f a)))
  rw[Ui,Bool.or_assoc]
def Yg(f:OF)(C:Int)(n:Nat):Prop:=∀ v k,f v=some k->0<=k.1/\k.1<=C/\k.2.length<=n
theorem Yg.mono{f:OF}{C D:Int}{n m:Nat}(h:Yg f C n)(h1:C<=D)(h2:n<=m):Yg f D m:=fun v k hk=>by
 have:=h v k hk;omega
theorem Yg.Oh{f:OF}{e:Eg}{C K:Int}{n:Nat}(h:Yg f C n)(h0:0<=e.2.2.2)(h1:e.2.2.2<=K):Yg (Oh f e) (C+K) (n+1):=fun v k hk=>by
 cases hi:imp f e with
 |false=>rw[Kb hi]at hk;have:=h v k hk;omega
 |true=>
  obtain⟨k1,g1,g2,g3⟩:=LO hi;by_cases hv:v=e.2.1
  ·subst hv;rw[g2]at hk;cases hk;have:=h _ _ g1;simp only[Ap,As,AB];omega
  ·rw[SC hv]at hk;have:=h v k hk;omega
theorem Yg.HY{K:Int}(hK:0<=K):∀{L:List Eg} {f:OF} {C:Int} {n:Nat},Yg f C n->(∀ e∈L,0<=e.2.2.2/\e.2.2.2<=K)->Yg (HY L f) (C+K*L.length) (n+L.length)
 | [],f,C,n,h,_=>h.mono (by simp) (by simp)
 |e::L,f,C,n,h,hL=>by
  have h1:=h.Oh (hL e (AJ ..)).1 (hL e (AJ ..)).2;have h2:=Yg.HY hK (L:=L) h1 fun x hx=>hL x (AU _ hx)
  refine h2.mono ?_ (by simp only[As];omega);rw[As,Int.natCast_add,Int.mul_add];omega
theorem vq{l:List PV}{f:OF}{C:Int}{n:Nat}(hC:0<=C)(h:Yg f C n):((Ff l f).all (Xz C n))=true:=by
 rw[Ao];intro e he;obtain⟨x,hx,rfl⟩:=AX.1 he;cases hf:f (DA x) with
 |none=>simp only[Xz,Aa,Ab];exact⟨⟨BG _,hC⟩,AT _⟩
 |some k=>
  have:=h _ _ hf;simp only[Xz,Aa,Ab];refine⟨⟨this.1,this.2.1⟩,?_⟩;show(k.2.map iv).length<=n
  rw[AP];exact this.2.2
theorem Mb.Oh{l:List PV}{f:OF}{e:Eg}(h:Mb l f)(he:e.2.1∈l.map DA):Mb l (Oh f e):=fun v k hk=>by
 by_cases hv:v=e.2.1
 ·rw[hv];exact he
 ·rw[SC hv]at hk;exact h v k hk
theorem Mb.HY{l:List PV}:∀{L:List Eg} {f:OF},Mb l f->(∀ e∈L,e.2.1∈l.map DA)->Mb l (HY L f)
 | [],_,h,_=>h
 |e::L,_,h,hL=>Mb.HY (L:=L) (h.Oh (hL e (AJ ..))) fun x hx=>hL x (AU _ hx)
end Go.Hr
