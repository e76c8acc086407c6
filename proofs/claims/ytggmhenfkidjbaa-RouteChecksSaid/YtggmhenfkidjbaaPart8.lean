import Derived.Test.YtggmhenfkidjbaaHnA
import Derived.Test.YtggmhenfkidjbaaPart4
import Derived.Test.YtggmhenfkidjbaaPart5
namespace Go.Hr
open Go.Hx Go.Hg Go.Hn Go.Proofs
abbrev LQ(i:Int)(f:Bool)(L:List PV)(lv:Int)(cs nm:ByteArray)(st:Bool)(wt ds:Int):PV:=.agg [iv i,.Db f 28 L,iv lv,.val (.string cs),.val (.string nm),bv st,iv wt,iv ds]
def NU(L:List PV):Int:=W ((L.length:Int)-1)
abbrev ptX(L:List PV)(i:Nat):Int:=((L.getD i .any).cellAt 0).DN
abbrev ptY(L:List PV)(i:Nat):Int:=((L.getD i .any).cellAt 1).DN
abbrev lg(L:List PV)(lv:Int):PV:=DU (ptX L 0) (ptY L 0) lv
abbrev pw(L:List PV)(lv:Int):PV:=DU (ptX L (NU L).toNat) (ptY L (NU L).toNat) lv
def PE(L:List PV):Bool:=!((L.length:Int)==0)&&((decide ((0:Int)<=0)&&decide ((0:Int)<(L.length:Int)))&&(decide (0<=NU L)&&decide (NU L<(L.length:Int))))
noncomputable def R0:C9:=({}:C9).JX Try.prog xe []
theorem yz:C4 Try.prog R0.env:=FK.JX UW
noncomputable def R1:C9:=R0.Gf 52
theorem yA:C4 Try.prog R1.env:=yz.Gf 52
theorem mz(i:Int)(f:Bool)(L:List PV)(lv:Int)(cs nm:ByteArray)(st:Bool)(wt ds:Int):DC Try.prog R1 60 25 [LQ i f L lv cs nm st wt ds] =
 bif (L.length:Int)==0 then some (.D8 [DU 0 0 0,DU 0 0 0]) else
  bif decide ((0:Int)<=0)&&decide ((0:Int)<(L.length:Int)) then bif decide (0<=NU L)&&decide (NU L<(L.length:Int)) then
   some (.D8 [lg L lv,pw L lv]) else none else none:=by kernel_rfl
theorem bI(c:Bool)(x y:Int):(bif c then some (iv x) else some (iv y))=some (iv (bif c then x else y)):=by cases c <;> rfl
theorem bB(c x y:Bool):(bif c then some (bv x) else some (bv y))=some (bv (bif c then x else y)):=by cases c <;> rfl
def ui:List PV->Option PV | [.val (.int .i64 a)]=>some (iv (bif decide (a > 0) then 1 else bif decide (a<0) then -1 else 0)) |_=>none
theorem ae1(args:List PV)(r:PV)(h:ui args=some r):Hx.Df Try.prog 102/\Ds Try.prog 102 args r:=by
 unfold ui at h;split at h
 ·rename_i a;cases h;refine Cz FK (n:=60) (CO (b:=bif decide (a > 0) then some (iv 1) else bif decide (a<0) then some (iv (-1)) else some (iv 0)) (by kernel_rfl) ?_);simp only[bI]
 ·cases h
def cSz:List PV->Option PV | [.val (.int .i64 a)]=>some (uv (bif decide (a<0) then U (0-U a) else U a)) |_=>none
theorem oSz(args:List PV)(r:PV)(h:cSz args=some r):Hx.Df Try.prog 104/\Ds Try.prog 104 args r:=by
 unfold cSz at h;split at h
 ·rename_i a;cases h;refine Cz FK (n:=60) (CO (b:=bif decide (a<0) then some (uv (U (0-U a))) else some (uv (U a))) (by kernel_rfl) ?_);cases decide (a<0) <;> rfl
 ·cases h
def uj:List PV->Option PV | [.val (.int .u64 a),.val (.int .u64 b)]=>some (.agg [uv (JT a b),uv (U (a*b))]) |_=>none
theorem ae3(args:List PV)(r:PV)(h:uj args=some r):Hx.Df Try.prog 103/\Ds Try.prog 103 args r:=by
 unfold uj at h;split at h
 ·cases h;exact Cz FK (n:=60) (by kernel_rfl)
 ·cases h
def LD(a:Int):Int:=bif decide (a > 0) then 1 else bif decide (a<0) then -1 else 0
def Ms(a:Int):Int:=bif decide (a<0) then U (0-U a) else U a
def M1:C9:=(({}:C9).EM 102 ui).EM 104 cSz |>.EM 103 uj
theorem yB:C4 Try.prog M1.env:=((FK.EM ae1).EM oSz).EM ae3
def mA(a b c d:Int):Int:=
 bif W (LD a*LD b) != W (LD c*LD d) then LD (W (W (LD a*LD b)-W (LD c*LD d))) else
 bif decide (JT (Ms a) (Ms b) > JT (Ms c) (Ms d)) then W (LD a*LD b) else bif decide (JT (Ms a) (Ms b)<JT (Ms c) (Ms d)) then W (0-W (LD a*LD b)) else
 bif decide (U (Ms a*Ms b) > U (Ms c*Ms d)) then W (LD a*LD b) else bif decide (U (Ms a*Ms b)<U (Ms c*Ms d)) then W (0-W (LD a*LD b)) else 0
def uk:List PV->Option PV | [.val (.int .i64 a),.val (.int .i64 b),.val (.int .i64 c),.val (.int .i64 d)]=>some (iv (mA a b c d)) |_=>none
theorem ae4(args:List PV)(r:PV)(h:uk args=some r):Hx.Df Try.prog 100/\Ds Try.prog 100 args r:=by
 unfold uk at h;split at h
 ·rename_i a b c d;cases h;refine Cz yB (n:=60) (CO (b:=bif W (LD a*LD b) != W (LD c*LD d) then some (iv (LD (W (W (LD a*LD b)-W (LD c*LD d))))) else
   bif decide (JT (Ms a) (Ms b) > JT (Ms c) (Ms d)) then some (iv (W (LD a*LD b))) else bif decide (JT (Ms a) (Ms b)<JT (Ms c) (Ms d)) then some (iv (W (0-W (LD a*LD b)))) else
   bif decide (U (Ms a*Ms b) > U (Ms c*Ms d)) then some (iv (W (LD a*LD b))) else bif decide (U (Ms a*Ms b)<U (Ms c*Ms d)) then some (iv (W (0-W (LD a*LD b)))) else some (iv 0)) (by kernel_rfl) ?_)
  simp only[bI];rfl
 ·cases h
def M2:C9:=M1.EM 100 uk
theorem mC:C4 Try.prog M2.env:=yB.EM ae4
def Tk(a b c d:Int):Int:=bif decide (b<1) then 0 else bif decide (d<1) then 0 else mA a d c b
def gH:List PV->Option PV | [.agg [.val (.int .i64 a),.val (.int .i64 b)],.agg [.val (.int .i64 c),.val (.int .i64 d)]]=>some (iv (Tk a b c d)) |_=>none
theorem yC(args:List PV)(r:PV)(h:gH args=some r):Hx.Df Try.prog 98/\Ds Try.prog 98 args r:=by
 unfold gH at h;split at h
 ·rename_i a b c d;cases h;refine Cz mC (n:=60) (CO (b:=bif decide (b<1) then some (iv 0) else bif decide (d<1) then some (iv 0) else some (iv (mA a d c b))) (by kernel_rfl) ?_);simp only[bI];rfl
 ·cases h
def Zg(a b c:Int):Bool:=bif decide (1<=c) then bif !decide (c<=4194304) then true else bif decide (-137438953472<=a) then bif !decide (a<=137438953472) then true else bif decide (-137438953472<=b) then !decide (b<=137438953472) else true else true else true
def gI:List PV->Option PV | [.agg [.val (.int .i64 a),.val (.int .i64 b),.val (.int .i64 c)]]=>some (bv (Zg a b c)) |_=>none
theorem yD(args:List PV)(r:PV)(h:gI args=some r):Hx.Df Try.prog 99/\Ds Try.prog 99 args r:=by
 unfold gI at h;split at h
 ·rename_i a b c;cases h;refine Cz mC (n:=60) (CO (b:=bif decide (1<=c) then bif !decide (c<=4194304) then some (bv true) else bif decide (-137438953472<=a) then bif !decide (a<=137438953472) then some (bv true) else bif decide (-137438953472<=b) then some (bv (!decide (b<=137438953472))) else some (bv true) else some (bv true) else some (bv true)) (by kernel_rfl) ?_);simp only[bB];rfl
 ·cases h
def Zh(a b c:Int):Bool:=bif decide (c ≥ 1) then bif decide (c<=4194304) then bif decide (a ≥ -137438953472) then bif decide (a<=137438953472) then bif decide (b ≥ -137438953472) then decide (b<=137438953472) else false else false else false else false else false
def gJ:List PV->Option PV | [.agg [.val (.int .i64 a),.val (.int .i64 b),.val (.int .i64 c)]]=>some (bv (Zh a b c)) |_=>none
theorem yE(args:List PV)(r:PV)(h:gJ args=some r):Hx.Df Try.prog 90/\Ds Try.prog 90 args r:=by
 unfold gJ at h;split at h
 ·rename_i a b c;cases h;refine Cz mC (n:=60) (CO (b:=bif decide (c ≥ 1) then bif decide (c<=4194304) then bif decide (a ≥ -137438953472) then bif decide (a<=137438953472) then bif decide (b ≥ -137438953472) then some (bv (decide (b<=137438953472))) else some (bv false) else some (bv false) else some (bv false) else some (bv false) else some (bv false)) (by kernel_rfl) ?_);simp only[bB];rfl
 ·cases h
def M3:C9:=((M2.EM 98 gH).EM 99 gI).EM 90 gJ
theorem um:C4 Try.prog M3.env:=((mC.EM yC).EM yD).EM yE
def yF(a b c d e f g h i:Int):Int:=mA (W (W (d*c)-W (a*f))) (W (W (h*c)-W (b*i))) (W (W (e*c)-W (b*f))) (W (W (g*c)-W (a*i)))
def Iz(a b c d e f g h i:Int):Int:=bif Zg a b c then 0 else bif Zg d e f then 0 else bif Zg g h i then 0 else yF a b c d e f g h i
def gK:List PV->Option PV
 | [.agg [.val (.int .i64 a),.val (.int .i64 b),.val (.int .i64 c)],.agg [.val (.int .i64 d),.val (.int .i64 e),.val (.int .i64 f)],.agg [.val (.int .i64 g),.val (.int .i64 h),.val (.int .i64 i)]]=>some (iv (Iz a b c d e f g h i))
 |_=>none
theorem yG(args:List PV)(r:PV)(h:gK args=some r):Hx.Df Try.prog 95/\Ds Try.prog 95 args r:=by
 unfold gK at h;split at h
 ·rename_i a b c d e f g h' i;cases h;refine Cz um (n:=60) (CO (b:=bif Zg a b c then some (iv 0) else bif Zg d e f then some (iv 0) else bif Zg g h' i then some (iv 0) else some (iv (yF a b c d e f g h' i))) (by kernel_rfl) ?_);simp only[bI];rfl
 ·cases h
def gM(n a b c d:Int):Int:=bif Tk n 1 a b==Tk n 1 c d then Tk n 1 a b else 0
def gN:List PV->Option PV | [.val (.int .i64 n),.agg [.val (.int .i64 a),.val (.int .i64 b)],.agg [.val (.int .i64 c),.val (.int .i64 d)]]=>some (iv (gM n a b c d)) |_=>none
theorem yH(args:List PV)(r:PV)(h:gN args=some r):Hx.Df Try.prog 96/\Ds Try.prog 96 args r:=by
 unfold gN at h;split at h
 ·rename_i n a b c d;cases h;refine Cz um (n:=60) (CO (b:=bif Tk n 1 a b==Tk n 1 c d then some (iv (Tk n 1 a b)) else some (iv 0)) (by kernel_rfl) ?_);simp only[bI];rfl
 ·cases h
def M4:C9:=(M3.EM 95 gK).EM 96 gN
theorem mE:C4 Try.prog M4.env:=(um.EM yG).EM yH
def onJ(a b c d e f x y:Int):Bool:=bif Iz a b c d e f x y 1 != 0 then false else bif gM x a c d f==0 then (gM y b c e f==0) else false
def uo:List PV->Option PV | [.agg [.val (.int .i64 a),.val (.int .i64 b),.val (.int .i64 c)],.agg [.val (.int .i64 d),.val (.int .i64 e),.val (.int .i64 f)],.agg [.val (.int .i64 x),.val (.int .i64 y)]]=>some (bv (onJ a b c d e f x y)) |_=>none
theorem ae5(args:List PV)(r:PV)(h:uo args=some r):Hx.Df Try.prog 92/\Ds Try.prog 92 args r:=by
 unfold uo at h;split at h
 ·rename_i a b c d e f x y;cases h;refine Cz mE (n:=60) (CO (b:=bif Iz a b c d e f x y 1 != 0 then some (bv false) else bif gM x a c d f==0 then some (bv (gM y b c e f==0)) else some (bv false)) (by kernel_rfl) ?_);simp only[bB];rfl
 ·cases h
def byJ(t0 t1 t2 t3 t4 t5 s0 s1 s2 s3 s4 s5:Int):Bool:=
 bif decide (Tk s1 s2 t1 t2 ≥ 0) then (bif Iz t0 t1 t2 t3 t4 t5 s0 s1 s2==0 then decide (Iz t0 t1 t2 t3 t4 t5 s3 s4 s5<0) else decide (Iz t0 t1 t2 t3 t4 t5 s0 s1 s2<0)) else
 (bif Iz s0 s1 s2 s3 s4 s5 t0 t1 t2==0 then decide (Iz s0 s1 s2 s3 s4 s5 t3 t4 t5 > 0) else decide (Iz s0 s1 s2 s3 s4 s5 t0 t1 t2 > 0))
def uq:List PV->Option PV
 | [.agg [.val (.int .i64 t0),.val (.int .i64 t1),.val (.int .i64 t2),.val (.int .i64 t3),.val (.int .i64 t4),.val (.int .i64 t5),.val (.int .i64 _)],.agg [.val (.int .i64 s0),.val (.int .i64 s1),.val (.int .i64 s2),.val (.int .i64 s3),.val (.int .i64 s4),.val (.int .i64 s5),.val (.int .i64 _)]]=>some (bv (byJ t0 t1 t2 t3 t4 t5 s0 s1 s2 s3 s4 s5))
 |_=>none
theorem ae6(args:List PV)(r:PV)(h:uq args=some r):Hx.Df Try.prog 94/\Ds Try.prog 94 args r:=by
 unfold uq at h;split at h
 ·rename_i t0 t1 t2 t3 t4 t5 t6 s0 s1 s2 s3 s4 s5 s6;cases h;refine Cz mE (n:=60) (CO (b:=bif decide (Tk s1 s2 t1 t2 ≥ 0) then (bif Iz t0 t1 t2 t3 t4 t5 s0 s1 s2==0 then some (bv (decide (Iz t0 t1 t2 t3 t4 t5 s3 s4 s5<0))) else some (bv (decide (Iz t0 t1 t2 t3 t4 t5 s0 s1 s2<0)))) else
   (bif Iz s0 s1 s2 s3 s4 s5 t0 t1 t2==0 then some (bv (decide (Iz s0 s1 s2 s3 s4 s5 t3 t4 t5 > 0))) else some (bv (decide (Iz s0 s1 s2 s3 s4 s5 t0 t1 t2 > 0))))) (by kernel_rfl) ?_)
  simp only[bB];rfl
 ·cases h
def LR(y d h:Int):Bool:=decide (Tk y d h 1 > 0)
def ur(u v:Bool)(k2:Bool):Int:=bif u then bif !v then bif k2 then -1 else 0 else 0 else 0
def yI(a b c d e f g h:Int):Int:=bif decide (c<1) then 0 else bif decide (f<1) then 0 else
 bif !LR b c h then bif LR e f h then bif decide (Iz a b c d e f g h 1<0) then 1 else ur (LR b c h) (LR e f h) (decide (Iz d e f a b c g h 1<0)) else ur (LR b c h) (LR e f h) (decide (Iz d e f a b c g h 1<0)) else ur (LR b c h) (LR e f h) (decide (Iz d e f a b c g h 1<0))
def gO:List PV->Option PV
 | [.agg [.val (.int .i64 a),.val (.int .i64 b),.val (.int .i64 c)],.agg [.val (.int .i64 d),.val (.int .i64 e),.val (.int .i64 f)],.agg [.val (.int .i64 g),.val (.int .i64 h)]]=>some (iv (yI a b c d e f g h))
 |_=>none
def mI(u v:Bool)(k2:Bool):Option PV:=bif u then bif !v then bif k2 then some (iv (-1)) else some (iv 0) else some (iv 0) else some (iv 0)
theorem yJ(args:List PV)(r:PV)(h:gO args=some r):Hx.Df Try.prog 93/\Ds Try.prog 93 args r:=by
 unfold gO at h;split at h
 ·rename_i a b c d e f g h';cases h;refine Cz mE (n:=60) (CO (b:=bif decide (c<1) then some (iv 0) else bif decide (f<1) then some (iv 0) else
   bif !LR b c h' then bif LR e f h' then bif decide (Iz a b c d e f g h' 1<0) then some (iv 1) else mI (LR b c h') (LR e f h') (decide (Iz d e f a b c g h' 1<0)) else mI (LR b c h') (LR e f h') (decide (Iz d e f a b c g h' 1<0)) else mI (LR b c h') (LR e f h') (decide (Iz d e f a b c g h' 1<0))) (by kernel_rfl) ?_)
  unfold mI;simp only[bI];rfl
 ·cases h
def M5:C9:=((M4.EM 92 uo).EM 94 uq).EM 93 gO
theorem ae7:C4 Try.prog M5.env:=((mE.EM ae5).EM ae6).EM yJ
def rE(es:List PV)(i:Int):PV:=es.getD (0+i.toNat) .any
def Sj(es:List PV)(n l:Nat)(i:Int){α:Type}(k:Option α):Option α:=bif (es.length==n)&&true then bif decide (0<=i)&&decide (i<(l:Int)) then k else none else none
def HV(es:List PV)(n:Nat){α:Type}(k:Option α):Option α:=bif es.length==n then k else none
def yK(es:List PV)(n l:Nat)(i:Int){α:Type}(k:Option α):Option α:=Sj es n l i (bif (es.length==n)&&true&&true&&true then k else none)
section
variable (d:PV->Bool) (nE:PV->PV)
def I5(es:List PV)(i:Int):Nat->Bool
 |0=>false
 |m+1=>d (rE es i)||I5 es (i+1) m
def FH(es:List PV)(i:Int):Nat->Int
 |0=>-1
 |m+1=>bif d (rE es i) then i else FH es (i+1) m
def HF:List PV->Int->Int->Nat->List PV×Int
 |es,i,_,0=>(es,i)
 |es,i,j,m+1=>bif d (rE es j) then HF es i (j+1) m else HF (es.set (0+i.toNat) (nE (rE es j))) (i+1) (j+1) m
def Dg(es:List PV):List PV:=es.filter fun e=>!d e
def Ei(es:List PV):Prop:=∀ e,e∈es->nE e=e
end
variable {d:PV->Bool} {nE:PV->PV}
theorem W9{es:List PV}{i:Int}(h1:0<=i)(h2:i<(es.length:Int)):∃ h:i.toNat<es.length,rE es i=es[i.toNat]'h:=by
 refine⟨by omega,?_⟩;unfold rE;rw[AN,Ay,Ae (by omega)];rfl
theorem FD{es:List PV}{n l:Nat}{i:Int}{α:Type}{k:Option α}(hn:es.length=n)(h1:0<=i)(h2:i<(l:Int)):Sj es n l i k=k:=by
 unfold Sj;rw[hn,AP,Ac h1,Ac h2];rfl
theorem DK{es:List PV}{n:Nat}{α:Type}{k:Option α}(hn:es.length=n):HV es n k=k:=by unfold HV;rw[hn,AP];rfl
theorem gP{es:List PV}{n l:Nat}{i:Int}{α:Type}{k:Option α}(hn:es.length=n)(h1:0<=i)(h2:i<(l:Int)):yK es n l i k=k:=by
 unfold yK;rw[FD hn h1 h2,hn,AP];rfl
theorem Sk:∀(m:Nat) (es:List PV) (i j:Int),(HF d nE es i j m).1.length=es.length
 |0,_,_,_=>rfl
 |m+1,es,i,j=>by
  rw[HF];cases d (rE es j) with
  |true=>exact Sk m es i (j+1)
  |false=>simp only[Ap];rw[Sk m];simp
theorem mJ{es:List PV}(h:Ei nE es){i:Int}(h1:0<=i)(h2:i<(es.length:Int)):nE (rE es i)=rE es i:=by
 obtain⟨hl,he⟩:=W9 h1 h2;rw[he];exact h _ (Bw hl)
theorem gQ{es:List PV}(h:Ei nE es){i:Nat}{e:PV}(he:nE e=e):Ei nE (es.set i e):=fun x hx=>by
 rcases Bu hx with g |g
 ·exact h x g
 ·rw[g];exact he
theorem OH:∀(m:Nat) (es:List PV) (i j:Int),Ei nE es->0<=i->i<=j->j+m<=(es.length:Int) ->
  (HF d nE es i j m).1.take (HF d nE es i j m).2.toNat=es.take i.toNat++Dg d ((es.drop j.toNat).take m)/\i<=(HF d nE es i j m).2/\(HF d nE es i j m).2<=i+m/\(HF d nE es i j m).1.drop (j.toNat+m)=es.drop (j.toNat+m)/\Ei nE (HF d nE es i j m).1
 |0,es,i,j,hN,_,_,_=>by simp[HF,Dg];exact hN
 |m+1,es,i,j,hN,h0,h1,h2=>by
  obtain⟨hl,he⟩:=W9 (es:=es) (i:=j) (by omega) (by omega);have hd:(es.drop j.toNat).take (m+1)=rE es j::(es.drop (j+1).toNat).take m:=by
   rw[he,B5 hl,CL,show(j+1).toNat=j.toNat+1 by omega]
  have hj:j.toNat+(m+1)=(j+1).toNat+m:=by omega
  rw[HF,hj];cases hb:d (rE es j) with
  |true=>
   obtain⟨g1,g2,g3,g4,g5⟩:=OH m es i (j+1) hN h0 (by omega) (by omega);simp only[Aj];refine⟨?_,g2,by omega,g4,g5⟩;rw[g1,hd];unfold Dg;rw[B_,hb];rfl
  |false=>
   simp only[Ap];have hn:=mJ hN (i:=j) (by omega) (by omega);rw[hn];have hN1:Ei nE (es.set (0+i.toNat) (rE es j)):=gQ hN hn;obtain⟨g1,g2,g3,g4,g5⟩:=OH m (es.set (0+i.toNat) (rE es j)) (i+1) (j+1) hN1 (by omega) (by omega) (by rw[Bh];omega);refine⟨?_,by omega,by omega,?_,g5⟩
   ·rw[g1,hd];have e1:(es.set (0+i.toNat) (rE es j)).take (i+1).toNat=es.take i.toNat++[rE es j]:=by
     rw[show(i+1).toNat=i.toNat+1 by omega,AN,List.take_add_one,Ax,Ak rfl,Ak (by omega)];rw[List.take_set_of_le (Al _)];rfl
    have e2:(es.set (0+i.toNat) (rE es j)).drop (j+1).toNat=es.drop (j+1).toNat:=by
     rw[List.drop_set_of_lt (by omega)]
    rw[e1,e2];unfold Dg;rw[B_,hb,BA];rfl
   ·rw[g4,List.drop_set_of_lt (by omega)]
theorem TW(es:List PV):∀(m:Nat) (i:Int),0<=i->i+m<=(es.length:Int)->I5 d es i m=true ->
  i<=FH d es i m/\FH d es i m<i+m/\d (rE es (FH d es i m))=true/\Dg d ((es.drop i.toNat).take (FH d es i m-i).toNat)=(es.drop i.toNat).take (FH d es i m-i).toNat
 |0,_,_,_,h=>by cases h
 |m+1,i,h0,h1,h=>by
  obtain⟨hl,he⟩:=W9 (es:=es) (i:=i) (by omega) (by omega);simp only[I5]at h;simp only[FH];cases hb:d (rE es i) with
  |true=>simp only[Aj];exact⟨BK _,by omega,hb,by rw[Int.sub_self];rfl⟩
  |false=>
   rw[hb,Bk]at h;simp only[Ap];obtain⟨g1,g2,g3,g4⟩:=TW es m (i+1) (by omega) (by omega) h;refine⟨by omega,by omega,g3,?_⟩;have hd:(es.drop i.toNat).take (FH d es (i+1) m-i).toNat=rE es i::(es.drop (i+1).toNat).take (FH d es (i+1) m-(i+1)).toNat:=by
    rw[he,B5 hl,show(FH d es (i+1) m-i).toNat=(FH d es (i+1) m-(i+1)).toNat+1 by omega,CL,show(i+1).toNat=i.toNat+1 by omega]
   rw[hd];unfold Dg at g4 ⊢;rw[B_,hb,g4];rfl
theorem TX(es:List PV):∀(m:Nat) (i:Int),0<=i->i+m<=(es.length:Int)->I5 d es i m=false->Dg d ((es.drop i.toNat).take m)=(es.drop i.toNat).take m
 |0,_,_,_,_=>by simp[Dg]
 |m+1,i,h0,h1,h=>by
  obtain⟨hl,he⟩:=W9 (es:=es) (i:=i) (by omega) (by omega);simp only[I5,BJ]at h;have ih:=TX es m (i+1) (by omega) (by omega) h.2;have hd:(es.drop i.toNat).take (m+1)=rE es i::(es.drop (i+1).toNat).take m:=by
   rw[he,B5 hl,CL,show(i+1).toNat=i.toNat+1 by omega]
  rw[hd];unfold Dg at ih ⊢;rw[B_,h.1,ih];rfl
def FZ(d:PV->Bool)(z:PV)(es:List PV)(l:Nat):List PV:=Dg d (es.take l)++List.replicate (l-(Dg d (es.take l)).length) z++es.drop l
theorem EE(es:List PV):(Dg d es).length<=es.length:=List.length_filter_le _ _
theorem IA{z:PV}{es:List PV}{l:Nat}(h:l<=es.length):(FZ d z es l).length=es.length:=by
 unfold FZ;have h1:(Dg d (es.take l)).length<=l:=Bb (EE _) (by rw[Az];omega);simp only[Ar,Cj,BL];omega
theorem Xa{es:List PV}{l:Nat}(hl:l<=es.length)(h:I5 d es 0 l=false)(z:PV):Dg d (es.take l)=es.take l/\FZ d z es l=es:=by
 have g:=TX es l 0 (by omega) (by omega) h;rw[show(0:Int).toNat=0 from rfl,AH]at g;refine⟨g,?_⟩;unfold FZ;rw[g,Az,show min l es.length=l by omega,Dn,List.replicate_zero,BV,List.take_append_drop]
theorem Xb{es:List PV}{l:Nat}(hN:Ei nE es)(hl:l<=es.length)(h:I5 d es 0 l=true)(z:PV){x:Int}(hx:x=FH d es 0 l){r:List PV×Int}(hr:r=HF d nE es x (x+1) ((l:Int)-(x+1)).toNat):
  0<=x/\x<l/\x<=r.2/\r.2<l/\r.2.toNat=(Dg d (es.take l)).length/\r.1.length=es.length/\r.1.take r.2.toNat=Dg d (es.take l)/\r.1.drop l=es.drop l/\r.1.take r.2.toNat++List.replicate (l-r.2.toNat) z++r.1.drop l=FZ d z es l:=by
 obtain⟨g1,g2,g3,g4⟩:=TW es l 0 (by omega) (by omega) h;rw[<- hx]at g1 g2 g3 g4;have hlen:=Sk (d:=d) (nE:=nE) ((l:Int)-(x+1)).toNat es x (x+1);obtain⟨t1,t2,t3,t4,t5⟩:=OH (d:=d) ((l:Int)-(x+1)).toNat es x (x+1) hN (by omega) (by omega) (by omega);rw[<- hr]at hlen t1 t2 t3 t4 t5;obtain⟨hl',he⟩:=W9 (es:=es) (i:=x) (by omega) (by omega);have e0:(x+1).toNat+((l:Int)-(x+1)).toNat=l:=by omega
 rw[e0]at t4;have hF:r.1.take r.2.toNat=Dg d (es.take l):=by
  rw[t1];rw[show(0:Int).toNat=0 from rfl,AH,Int.sub_zero]at g4;have hsplit:es.take l=es.take x.toNat++(rE es x::(es.drop (x+1).toNat).take ((l:Int)-(x+1)).toNat):=by
   have a1:es.take l=es.take x.toNat++(es.drop x.toNat).take (l-x.toNat):=by
    rw[<- List.take_add,show x.toNat+(l-x.toNat)=l by omega]
   rw[a1,B5 hl',<- he,show l-x.toNat=((l:Int)-(x+1)).toNat+1 by omega,CL,show(x+1).toNat=x.toNat+1 by omega]
  rw[hsplit];unfold Dg at g4 ⊢;rw[List.filter_append,g4,B_,g3];rfl
 have hk:(Dg d (es.take l)).length=r.2.toNat:=by rw[<- hF,Az,hlen];omega
 refine⟨by omega,by omega,t2,by omega,hk.symm,hlen,hF,t4,?_⟩;unfold FZ;rw[hk,hF,t4]
theorem DO{b:Bool}{x r:PV}(h:(DT.br b (.leaf x) .no).run=some r):b=true/\r=x:=by
 cases b with
 |true=>cases h;exact⟨rfl,rfl⟩
 |false=>cases h
def OI:List PV->Option (DT PV)
 | [.agg [.val (.int .i64 _),.Db _ 28 L,.val (.int .i64 lv),.val (.string _),.val (.string _),.val (.bool _),.val (.int .i64 _),.val (.int .i64 _)]]=>some (.br (PE L) (.leaf (.D8 [lg L lv,pw L lv])) .no)
 |_=>none
theorem gR(i:Int)(f:Bool)(L:List PV)(lv:Int)(cs nm:ByteArray)(st:Bool)(wt ds:Int)(h:PE L=true):DC Try.prog R1 60 25 [LQ i f L lv cs nm st wt ds]=some (.D8 [lg L lv,pw L lv]):=by
 unfold PE at h;simp only[Aa,Am]at h;rw[mz,h.1,h.2.1.1,h.2.1.2,h.2.2.1,h.2.2.2];rfl
theorem uu:Hx.Df Try.prog 25:=(Cz yA (n:=60) (gR 0 false [FL 0 0] 0 .empty .empty false 0 0 rfl)).1
theorem uw(args:List PV)(d:DT PV)(r:PV)(h:OI args=some d)(hr:d.run=some r):Ds Try.prog 25 args r:=by
 unfold OI at h;split at h
 ·rename_i i f L lv cs nm st wt ds;cases h;obtain⟨h1,rfl⟩:=DO hr;exact(Cz yA (n:=60) (gR i f L lv cs nm st wt ds h1)).2
 ·cases h
noncomputable def R2:C9:=(R0.DH 25 OI).Gf 68
theorem ae8:C4 Try.prog R2.env:=(yz.DH uu uw).Gf 68
abbrev wI(e:PV):Int:=(e.cellAt 0).DN
abbrev wL(e:PV):List PV:=(e.cellAt 1).Tc
abbrev MQ(e:PV):Int:=(e.cellAt 2).DN
abbrev IX(e:PV):Bool:=(e.cellAt 5).cH
abbrev fnO(j:Nat):X1:=.fn 69 [] [.ptr j 1 0 0]
def Zi:S1:=⟨19,[(0,.sl 1),(1,fnO 0),(7,Dm),(8,Dm)],[.one 4 1 .bool,.many 49 8]⟩
abbrev lX(n l:Nat)(len i:Int)(fl nl:Bool)(es:List PV):LS:=([.n n,.n l,.i len,.i i],[.b fl,.l nl es])
noncomputable abbrev xX0(fl nl:Bool)(es:List PV):PX×List PV×List Row:=(.exit 0,tm 19 [],(Zi.put (lX 0 0 0 0 fl nl es)).2)
noncomputable abbrev xX1(i:Int)(fl nl:Bool)(es:List PV):PX×List PV×List Row:=(.ret,tm 19 [(4,iv i)],(Zi.put (lX 0 0 0 0 fl nl es)).2)
theorem qX(n l:Nat)(len i:Int)(fl nl:Bool)(es:List PV):Dc Try.prog R2 60 39 (Dh Try.f39 2) [0,1,7,8] [4] (Zi.put (lX n l len i fl nl es)).1 (Zi.put (lX n l len i fl nl es)).2 =
 bif decide (i<len) then Sj es n l i (HV es n (bif ((wL (rE es i)).length:Int)==0 then some (xX1 i fl nl es) else bif fl then bif IX (rE es i) then some (xX1 i fl nl es) else some (.normal,Zi.put (lX n l len (W (i+1)) fl nl es)) else some (.normal,Zi.put (lX n l len (W (i+1)) fl nl es)))) else some (xX0 fl nl es):=by kernel_rfl
def Dd(fl:Bool)(e:PV):Bool:=(((wL e).length:Int)==0)||(fl&&IX e)
theorem dK{fl:Bool}{e:PV}{α:Type}(x y:α):(bif ((wL e).length:Int)==0 then x else bif fl then bif IX e then x else y else y)=bif Dd fl e then x else y:=by
 unfold Dd;cases((wL e).length:Int)==0 <;> cases fl <;> cases IX e <;> rfl
def pX:LS->Bool
 |([.n n,.n l,.i len,.i i],[.b _,.l _ es])=>decide (n=es.length)&&decide (l=es.length)&&decide (len=(es.length:Int))&&decide (0<=i)&&decide (i<=len)&&decide (es.length<=1000)
 |_=>false
noncomputable def fX:LS->DT (PX×List PV×List Row)
 |([.n _,.n _,.i len,.i i],[.b fl,.l nl es])=>.br (I5 (Dd fl) es i (len-i).toNat) (.leaf (xX1 (FH (Dd fl) es i (len-i).toNat) fl nl es)) (.leaf (xX0 fl nl es))
 |_=>.no
def mX:LS->Nat
 |([.n _,.n _,.i len,.i i],[.b _,.l _ _])=>(len-i).toNat
 |_=>0
theorem Gb{α:Type}{b:Bool}{x y r:α}(h:(DT.br b (.leaf x) (.leaf y)).run=some r):r=bif b then x else y:=by cases b <;> (cases h;rfl)
theorem sX:∀ s r,pX s=true->(fX s).run=some r->r.1≠.normal/\(Dc Try.prog R2 60 39 (Dh Try.f39 2) [0,1,7,8] [4] (Zi.put s).1 (Zi.put s).2=some r \/
   ∃ s',Dc Try.prog R2 60 39 (Dh Try.f39 2) [0,1,7,8] [4] (Zi.put s).1 (Zi.put s).2=some (.normal,Zi.put s')/\pX s'=true/\mX s'<mX s/\(fX s').run=some r):=by
 intro t r hp hr;unfold pX at hp;split at hp
 ·rename_i n l len i fl nl es;simp only[Aa,Ab]at hp;obtain⟨⟨⟨⟨⟨rfl,rfl⟩,rfl⟩,h4⟩,h5⟩,h6⟩:=hp;have hr':=Gb hr;refine⟨by rw[hr'];cases I5 (Dd fl) es i ((es.length:Int)-i).toNat <;> simp,?_⟩;rw[show Zi.put ([.n es.length,.n es.length,.i (es.length:Int),.i i],[.b fl,.l nl es])=Zi.put (lX es.length es.length (es.length:Int) i fl nl es) from rfl,qX];by_cases hi:i<(es.length:Int)
  ·rw[Ac hi,Aj,FD rfl h4 hi,DK rfl,dK,Dx (by omega) (by omega)];obtain⟨m,hm⟩:∃ m,((es.length:Int)-i).toNat=m+1:=⟨((es.length:Int)-i).toNat-1,by omega⟩;have hm2:((es.length:Int)-(i+1)).toNat=m:=by omega
   rw[hm]at hr';simp only[I5,FH]at hr';cases c1:Dd fl (rE es i) with
   |true=>rw[c1]at hr';exact .inl (by rw[hr'];rfl)
   |false=>
    rw[c1]at hr';refine .inr ⟨lX es.length es.length (es.length:Int) (i+1) fl nl es,rfl,by simp only[pX,Aa,Ab];exact⟨⟨⟨⟨⟨trivial,trivial⟩,trivial⟩,by omega⟩,by omega⟩,h6⟩,by simp only[mX];omega,?_⟩;rw[hr'];simp only[fX,hm2,Bk,Ap];show _=some (bif I5 (Dd fl) es (i+1) m then _ else _)
    cases I5 (Dd fl) es (i+1) m <;> rfl
  ·rw[Ai hi];rw[show((es.length:Int)-i).toNat=0 by omega]at hr';exact .inl (by rw[hr'];rfl)
 ·cases hp
noncomputable def R3:C9:=R2.Dr 39 2 [0,1,7,8] [] Zi pX fX
theorem afa:C4 Try.prog R3.env:=
 ae8.Dr (n:=60) Try.func39 (show Try.f39.body=some (D3 Try.f39) by kernel_rfl) (show(loops (D3 Try.f39)).filter (fun b=>Ev b==2)=[Dh Try.f39 2] by kernel_rfl) [0,1,7,8] [4] [] Zi mX sX
def X9:S1:=⟨42,[(0,.sl 1),(1,fnO 0),(5,Dm),(6,Dm)],[.one 4 1 .bool,.many 49 8]⟩
abbrev lY(n l:Nat)(i j:Int)(fl nl:Bool)(es:List PV):LS:=([.n n,.n l,.i i,.i j],[.b fl,.l nl es])
noncomputable abbrev xY(n l:Nat)(i:Int)(fl nl:Bool)(es:List PV):PX×List PV×List Row:=(.exit 0,tm 42 [(0,.sl 1 n 0 l),(5,iv i)],(X9.put (lY n l i 0 fl nl es)).2)
def Ee(e:PV):PV:=LQ (wI e) false (wL e) (MQ e) (e.cellAt 3).Hz (e.cellAt 4).Hz (IX e) (e.cellAt 6).DN (e.cellAt 7).DN
theorem qY(n l:Nat)(i j:Int)(fl nl:Bool)(es:List PV):Dc Try.prog R3 60 67 (Dh Try.f67 5) [0,1,5,6] [0,5] (X9.put (lY n l i j fl nl es)).1 (X9.put (lY n l i j fl nl es)).2 =
 bif decide (j<(l:Int)) then Sj es n l j (HV es n (
  bif ((wL (rE es j)).length:Int)==0 then some (.normal,X9.put (lY n l i (W (j+1)) fl nl es)) else
  bif fl then (bif !IX (rE es j) then yK es n l i (some (.normal,X9.put (lY n l (W (i+1)) (W (j+1)) fl nl (es.set (0+i.toNat) (Ee (rE es j)))))) else some (.normal,X9.put (lY n l i (W (j+1)) fl nl es))) else
   yK es n l i (some (.normal,X9.put (lY n l (W (i+1)) (W (j+1)) fl nl (es.set (0+i.toNat) (Ee (rE es j)))))))) else some (xY n l i fl nl es):=by kernel_rfl
def pY:LS->Bool
 |([.n n,.n l,.i i,.i j],[.b _,.l _ es])=>decide (n=es.length)&&decide (l=es.length)&&decide (0<=i)&&decide (i<j)&&decide (j<=(es.length:Int))&&decide (es.length<=1000)
 |_=>false
noncomputable def fY:LS->DT (PX×List PV×List Row)
 |([.n n,.n l,.i i,.i j],[.b fl,.l nl es])=>.leaf (xY n l (HF (Dd fl) Ee es i j ((l:Int)-j).toNat).2 fl nl (HF (Dd fl) Ee es i j ((l:Int)-j).toNat).1)
 |_=>.no
def mY:LS->Nat
 |([.n _,.n l,.i _,.i j],[.b _,.l _ _])=>((l:Int)-j).toNat
 |_=>0
theorem Zj{fl:Bool}{e:PV}{α:Type}(x y:α):(bif ((wL e).length:Int)==0 then x else bif fl then bif !IX e then y else x else y)=bif Dd fl e then x else y:=by
 unfold Dd;cases((wL e).length:Int)==0 <;> cases fl <;> cases IX e <;> rfl
theorem sY:∀ s r,pY s=true->(fY s).run=some r->r.1≠.normal/\(Dc Try.prog R3 60 67 (Dh Try.f67 5) [0,1,5,6] [0,5] (X9.put s).1 (X9.put s).2=some r \/
   ∃ s',Dc Try.prog R3 60 67 (Dh Try.f67 5) [0,1,5,6] [0,5] (X9.put s).1 (X9.put s).2=some (.normal,X9.put s')/\pY s'=true/\mY s'<mY s/\(fY s').run=some r):=by
 intro t r hp hr;unfold pY at hp;split at hp
 ·rename_i n l i j fl nl es;simp only[Aa,Ab]at hp;obtain⟨⟨⟨⟨⟨rfl,rfl⟩,h3⟩,h4⟩,h5⟩,h6⟩:=hp;have hr':=(Ah hr).symm;refine⟨by rw[hr'];simp,?_⟩;rw[show X9.put ([.n es.length,.n es.length,.i i,.i j],[.b fl,.l nl es])=X9.put (lY es.length es.length i j fl nl es) from rfl,qY];by_cases hj:j<(es.length:Int)
  ·rw[Ac hj,Aj,FD rfl (by omega) hj,DK rfl,Dx (n:=j+1) (by omega) (by omega),Dx (n:=i+1) (by omega) (by omega),Zj,gP rfl h3 (by omega)];obtain⟨m,hm⟩:∃ m,((es.length:Int)-j).toNat=m+1:=⟨((es.length:Int)-j).toNat-1,by omega⟩;have hm2:((es.length:Int)-(j+1)).toNat=m:=by omega
   rw[hm]at hr';simp only[HF]at hr';right
   cases c1:Dd fl (rE es j) with
   |true=>
    rw[c1]at hr';refine⟨lY es.length es.length i (j+1) fl nl es,rfl,by simp only[pY,Aa,Ab];exact⟨⟨⟨⟨⟨trivial,trivial⟩,h3⟩,by omega⟩,by omega⟩,h6⟩,by simp only[mY];omega,?_⟩;rw[hr'];simp only[fY,hm2,Aj];rfl
   |false=>
    rw[c1]at hr';refine⟨lY es.length es.length (i+1) (j+1) fl nl (es.set (0+i.toNat) (Ee (rE es j))),rfl,by
     simp only[pY,Aa,Ab,Bh];exact⟨⟨⟨⟨⟨trivial,trivial⟩,by omega⟩,by omega⟩,by omega⟩,h6⟩,by simp only[mY];omega,?_⟩
    rw[hr'];simp only[fY,hm2,Ap];rfl
  ·rw[Ai hj];rw[show((es.length:Int)-j).toNat=0 by omega]at hr';exact .inl (by rw[hr'];rfl)
 ·cases hp
noncomputable def R4:C9:=R3.Dr 67 5 [0,1,5,6] [] X9 pY fY
theorem afb:C4 Try.prog R4.env:=
 afa.Dr (n:=60) Try.func67 (show Try.f67.body=some (D3 Try.f67) by kernel_rfl) (show(loops (D3 Try.f67)).filter (fun b=>Ev b==5)=[Dh Try.f67 5] by kernel_rfl) [0,1,5,6] [0,5] [] X9 mY sY
noncomputable def R5:C9:=R4.Gf 67
theorem dL:C4 Try.prog R5.env:=afb.Gf 67
abbrev zW:PV:=LQ 0 false [] 0 (ByteArray.mk #[]) (ByteArray.mk #[]) false 0 0
def Sl(z:PV)(es:List PV)(i:Int)(l:Nat):List PV:=es.take (0+i.toNat)++List.replicate ((l:Int)-i).toNat z++es.drop (0+i.toNat+((l:Int)-i).toNat)
def yL(L:Nat)(D:List PV)(i:Int):Option PV:=
 bif (D.length==L)&&true then bif decide (0<=i)&&decide (i<(L:Int))&&decide (i<=(L:Int))&&decide ((L:Int)<=(L:Int)) then bif D.length==L then
  bif ((Sl zW D i L).length==L)&&true then bif decide (0<=i)&&decide (i<=(L:Int)) then HV (Sl zW D i L) L (some (.Db false 49 (((Sl zW D i L).drop 0).take i.toNat))) else none else none else none
  else (bif decide (i=(L:Int))&&decide ((L:Int)=(L:Int)) then none else none) else none
def ux(fl:Bool)(E:List PV)(L:Nat):Option PV:=
 HV E L (HV E L (bif pX (lX L L (L:Int) 0 fl false E) then bif I5 (Dd fl) E 0 ((L:Int)-0).toNat then
  bif FH (Dd fl) E 0 ((L:Int)-0).toNat == -1 then HV E L (some (.Db false 49 ((E.drop 0).take L))) else
   bif pY (lY L L (FH (Dd fl) E 0 ((L:Int)-0).toNat) (W (FH (Dd fl) E 0 ((L:Int)-0).toNat+1)) fl false E) then
    yL L (HF (Dd fl) Ee E (FH (Dd fl) E 0 ((L:Int)-0).toNat) (W (FH (Dd fl) E 0 ((L:Int)-0).toNat+1)) ((L:Int)-W (FH (Dd fl) E 0 ((L:Int)-0).toNat+1)).toNat).1
     (HF (Dd fl) Ee E (FH (Dd fl) E 0 ((L:Int)-0).toNat) (W (FH (Dd fl) E 0 ((L:Int)-0).toNat+1)) ((L:Int)-W (FH (Dd fl) E 0 ((L:Int)-0).toNat+1)).toNat).2 else none
  else HV E L (some (.Db false 49 ((E.drop 0).take L))) else none))
theorem yM(f fl:Bool)(es:List PV):DC Try.prog R5 60 38 [.Db f 49 es,bv fl] =
 bif decide (0<es.length) then bif decide ((0+es.length)*96<=140737488355328) then ux fl ([]++es) (0+es.length) else none else none:=by kernel_rfl
theorem OJ{P:Program}{k:FuncId}{args:List PV}{t:TypeId}(h:Ds P k args (.val (.slice none 0 0))):Ds P k args (.Db false t []):=by
 intro C hR Vs hs;refine Calls.mono (h C hR Vs hs) fun e w' hq=>?_
 obtain⟨V,h1,h2,h3⟩:=hq;refine⟨V,h1,h2,?_⟩;cases h3;exact .Db 0 0 (fun _ _=>undef) (Al _) (fun h=>by cases h) (fun h=>by simp at h) (fun x e j p h1 _=>by simp at h1) (fun x e j p h1 _=>by simp at h1) (fun e h1=>by cases h1)
theorem Xc{P:Program}{k:FuncId}{f:Bool}{t:TypeId}{ags:List PV}{r:PV}(h0:∀ cap,Ds P k (.val (.slice none 0 cap)::ags) r)(h1:∀ a cap,Ds P k (.val (.slice (some a) 0 cap)::ags) r):Ds P k (.Db f t []::ags) r:=by
 intro C hR Vs hs;have h0s:0<Vs.size:=by rw[hs.1];simp
 have hv:=hs.2 0 _ Vs[0] rfl (AD h0s);have go:∀ V:Value,V=Vs[0]->Cs P C (.val V::ags) Vs:=fun V hV=>⟨by rw[hs.1];simp,fun j c v g1 g2=>by
  match j with
  |0=>
   simp only[AZ,A4]at g1;subst g1;rw[AD h0s]at g2;cases g2;rw[hV];exact .val
  |j+1=>exact hs.2 (j+1) c v (by simpa using g1) g2⟩
 generalize hV:Vs[0]=V at hv;cases hv with
 | @Db _ _ _ a cap b off cv hcap hfull ha hc hr ht=>
  cases a with
  |none=>exact h0 cap C hR Vs (go _ hV.symm)
  |some ad=>exact h1 ad cap C hR Vs (go _ hV.symm)
noncomputable def EL(nE:PV->PV)(es:List PV):Bool:=@decide (Ei nE es) (Classical.propDecidable _)
theorem DX{nE:PV->PV}{es:List PV}:EL nE es=true ↔ Ei nE es:=by unfold EL;exact @BB _ (Classical.propDecidable _)
theorem mK{fl:Bool}{es:List PV}(h:es.length<=1000)(hN:Ei Ee es):ux fl es es.length=some (.Db false 49 (Dg (Dd fl) es)):=by
 unfold ux;have hp:pX (lX es.length es.length (es.length:Int) 0 fl false es)=true:=by simp only[pX,Aa,Ab];exact⟨⟨⟨⟨⟨trivial,trivial⟩,trivial⟩,by omega⟩,by omega⟩,h⟩
 rw[DK rfl,DK rfl,hp,show((es.length:Int)-0).toNat=es.length by omega,Aj,DK rfl,AH,Bi];cases ha:I5 (Dd fl) es 0 es.length with
 |false=>
  have g:=(Xa (Al _) ha zW).1;rw[Bi]at g;rw[Ap,g]
 |true=>
  obtain⟨g1,g2,g3,g4,g5,g6,g7,g8,g9⟩:=Xb hN (Al _) ha zW rfl rfl;rw[Bi]at g5 g7;generalize FH (Dd fl) es 0 es.length=x at *;have hw:W (x+1)=x+1:=Dx (by omega) (by omega);have hy:pY (lY es.length es.length x (x+1) fl false es)=true:=by simp only[pY,Aa,Ab];exact⟨⟨⟨⟨⟨trivial,trivial⟩,by omega⟩,by omega⟩,by omega⟩,h⟩
  rw[hw,hy,Aj,Aj,show(x == -1)=false by rw[AM];omega,Ap];generalize HF (Dd fl) Ee es x (x+1) ((es.length:Int)-(x+1)).toNat=r at *;obtain⟨D,i⟩:=r;dsimp only at g3 g4 g5 g6 g7 g8 g9 ⊢;have hc:(Sl zW D i es.length).take i.toNat=D.take i.toNat:=by
   unfold Sl;rw[AN,BA,List.take_left' (by rw[Az];omega)]
  have hcl:(Sl zW D i es.length).length=es.length:=by
   unfold Sl;simp only[Ar,Az,Cj,BL];omega
  unfold yL;rw[hcl,g6,AP,show(decide (0<=i)&&decide (i<(es.length:Int))&&decide (i<=(es.length:Int))&&decide ((es.length:Int)<=(es.length:Int)))=true by simp;omega,show(decide (0<=i)&&decide (i<=(es.length:Int)))=true by simp;omega,DK hcl,AH,hc,g7];rfl
theorem uy(f fl:Bool)(es:List PV)(h:es.length<=1000)(hN:Ei Ee es)(h0:0<es.length):DC Try.prog R5 60 38 [.Db f 49 es,bv fl]=some (.Db false 49 (Dg (Dd fl) es)):=by
 rw[yM,Ac h0,Ac (show(0+es.length)*96<=140737488355328 by omega),Bc,AN,mK h hN];rfl
theorem afc(a:Addr)(cap:Nat)(fl:Bool):DC Try.prog R5 60 38 [.val (.slice (some a) 0 cap),bv fl]=some (.Db false 49 []):=by kernel_rfl
theorem yN(fl:Bool):DC Try.prog R5 60 38 [.val (.slice none 0 0),bv fl]=some (.val (.slice none 0 0)):=by kernel_rfl
theorem afd(n:Nat)(fl:Bool):DC Try.prog R5 60 38 [.val (.slice none 0 (n+1)),bv fl]=some (.val (.slice none 0 0)):=by kernel_rfl
theorem yO(fl:Bool):∀ cap:Nat,DC Try.prog R5 60 38 [.val (.slice none 0 cap),bv fl]=some (.val (.slice none 0 0))
 |0=>yN fl
 |n+1=>afd n fl
noncomputable def gS:List PV->Option (DT PV)
 | [.Db _ 49 es,.val (.bool fl)]=>some (.br (decide (es.length<=1000)&&EL Ee es) (.leaf (.Db false 49 (Dg (Dd fl) es))) .no)
 | [.val (.slice none 0 0),.val (.bool _)]=>some (.leaf (.Db false 49 []))
 |_=>none
theorem yP:Hx.Df Try.prog 38:=(Cz dL (n:=60) (yN false)).1
theorem yQ(args:List PV)(d:DT PV)(r:PV)(h:gS args=some d)(hr:d.run=some r):Ds Try.prog 38 args r:=by
 unfold gS at h;split at h
 ·rename_i f es fl;cases h;obtain⟨h1,rfl⟩:=DO hr;simp only[Aa,Ab,DX]at h1;by_cases h0:0<es.length
  ·exact(Cz dL (n:=60) (uy f fl es h1.1 h1.2 h0)).2
  ·have:es=[]:=BH (by omega);subst this;exact Xc (fun cap=>OJ (Cz dL (n:=60) (yO fl cap)).2) fun a cap=>(Cz dL (n:=60) (afc a cap fl)).2
 ·rename_i fl;cases h;cases hr;exact OJ (Cz dL (n:=60) (yO fl 0)).2
 ·cases h
noncomputable def R6:C9:=R5.DH 38 gS
theorem afe:C4 Try.prog R6.env:=dL.DH yP yQ
noncomputable def R7:C9:=R6.Ez 37 6
theorem aff:C4 Try.prog R7.env:=afe.Ez 37 6
def eH:S1:=⟨27,[(3,.mp 0),(10,.Db 49),(11,Dm),(12,Dm)],[.map 30 4]⟩
abbrev lS(f:Bool)(es:List PV)(len i:Int)(D:List (PV×PV)):LS:=([.l f es,.i len,.i i],[.m D])
def D9(D:List (PV×PV))(e:PV):List (PV×PV):=EV (EV D (lg (wL e) (MQ e)) (bv true)) (pw (wL e) (MQ e)) (bv true)
def G4(es:List PV)(D:List (PV×PV)):List (PV×PV):=es.foldl D9 D
noncomputable abbrev xS(D:List (PV×PV)):PX×List PV×List Row:=(.exit 0,tm 27 [(3,.mp 0)],[DD k0 30 4 D])
theorem qS(f:Bool)(es:List PV)(len i:Int)(D:List (PV×PV)):Dc Try.prog R7 60 37 (Dh Try.f37 3) [3,10,11,12] [3] (eH.put (lS f es len i D)).1 (eH.put (lS f es len i D)).2 =
 bif decide (i<len) then bif decide (0<=i)&&decide (i<(es.length:Int)) then bif PE (wL (es.getD i.toNat .any)) then
  some (.normal,eH.put (lS f es len (W (i+1)) (D9 D (es.getD i.toNat .any)))) else none else none else some (xS D):=by kernel_rfl
def pS:LS->Bool
 |([.l _ es,.i len,.i i],[.m _])=>decide (len=(es.length:Int))&&decide (0<=i)&&decide (i<=len)&&decide (es.length<=1000)&&(es.drop i.toNat).all fun e=>PE (wL e)
 |_=>false
noncomputable def fS:LS->DT (PX×List PV×List Row)
 |([.l _ es,.i _,.i i],[.m D])=>.leaf (xS (G4 (es.drop i.toNat) D))
 |_=>.no
def mS:LS->Nat
 |([.l _ _,.i len,.i i],[.m _])=>(len-i).toNat
 |_=>0
theorem Dt{es:List PV}{i:Int}(h1:0<=i)(h2:i<(es.length:Int)):es.drop i.toNat=es.getD i.toNat .any::es.drop (i+1).toNat:=by
 rw[B5 (by omega),show(i+1).toNat=i.toNat+1 by omega,Ay,Ae (by omega)];rfl
theorem sS:∀ s r,pS s=true->(fS s).run=some r->r.1≠.normal/\(Dc Try.prog R7 60 37 (Dh Try.f37 3) [3,10,11,12] [3] (eH.put s).1 (eH.put s).2=some r \/
   ∃ s',Dc Try.prog R7 60 37 (Dh Try.f37 3) [3,10,11,12] [3] (eH.put s).1 (eH.put s).2=some (.normal,eH.put s')/\pS s'=true/\mS s'<mS s/\(fS s').run=some r):=by
 intro t r hp hr;unfold pS at hp;split at hp
 ·rename_i f es len i D;simp only[Aa,Ab]at hp;obtain⟨⟨⟨⟨rfl,h2⟩,h3⟩,h4⟩,h5⟩:=hp;have hr':=(Ah hr).symm;refine⟨by rw[hr'];simp,?_⟩;rw[show eH.put ([.l f es,.i (es.length:Int),.i i],[.m D])=eH.put (lS f es (es.length:Int) i D) from rfl,qS];by_cases hi:i<(es.length:Int)
  ·rw[Dt h2 hi,Cu,Aa]at h5;rw[Ac hi,Ac h2,h5.1,Dx (by omega) (by omega)];refine .inr ⟨lS f es es.length (i+1) (D9 D (es.getD i.toNat .any)),rfl,by simp only[pS,Aa,Ab];exact⟨⟨⟨⟨trivial,by omega⟩,by omega⟩,h4⟩,h5.2⟩,by simp only[mS];omega,?_⟩;rw[hr',Dt h2 hi];rfl
  ·rw[Ai hi,AB (by omega)] at *;exact .inl (by rw[hr'];rfl)
 ·cases hp
noncomputable def R8:C9:=R7.Dr 37 3 [3,10,11,12] [] eH pS fS
theorem afg:C4 Try.prog R8.env:=
 aff.Dr (n:=60) Try.func37 (show Try.f37.body=some (D3 Try.f37) by kernel_rfl) (show(loops (D3 Try.f37)).filter (fun b=>Ev b==3)=[Dh Try.f37 3] by kernel_rfl) [3,10,11,12] [3] [] eH mS sS
noncomputable def R9:C9:=(R8.Gf 37).Sg Try.prog
theorem yR:C4 Try.prog R9.env:=(afg.Gf 37).Sg
def gT:List PV->Option PV | [.val (.int .i64 a),.val (.int .i64 b)]=>some (iv (P9 (a-b))) |_=>none
theorem gV(a b:Int):(bif a != a then (bif b != b then some (iv 0) else some (iv (-1))) else bif b != b then some (iv 1) else bif decide (a<b) then some (iv (-1)) else bif decide (a > b) then some (iv 1) else some (iv 0))=some (iv (P9 (a-b))):=by
 rw[Cp,Cp];unfold P9;by_cases h1:a<b
 ·rw[Ac h1,Ak (by omega)];rfl
 ·rw[Ai h1,Aq (by omega)];by_cases h2:a > b
  ·rw[Ac h2,Ak (by omega)];rfl
  ·rw[Ai h2,Aq (by omega)];rfl
theorem yS(a b:Int):DC Try.prog R9 60 48 [iv a,iv b]=bif a != a then (bif b != b then some (iv 0) else some (iv (-1))) else bif b != b then some (iv 1) else bif decide (a<b) then some (iv (-1)) else bif decide (a > b) then some (iv 1) else some (iv 0):=by kernel_rfl
theorem yT(args:List PV)(r:PV)(h:gT args=some r):Hx.Df Try.prog 48/\Ds Try.prog 48 args r:=by
 unfold gT at h;split at h
 ·rename_i a b;cases h;exact Cz yR (n:=60) ((yS a b).trans (gV a b))
 ·cases h
noncomputable def R10:C9:=R9.EM 48 gT
theorem pz:C4 Try.prog R10.env:=yR.EM yT
def yU(a b c d:Int):Int:=bif a != 0 then a else bif b != 0 then b else bif c != 0 then c else bif d != 0 then d else 0
def cOr:List PV->Option PV
 | [.Db _ 3 [.val (.int .i64 a),.val (.int .i64 b),.val (.int .i64 c),.val (.int .i64 d)]]=>some (iv (yU a b c d))
 |_=>none
theorem yV(f:Bool)(a b c d:Int):DC Try.prog R10 60 47 [.Db f 3 [iv a,iv b,iv c,iv d]]=bif a != 0 then some (iv a) else bif b != 0 then some (iv b) else bif c != 0 then some (iv c) else bif d != 0 then some (iv d) else some (iv 0):=by kernel_rfl
theorem oOr(args:List PV)(r:PV)(h:cOr args=some r):Hx.Df Try.prog 47/\Ds Try.prog 47 args r:=by
 unfold cOr at h;split at h
 ·rename_i f a b c d;cases h;refine Cz pz (n:=60) ((yV f a b c d).trans ?_);unfold yU;cases a != 0 <;> cases b != 0 <;> cases c != 0 <;> cases d != 0 <;> rfl
 ·cases h
noncomputable def yW:C9:=R10.EM 47 cOr
theorem yX:C4 Try.prog yW.env:=pz.EM oOr
def Zk(px py x y:Int):Int:=W (W (W (px-x)*W (px-x))+W (W (py-y)*W (py-y)))
def mM(px py ax ay al bx bY bl:Int):Int:=yU (P9 (Zk px py ax ay-Zk px py bx bY)) (P9 (ax-bx)) (P9 (ay-bY)) (P9 (al-bl))
abbrev pR(x y:Int):Row:={ es:=[FL x y],s:=2,t:=28,bv:=true }
abbrev fR:Row:={ es:=[.fn (.func 44) [] [.ptr 0 1 0 0]],s:=1,t:=92,bv:=false }
abbrev aS:X1:=.agg [Dm,Dm,Dm]
def Xd:S1:=⟨31,[(0,.Db 30),(1,.fn 46 [] [.ptr 5 1 0 0]),(4,.ptr 6 1 0 0),(6,.ptr 7 1 0 0),(9,.Db 30),(10,Dm),(11,Dm)],
 [.one 28 2 (.agg [Dm,Dm]),.one 30 3 aS,.map 30 4,.its 2,.dead,.Gx 92 1 (.fn 44 [] [.ptr 0 1 0 0]),.one 30 3 aS,.one 30 3 aS]⟩
abbrev gX(e:PV):Int:=(e.cellAt 0).DN
abbrev gY(e:PV):Int:=(e.cellAt 1).DN
abbrev gL(e:PV):Int:=(e.cellAt 2).DN
abbrev lL(c0 c1 c2:Int)(D:List (PV×PV))(g:Bool)(Ld:List PV)(f:Bool)(es:List PV)(len i px py a0 a1 a2 b0 b1 b2:Int):LS:=([.l g Ld,.l f es,.i len,.i i],[.i px,.i py,.i c0,.i c1,.i c2,.m D,.i a0,.i a1,.i a2,.i b0,.i b1,.i b2])
noncomputable abbrev xL(c0 c1 c2:Int)(D:List (PV×PV))(g:Bool)(Ld:List PV)(px py a0 a1 a2 b0 b1 b2:Int):PX×List PV×List Row:=(.exit 0,tm 31 [(0,.Db g 30 Ld),(4,.ptr 6 1 0 0),(6,.ptr 7 1 0 0)],(Xd.put (lL c0 c1 c2 D g Ld g Ld 0 0 px py a0 a1 a2 b0 b1 b2)).2)
theorem qL(c0 c1 c2:Int)(D:List (PV×PV))(g:Bool)(Ld:List PV)(f:Bool)(es:List PV)(len i px py a0 a1 a2 b0 b1 b2:Int):Dc Try.prog yW 60 45 (Dh Try.f45 3) [0,1,4,6,9,10,11] [0,4,6] (Xd.put (lL c0 c1 c2 D g Ld f es len i px py a0 a1 a2 b0 b1 b2)).1 (Xd.put (lL c0 c1 c2 D g Ld f es len i px py a0 a1 a2 b0 b1 b2)).2 =
 bif decide (i<len) then bif decide (0<=i)&&decide (i<(es.length:Int)) then
  bif i==0 then some (.normal,Xd.put (lL c0 c1 c2 D g Ld f es len (W (i+1)) px py a0 a1 a2 (gX (es.getD i.toNat .any)) (gY (es.getD i.toNat .any)) (gL (es.getD i.toNat .any)))) else
  bif decide (mM px py (gX (es.getD i.toNat .any)) (gY (es.getD i.toNat .any)) (gL (es.getD i.toNat .any)) b0 b1 b2<0) then some (.normal,Xd.put (lL c0 c1 c2 D g Ld f es len (W (i+1)) px py a0 a1 a2 (gX (es.getD i.toNat .any)) (gY (es.getD i.toNat .any)) (gL (es.getD i.toNat .any))))
  else some (.normal,Xd.put (lL c0 c1 c2 D g Ld f es len (W (i+1)) px py a0 a1 a2 b0 b1 b2)) else none else some (xL c0 c1 c2 D g Ld px py a0 a1 a2 b0 b1 b2):=by kernel_rfl
abbrev T3:=Int×Int×Int
abbrev DA(e:PV):T3:=(gX e,gY e,gL e)
def GU(px py:Int)(a b:T3):Bool:=decide (mM px py a.1 a.2.1 a.2.2 b.1 b.2.1 b.2.2<0)
def EF(px py:Int):Bool->T3->List PV->T3
 |_,b,[]=>b
 |first,b,e::es=>EF px py false (bif first then DA e else bif GU px py (DA e) b then DA e else b) es
def pL:LS->Bool
 |([.l _ _,.l _ es,.i len,.i i],[.i _,.i _,.i _,.i _,.i _,.m _,.i _,.i _,.i _,.i _,.i _,.i _])=>decide (len=(es.length:Int))&&decide (0<=i)&&decide (i<=len)&&decide (es.length<=10000)
 |_=>false
noncomputable def fL:LS->DT (PX×List PV×List Row)
 |([.l g Ld,.l _ es,.i _,.i i],[.i px,.i py,.i c0,.i c1,.i c2,.m D,.i a0,.i a1,.i a2,.i b0,.i b1,.i b2])=>
  .leaf (xL c0 c1 c2 D g Ld px py a0 a1 a2 (EF px py (i==0) (b0,b1,b2) (es.drop i.toNat)).1 (EF px py (i==0) (b0,b1,b2) (es.drop i.toNat)).2.1 (EF px py (i==0) (b0,b1,b2) (es.drop i.toNat)).2.2)
 |_=>.no
def mL:LS->Nat
 |([.l _ _,.l _ _,.i len,.i i],_)=>(len-i).toNat
 |_=>0
theorem sLs:∀ s r,pL s=true->(fL s).run=some r->r.1≠.normal/\(Dc Try.prog yW 60 45 (Dh Try.f45 3) [0,1,4,6,9,10,11] [0,4,6] (Xd.put s).1 (Xd.put s).2=some r \/
   ∃ s',Dc Try.prog yW 60 45 (Dh Try.f45 3) [0,1,4,6,9,10,11] [0,4,6] (Xd.put s).1 (Xd.put s).2=some (.normal,Xd.put s')/\pL s'=true/\mL s'<mL s/\(fL s').run=some r):=by
 intro t r hp hr;unfold pL at hp;split at hp
 ·rename_i g Ld f es len i px py c0 c1 c2 D a0 a1 a2 b0 b1 b2;simp only[Aa,Ab]at hp;obtain⟨⟨⟨rfl,h2⟩,h3⟩,h4⟩:=hp;have hr':=(Ah hr).symm;refine⟨by rw[hr'];simp,?_⟩;rw[show Xd.put ([.l g Ld,.l f es,.i (es.length:Int),.i i],[.i px,.i py,.i c0,.i c1,.i c2,.m D,.i a0,.i a1,.i a2,.i b0,.i b1,.i b2])=Xd.put (lL c0 c1 c2 D g Ld f es (es.length:Int) i px py a0 a1 a2 b0 b1 b2) from rfl,qL];by_cases hi:i<(es.length:Int)
  ·rw[Ac hi,Ac h2,Dx (by omega) (by omega)];have hi1:(i+1==0)=false:=by rw[AM];omega
   have go:∀ e0 e1 e2:Int,(e0,e1,e2)=(bif i==0 then DA (es.getD i.toNat .any) else bif GU px py (DA (es.getD i.toNat .any)) (b0,b1,b2) then DA (es.getD i.toNat .any) else (b0,b1,b2)) ->
     ∃ s',Xd.put (lL c0 c1 c2 D g Ld f es (es.length:Int) (i+1) px py a0 a1 a2 e0 e1 e2)=Xd.put s'/\pL s'=true/\mL s'<mL (lL c0 c1 c2 D g Ld f es (es.length:Int) i px py a0 a1 a2 b0 b1 b2)/\(fL s').run=some r:=fun e0 e1 e2 hc=>by
    refine⟨lL c0 c1 c2 D g Ld f es (es.length:Int) (i+1) px py a0 a1 a2 e0 e1 e2,rfl,by simp only[pL,Aa,Ab];exact⟨⟨⟨trivial,by omega⟩,by omega⟩,h4⟩,by simp only[mL];omega,?_⟩;rw[hr',Dt h2 hi];simp only[EF,fL,hi1];rw[<- hc];rfl
   simp only[Aj,A_];cases c1:i==0 with
   |true=>
    obtain⟨s',g1,g2,g3,g4⟩:=go (gX (es.getD i.toNat .any)) (gY (es.getD i.toNat .any)) (gL (es.getD i.toNat .any)) (by rw[c1];rfl);exact .inr ⟨s',by rw[Aj,g1],g2,g3,g4⟩
   |false=>
    cases c2:decide (mM px py (gX (es.getD i.toNat .any)) (gY (es.getD i.toNat .any)) (gL (es.getD i.toNat .any)) b0 b1 b2<0) with
    |true=>
     obtain⟨s',g1,g2,g3,g4⟩:=go (gX (es.getD i.toNat .any)) (gY (es.getD i.toNat .any)) (gL (es.getD i.toNat .any)) (by rw[c1];simp only[GU,c2];rfl);exact .inr ⟨s',by rw[Ap,Aj,g1],g2,g3,g4⟩
    |false=>
     obtain⟨s',g1,g2,g3,g4⟩:=go b0 b1 b2 (by rw[c1];simp only[GU,c2];rfl);exact .inr ⟨s',by rw[Ap,Ap,g1],g2,g3,g4⟩
  ·rw[Ai hi];rw[AB (by omega)]at hr';exact .inl (by rw[hr'];rfl)
 ·cases hp
noncomputable def R12:C9:=yW.Dr 45 3 [0,1,4,6,9,10,11] [false,true,false,false,false,false,true,true] Xd pL fL
theorem gW:C4 Try.prog R12.env:=
 yX.Dr (n:=60) Try.func45 (show Try.f45.body=some (D3 Try.f45) by kernel_rfl) (show(loops (D3 Try.f45)).filter (fun b=>Ev b==3)=[Dh Try.f45 3] by kernel_rfl) [0,1,4,6,9,10,11] [0,4,6] [false,true,false,false,false,false,true,true] Xd mL sLs
theorem mV{a b c d:Int}:yU a b c d<0 ↔ a<0\/a=0/\(b<0\/b=0/\(c<0\/c=0/\d<0)):=by
 have nz:∀{n:Int},n≠0->(n != 0)=true:=fun h=>CA.2 h
 unfold yU;by_cases ha:a=0
 ·subst ha;by_cases hb:b=0
  ·subst hb;by_cases hc:c=0
   ·subst hc;by_cases hd:d=0
    ·subst hd;simp
    ·rw[nz hd];simp
   ·rw[nz hc];simp[hc]
  ·rw[nz hb];simp[hb]
 ·rw[nz ha];simp[ha]
theorem LF{n:Int}:P9 n<0 ↔ n<0:=by unfold P9;split <;> (try split) <;> omega
theorem Ss{n:Int}:P9 n=0 ↔ n=0:=by unfold P9;split <;> (try split) <;> omega
abbrev J2(px py:Int)(a:T3):Int:=Zk px py a.1 a.2.1
theorem G5{px py:Int}{a b:T3}:GU px py a b=true ↔ J2 px py a<J2 px py b\/J2 px py a=J2 px py b/\(a.1<b.1\/a.1=b.1/\(a.2.1<b.2.1\/a.2.1=b.2.1/\a.2.2<b.2.2)):=by
 unfold GU mM;rw[BB,mV,LF,LF,LF,LF,Ss,Ss,Ss];simp only[J2];omega
theorem dO{px py:Int}{a:T3}:GU px py a a=false:=by
 rw[B4,ne_eq,G5];omega
theorem dP{px py:Int}{a b:T3}(h1:GU px py a b=false)(h2:GU px py b a=false):a=b:=by
 rw[B4,ne_eq,G5]at h1 h2;obtain⟨a1,a2,a3⟩:=a;obtain⟨b1,b2,b3⟩:=b;simp only at h1 h2;have e1:a1=b1:=by omega
 have e2:a2=b2:=by omega
 have e3:a3=b3:=by omega
 rw[e1,e2,e3]
theorem PG{px py:Int}{a b c:T3}(h1:GU px py b a=false)(h2:GU px py c b=false):GU px py c a=false:=by
 rw[B4,ne_eq,G5] at *;omega
def HX(px py:Int)(m:T3)(l:List T3):Prop:=m∈l/\∀ x∈l,GU px py x m=false
theorem HX.uniq{px py:Int}{m n:T3}{l:List T3}(h:HX px py m l)(k:HX px py n l):m=n:=dP (k.2 m h.1) (h.2 n k.1)
theorem HX.perm{px py:Int}{m:T3}{l l':List T3}(h:HX px py m l)(p:l.Perm l'):HX px py m l':=⟨p.mem_iff.1 h.1,fun x hx=>h.2 x (p.mem_iff.2 hx)⟩
theorem Le{px py:Int}:∀(es:List PV) (b:T3),HX px py (EF px py false b es) (b::es.map DA)
 | [],b=>⟨by simp[EF],fun x hx=>by simp at hx;subst hx;exact dO⟩
 |e::es,b=>by
  rw[EF,Ap];cases h:GU px py (DA e) b with
  |true=>
   obtain⟨h1,h2⟩:=Le (px:=px) (py:=py) es (DA e);rw[Aj];refine⟨AT _ h1,fun x hx=>?_⟩;rcases AK.1 hx with rfl |hx
   ·have h3:=h2 (DA e) (AL ..);refine PG h3 ?_;rw[B4,ne_eq,G5];rw[G5]at h;omega
   ·exact h2 x hx
  |false=>
   obtain⟨h1,h2⟩:=Le (px:=px) (py:=py) es b;rw[Ap];refine⟨?_,fun x hx=>?_⟩
   ·rcases AK.1 h1 with h1 |h1
    ·rw[h1];exact AL ..
    ·exact AT _ (AT _ h1)
   ·rcases AK.1 hx with rfl |hx
    ·exact h2 _ (AL ..)
    ·rcases AK.1 hx with rfl |hx
     ·exact PG (h2 b (AL ..)) h
     ·exact h2 x (AT _ hx)
theorem J3{px py:Int}{b:T3}{es:List PV}(h:es≠[]):HX px py (EF px py true b es) (es.map DA):=by
 cases es with
 |nil=>exact absurd rfl h
 |cons e es=>exact Le es (DA e)
theorem Zl{px py:Int}{b:T3}{es es':List PV}(h:es'.Perm es):EF px py true b es'=EF px py true b es:=by
 by_cases h0:es=[]
 ·subst h0;rw[h.eq_nil]
 ·have h1:es'≠[]:=fun e=>h0 (by subst e;exact h.nil_eq.symm▸rfl)
  exact((J3 (px:=px) (py:=py) (b:=b) h1).perm (h.map DA)).uniq (J3 h0)
abbrev yZ:PV:=.fn (.func 46) [] [.ptr 5 1 0 0]
abbrev J4(px py:Int)(es:List PV):PV:=.D8 [DU (EF px py true (0,0,0) es).1 (EF px py true (0,0,0) es).2.1 (EF px py true (0,0,0) es).2.2,bv (decide ((es.length:Int) > 0))]
abbrev Su(a b c:Int):Row:={ es:=[DU a b c],s:=3,t:=30,bv:=true }
abbrev hL(px py c0 c1 c2:Int)(D:List (PV×PV)):List Row:=[pR px py,Su c0 c1 c2,DD k0 30 4 D,Dz (.mp 2) .some,Dy,fR]
theorem ie(px py c0 c1 c2:Int)(D:List (PV×PV))(f:Bool)(es:List PV):Kz Try.prog R12 60 45 [.Db f 30 es,yZ] (hL px py c0 c1 c2 D) =
 bif pL (lL c0 c1 c2 D f es f es (es.length:Int) 0 px py 0 0 0 0 0 0) then some (J4 px py es,hL px py c0 c1 c2 D) else none:=by kernel_rfl
def Zm:Nat->List PV->List Row->Option (DT (PV×List Row))
 |0,[.Lq 30 es,.fn (.func 46) [] [.ptr 5 1 0 0]],[⟨[.agg [.val (.int .i64 px),.val (.int .i64 py)]],2,28,true,true,false,none,false⟩,
   ⟨[.agg [.val (.int .i64 c0),.val (.int .i64 c1),.val (.int .i64 c2)]],3,30,true,true,false,none,false⟩,
   ⟨[],0,0,true,false,false,some ⟨⟨0,[],⟨[]⟩,.skip,.skip⟩,.map 30 4 D⟩,false⟩,
   ⟨[],0,0,true,false,false,some ⟨⟨0,[.mp 2],⟨[]⟩,.skip,.skip⟩,.iter .some⟩,false⟩,⟨[],0,0,true,false,false,none,false⟩,
   ⟨[.fn (.func 44) [] [.ptr 0 1 0 0]],1,92,false,true,false,none,false⟩]=>
  some (.br (decide (es.length<=10000)) (.leaf (J4 px py es,hL px py c0 c1 c2 D)) .no)
 |_,_,_=>none
theorem pL0{c0 c1 c2:Int}{D:List (PV×PV)}{f:Bool}{es:List PV}{px py:Int}(h:es.length<=10000):pL (lL c0 c1 c2 D f es f es (es.length:Int) 0 px py 0 0 0 0 0 0)=true:=by
 simp only[pL,Aa,Ab];exact⟨⟨⟨trivial,by omega⟩,by omega⟩,h⟩
theorem mW(px py c0 c1 c2:Int)(D:List (PV×PV))(f:Bool)(es:List PV)(h:es.length<=10000):Fh Try.prog 0 45 [.Db f 30 es,yZ] (hL px py c0 c1 c2 D) (J4 px py es) (hL px py c0 c1 c2 D):=
 (DP gW ((ie px py c0 c1 c2 D f es).trans (by rw[pL0 h];rfl))).2
theorem uz:Hx.Df Try.prog 45:=(DP gW ((ie 0 0 0 0 0 [] false []).trans (by rw[pL0 (by simp)];rfl))).1
theorem Gc{α:Type}{b:Bool}{x r:α}(h:(DT.br b (.leaf x) .no).run=some r):b=true/\r=x:=by
 cases b with
 |true=>cases h;exact⟨rfl,rfl⟩
 |false=>cases h
theorem uA(ro:Nat)(args:List PV)(H:List Row)(d:DT (PV×List Row))(q:PV)(H':List Row)(h:Zm ro args H=some d)(hd:d.run=some (q,H')):Fh Try.prog ro 45 args H q H':=by
 unfold Zm at h;split at h
 ·rename_i es px py c0 c1 c2 D;cases h;obtain⟨hc,he⟩:=Gc hd;cases he;have hc:=AO hc;intro C hH hro hR Vs hs;have h0s:0<Vs.size:=by rw[hs.1];simp
  have hv:=hs.2 0 _ Vs[0] rfl (AD h0s);generalize hV:Vs[0]=V at hv;cases hv with
  | @Lq _ _ es' _ hp hv'=>
   have hl:es'.length=es.length:=hp.length_eq;have:=mW px py c0 c1 c2 D false es' (by rw[hl];exact hc) C hH hro hR Vs ⟨by rw[hs.1];simp,fun j c v g1 g2=>by
    match j with
    |0=>
     simp only[AZ,A4]at g1;subst g1;rw[AD h0s]at g2;cases g2;rw[hV];exact hv'
    |j+1=>exact hs.2 (j+1) c v (by simpa using g1) g2⟩
   unfold J4 at this ⊢;rw[Zl hp,hl]at this;exact this
 ·cases h
noncomputable def y7:C9:=R12.RO 45 Zm
theorem y8:C4 Try.prog y7.env:=gW.RO uz uA
def OK:S1:=⟨27,[(3,.mp 2),(10,.Db 49),(11,Dm),(12,Dm)],[.one 28 2 (.agg [Dm,Dm]),.one 30 3 aS,.map 30 4]⟩
abbrev pA(f:Bool)(es:List PV)(len i:Int)(px py a0 a1 a2:Int)(D:List (PV×PV)):LS:=([.l f es,.i len,.i i],[.i px,.i py,.i a0,.i a1,.i a2,.m D])
noncomputable abbrev xSE(px py a0 a1 a2:Int)(D:List (PV×PV)):PX×List PV×List Row:=(.exit 0,tm 27 [(3,.mp 2)],(OK.put (pA false [] 0 0 px py a0 a1 a2 D)).2)
theorem qSE(f:Bool)(es:List PV)(len i:Int)(px py a0 a1 a2:Int)(D:List (PV×PV)):Dc Try.prog y7 60 37 (Dh Try.f37 3) [3,10,11,12] [3] (OK.put (pA f es len i px py a0 a1 a2 D)).1 (OK.put (pA f es len i px py a0 a1 a2 D)).2 =
 bif decide (i<len) then bif decide (0<=i)&&decide (i<(es.length:Int)) then bif PE (wL (es.getD i.toNat .any)) then
  some (.normal,OK.put (pA f es len (W (i+1)) px py a0 a1 a2 (D9 D (es.getD i.toNat .any)))) else none else none else some (xSE px py a0 a1 a2 D):=by kernel_rfl
def pD:LS->Bool
 |([.l _ es,.i len,.i i],[.i _,.i _,.i _,.i _,.i _,.m _])=>decide (len=(es.length:Int))&&decide (0<=i)&&decide (i<=len)&&decide (es.length<=1000)&&(es.drop i.toNat).all fun e=>PE (wL e)
 |_=>false
noncomputable def fSE:LS->DT (PX×List PV×List Row)
 |([.l _ es,.i _,.i i],[.i px,.i py,.i a0,.i a1,.i a2,.m D])=>.leaf (xSE px py a0 a1 a2 (G4 (es.drop i.toNat) D))
 |_=>.no
def mSE:LS->Nat
 |([.l _ _,.i len,.i i],_)=>(len-i).toNat
 |_=>0
theorem sSE:∀ s r,pD s=true->(fSE s).run=some r->r.1≠.normal/\(Dc Try.prog y7 60 37 (Dh Try.f37 3) [3,10,11,12] [3] (OK.put s).1 (OK.put s).2=some r \/
   ∃ s',Dc Try.prog y7 60 37 (Dh Try.f37 3) [3,10,11,12] [3] (OK.put s).1 (OK.put s).2=some (.normal,OK.put s')/\pD s'=true/\mSE s'<mSE s/\(fSE s').run=some r):=by
 intro t r hp hr;unfold pD at hp;split at hp
 ·rename_i f es len i px py a0 a1 a2 D;simp only[Aa,Ab]at hp;obtain⟨⟨⟨⟨rfl,h2⟩,h3⟩,h4⟩,h5⟩:=hp;have hr':=(Ah hr).symm;refine⟨by rw[hr'];simp,?_⟩;rw[show OK.put ([.l f es,.i (es.length:Int),.i i],[.i px,.i py,.i a0,.i a1,.i a2,.m D])=OK.put (pA f es (es.length:Int) i px py a0 a1 a2 D) from rfl,qSE];by_cases hi:i<(es.length:Int)
  ·rw[Dt h2 hi,Cu,Aa]at h5;rw[Ac hi,Ac h2,h5.1,Dx (by omega) (by omega)];refine .inr ⟨pA f es es.length (i+1) px py a0 a1 a2 (D9 D (es.getD i.toNat .any)),rfl,by simp only[pD,Aa,Ab];exact⟨⟨⟨⟨trivial,by omega⟩,by omega⟩,h4⟩,h5.2⟩,by simp only[mSE];omega,?_⟩;rw[hr',Dt h2 hi];rfl
  ·rw[Ai hi,AB (by omega)] at *;exact .inl (by rw[hr'];rfl)
 ·cases hp
noncomputable def R14:C9:=y7.Dr 37 3 [3,10,11,12] [false,true,false] OK pD fSE
theorem y9:C4 Try.prog R14.env:=
 y8.Dr (n:=60) Try.func37 (show Try.f37.body=some (D3 Try.f37) by kernel_rfl) (show(loops (D3 Try.f37)).filter (fun b=>Ev b==3)=[Dh Try.f37 3] by kernel_rfl) [3,10,11,12] [3] [false,true,false] OK mSE sSE
noncomputable def za:C9:=R14.GH 23 3 [(6,30,3)]
theorem zc:C4 Try.prog za.env:=y9.GH 23 3 [(6,30,3)]
theorem zd:(HU (Dh Try.f23 3)).isSome=true:=by kernel_rfl
noncomputable def pE:ML:=(HU (Dh Try.f23 3)).get zd
theorem uB:HU (Dh Try.f23 3)=some pE:=(Option.some_get zd).symm
theorem mZ:pE.out=0:=by kernel_rfl
theorem uC:pE.it=11:=by kernel_rfl
theorem ig:pE.d1=12:=by kernel_rfl
theorem pI:pE.q=13:=by kernel_rfl
abbrev Sv(nl:Bool)(es:List PV):Row:={ es,s:=3,t:=30,bv:=true,nl }
abbrev sE(n:Nat):List PV:=tm 26 [(3,.ptr 0 1 0 0),(4,.ptr 1 1 0 0),(6,.sl 4 n 0 n),(11,.mp 3)]
abbrev hE(px py a b c:Int)(D:List (PV×PV))(s:lC)(nl:Bool)(es:List PV):List Row:=[pR px py,Su a b c,DD k0 30 4 D,Dz (.mp 2) s,Sv nl es]
theorem qM(px py a b c:Int)(D:List (PV×PV))(bm s:Nat)(seen:Array Nat)(ck:Nat)(n:Nat)(nl:Bool)(es:List PV)(x y z:Int)(v:PV):
  W7 Try.prog za 60 23 pE [3,4,6,11] (sE n) (hE px py a b c D (.at bm s seen ck) nl es) (DU x y z) v =
 bif decide (es.length=n)&&decide (n=n)&&decide ((n+1)*24<=140737488355328) then some (sE (n+1),hE px py a b c D (.at bm s seen ck) (nl&&false) (es++[DU x y z])) else none:=by kernel_rfl
abbrev ze(k:PV):PV:=DU (gX k) (gY k) (gL k)
def NW(D:List (PV×PV)):Prop:=∀ x∈D,x.1=ze x.1
noncomputable def ij(D:List (PV×PV)):Bool:=@decide (NW D) (Classical.propDecidable _)
theorem Sw{D:List (PV×PV)}:ij D=true ↔ NW D:=by unfold ij;exact @BB _ (Classical.propDecidable _)
abbrev OkE(D:List (PV×PV))(j:Nat)(kv:PV×PV):Prop:=D[j]? = some kv/\kv.1=ze kv.1
abbrev Xf(x:Nat×(PV×PV)):PV:=x.2.1
abbrev zf(px py a b c:Int)(D:List (PV×PV))(vis:List (Nat×(PV×PV))):List PV×List Row:=
 (sE vis.length,hE px py a b c D .some vis.isEmpty (vis.map Xf))
theorem m0{vis:List (Nat×(PV×PV))}{N:Nat}(hn:(vis.map (·.1)).Nodup)(hl:∀ x∈vis,x.1<N):vis.length<=N:=by
 have:=List.Nodup.length_le_of_subset hn (l₂:=List.range N) (fun x hx=>by
  obtain⟨y,hy,rfl⟩:=AY.1 hx;exact Bo.2 (hl y hy))
 simpa using this
theorem afm{px py a b c:Int}{D:List (PV×PV)}(hk:NW D)(hl:D.length<=5000):
  TV Try.prog za 60 23 pE [3,4,6,11] 3 2 D.length (OkE D) (zf px py a b c D) where
 ne:=by decide
 hd:=fun vis=>by rw[ig,pI];exact⟨show 12<26 by decide,show 13<26 by decide⟩
 hS:=fun vis=>by rw[uC];rfl
 hi:=fun vis=>rfl
 hm:=fun vis=>⟨_,_,rfl,rfl,rfl⟩
 Ia:=fun vis C bm s hH hR hρ=>by
  have hrow:C.H[2]? = some (DD k0 30 4 D):=by rw[hH];rfl
  obtain⟨es,ck,h1,h2,h3,h4⟩:=((hR.Ih 2 bm _ ⟨k0,.map 30 4 D⟩ hρ hrow rfl rfl).map 30 4 D rfl).mem;refine⟨es,by rw[h1,h3],h2,fun j e he=>?_⟩;have hj:j<D.length:=by rw[<- h2];exact(At.1 he).1
  obtain⟨g1,g2,g3⟩:=h4 j D[j].1 D[j].2 e (by rw[Ae hj]) he;exact⟨g1,D[j],⟨Ae hj,hk _ (Bw hj)⟩,g2,g3⟩
 step:=fun vis j kv bm s seen ck hok hkv hn hj hlt Tj=>by
  have hlen:=m0 hn hlt;obtain⟨k,v⟩:=kv;have hkv2:k=ze k:=hkv.2;show W7 Try.prog za 60 23 pE [3,4,6,11] (sE vis.length) (hE px py a b c D (.at bm s seen ck) vis.isEmpty (vis.map Xf)) k v =
   some (sE (vis++[(j,k,v)]).length,hE px py a b c D (.at bm s seen ck) (vis++[(j,k,v)]).isEmpty ((vis++[(j,k,v)]).map Xf))
  have hq:=qM px py a b c D bm s seen ck vis.length vis.isEmpty (vis.map Xf) (gX k) (gY k) (gL k) v;have hkv3:DU (gX k) (gY k) (gL k)=k:=hkv2.symm;rw[hkv3]at hq;rw[hq,AV,show(decide (vis.length=vis.length)&&decide (vis.length=vis.length)&&decide ((vis.length+1)*24<=140737488355328))=true by simp;omega,Aj];rw[Ar,Bx,BG];have:(vis++[(j,k,v)]).isEmpty=false:=by simp
  rw[this];rfl
def shM:S1:=⟨26,[(3,.ptr 0 1 0 0),(4,.ptr 1 1 0 0),(6,.sl 4),(11,.mp 3)],[.one 28 2 (.agg [Dm,Dm]),.one 30 3 aS,.map 30 4,.Z8 2,.many 30 3]⟩
noncomputable def pM:LS->Bool
 |([.n n,.n l],[.i _,.i _,.i _,.i _,.i _,.m D,.n N,.l nl es])=>decide (n=0)&&decide (l=0)&&decide (N=D.length)&&nl&&es.isEmpty&&decide (D.length<=5000)&&ij D
 |_=>false
noncomputable abbrev xM(px py a b c:Int)(D:List (PV×PV)):PX×List PV×List Row:=
 (.exit 0,tm 26 [(3,.ptr 0 1 0 0),(4,.ptr 1 1 0 0),(6,.Lq 30 (D.map (·.1)))],[pR px py,Su a b c,DD k0 30 4 D,Dz (.mp 2) .some,Dy])
noncomputable def fM:LS->DT (PX×List PV×List Row)
 |([.n _,.n _],[.i px,.i py,.i a,.i b,.i c,.m D,.n _,.l _ _])=>.leaf (xM px py a b c D)
 |_=>.no
theorem m7{D:List (PV×PV)}{vis:List (Nat×(PV×PV))}(hok:∀ x∈vis,OkE D x.1 x.2)(hp:(vis.map (·.1)).Perm (List.range D.length)):(vis.map Xf).Perm (D.map (·.1)):=by
 have h1:(vis.map Xf)=(vis.map (·.1)).map fun j=>(D.getD j (.any,.any)).1:=by
  rw[Cq];apply Bt
  intro x hx;show x.2.1=(D.getD x.1 (.any,.any)).1
  rw[Ay,(hok x hx).1];rfl
 rw[h1];refine(hp.map _).trans ?_;have h2:(List.range D.length).map (fun j=>(D.getD j (.any,.any)).1)=D.map (·.1):=by
  apply Bf
  intro i;rw[An,An];by_cases hi:i<D.length
  ·rw[Be hi,Ae hi];simp[List.getD_eq_getElem?_getD,List.getElem?_eq_getElem hi]
  ·rw[AF (by simpa using hi),AF (by omega)];rfl
 rw[h2]
theorem wkM{px py a b c:Int}{D:List (PV×PV)}{vis:List (Nat×(PV×PV))}(hok:∀ x∈vis,OkE D x.1 x.2)(hp:(vis.map (·.1)).Perm (List.range D.length)):
  Wk Try.prog (sE vis.length) (hE px py a b c D .some vis.isEmpty (vis.map Xf)) (xM px py a b c D).2.1 (xM px py a b c D).2.2:=by
 have h1:Wk Try.prog (sE vis.length) (hE px py a b c D .some vis.isEmpty (vis.map Xf)) _ _:=Wk.drop 4 (show 4<=5 by decide) (by rfl) (by rfl);refine h1.trans ?_;have hsl:Yy Try.prog (hE px py a b c D .some vis.isEmpty (vis.map Xf)) 4 (.sl 4 vis.length 0 vis.length)=.Db false 30 (vis.map Xf):=by
  have hf:frz (hE px py a b c D .some vis.isEmpty (vis.map Xf)) 4 (.sl 4 vis.length 0 vis.length)=.Db false 30 (vis.map Xf):=by
   show(if (Sv vis.isEmpty (vis.map Xf)).bv&&(Sv vis.isEmpty (vis.map Xf)).es.length==vis.length then PV.Db false 30 (((vis.map Xf).drop 0).take vis.length) else _)=_
   rw[AV,AP,Br,Ak rfl,AH,A7 (by rw[AV];exact Al _)]
  show(match mlt 4 (frz (hE px py a b c D .some vis.isEmpty (vis.map Xf)) 4 (.sl 4 vis.length 0 vis.length)) with |true=>frz (hE px py a b c D .some vis.isEmpty (vis.map Xf)) 4 (.sl 4 vis.length 0 vis.length) |false=>PV.any)=_
  rw[hf];rfl
 refine Wk.slot (by rw[AV];rfl) fun j p p' g1 g2 C V hv=>?_
 rw[An]at g1;by_cases h6:j=6
 ·subst h6;have e1:(sE vis.length)[6]? = some (.sl 4 vis.length 0 vis.length):=rfl;rw[e1,AE,hsl]at g1;cases g1;have e2:p'=.Lq 30 (D.map (·.1)):=(Ah g2).symm;rw[e2];exact .Lq (m7 hok hp) hv
 ·match j,h6 with
  |3,_=>
   have e1:p=.ptr 0 1 0 0:=(Ah g1).symm;have e2:p'=.ptr 0 1 0 0:=(Ah g2).symm;rw[e2];rw[e1]at hv;exact hv
  |4,_=>
   have e1:p=.ptr 1 1 0 0:=(Ah g1).symm;have e2:p'=.ptr 1 1 0 0:=(Ah g2).symm;rw[e2];rw[e1]at hv;exact hv
  |0,_ |1,_ |2,_ |5,_ |7,_ |8,_ |9,_ |10,_ |11,_ |12,_ |13,_ |14,_ |15,_ |16,_ |17,_ |18,_ |19,_ |20,_ |21,_ |22,_ |23,_ |24,_ |25,_=>
   have e2:p'=.any:=(Ah g2).symm;rw[e2];exact .any
  |n+26,_=>cases g2
noncomputable def zg:C9:=za.Dr 23 3 [3,4,6,11] [false,true,false,false,false] shM pM fM
theorem aV:C4 Try.prog zg.env:=by
 refine zc.pr (n:=60) Try.func23 (show Try.f23.body=some (D3 Try.f23) by kernel_rfl) (show(loops (D3 Try.f23)).filter (fun b=>Ev b==3)=[Dh Try.f23 3] by kernel_rfl) uB [3,4,6,11] [3,4,6] [false,true,false,false,false] shM fun s r hp hr=>?_
 unfold pM at hp;split at hp
 ·rename_i n l px py a b c D N nl es;simp only[Aa,Ab,List.isEmpty_iff,Sw]at hp;obtain⟨⟨⟨⟨⟨⟨rfl,rfl⟩,rfl⟩,rfl⟩,rfl⟩,hl⟩,hk⟩:=hp;have hr':=(Ah hr).symm;subst hr';refine⟨by rw[mZ],3,2,D.length,OkE D,zf px py a b c D,afm hk hl,rfl,rfl,fun vis hok hpm=>?_⟩;rw[ig,pI];exact wkM hok hpm
 ·cases hp
theorem NX{k v:PV}:∀{D:List (PV×PV)} {x:PV×PV},x∈EV D k v->x∈D\/x=(k,v)
 | [],x,h=>by simp only[EV,AI]at h;exact .inr h
 |(a,w)::D,x,h=>by
  unfold EV at h;cases hq:JU k a with
  |true=>
   rw[hq,Aj]at h;rcases AK.1 h with h |h
   ·exact .inr h
   ·exact .inl (AT _ h)
  |false=>
   rw[hq,Ap]at h;rcases AK.1 h with h |h
   ·exact .inl (h▸AL ..)
   ·rcases NX h with h |h
    ·exact .inl (AT _ h)
    ·exact .inr h
theorem Sx{k v:PV}:∀{D:List (PV×PV)},(EV D k v).length<=D.length+1
 | []=>by simp[EV]
 |(a,w)::D=>by
  unfold EV;cases JU k a with
  |true=>simp
  |false=>have:=Sx (k:=k) (v:=v) (D:=D);simp only[Ap,As];omega
theorem NW.put{D:List (PV×PV)}(h:NW D)(x y z:Int)(v:PV):NW (EV D (DU x y z) v):=fun u hu=>by
 rcases NX hu with hu |rfl
 ·exact h u hu
 ·rfl
theorem Sy:∀{es:List PV} {D:List (PV×PV)},NW D->NW (G4 es D)/\(G4 es D).length<=D.length+2*es.length
 | [],D,h=>⟨h,by simp[G4]⟩
 |e::es,D,h=>by
  have h1:NW (D9 D e):=(h.put _ _ _ _).put _ _ _ _;have h2:(D9 D e).length<=D.length+2:=by
   unfold D9;have a:=Sx (k:=lg (wL e) (MQ e)) (v:=bv true) (D:=D);have b:=Sx (k:=pw (wL e) (MQ e)) (v:=bv true) (D:=EV D (lg (wL e) (MQ e)) (bv true));omega
  obtain⟨g1,g2⟩:=Sy (es:=es) h1;exact⟨g1,by show(G4 es (D9 D e)).length<=_;simp only[As];omega⟩
def G6(ws:List PV):Bool:=ws.all fun e=>decide ((wL e).length<=100000)
theorem J5{L:List PV}(h1:L.length≠0)(h2:L.length<=100000):PE L=true:=by
 unfold PE NU;rw[Dx (by omega) (by omega)];simp only[Aa,Am,AM,Ab];omega
theorem NY{fl:Bool}{ws:List PV}(h:G6 ws=true):((Dg (Dd fl) ws).all fun e=>PE (wL e))=true:=by
 rw[Ao];intro e he;unfold Dg at he;rw[Bj]at he;have h1:=Ao.1 h e he.1;have h2:=he.2;simp only[Dd,Am,BJ,AM]at h2;exact J5 (by omega) (AO h1)
abbrev I6(ws:List PV):List PV:=(G4 (Dg (Dd false) ws) []).map (·.1)
theorem uD(f:Bool)(ws:List PV)(px py:Int):DC Try.prog zg 60 23 [.Db f 49 ws,FL px py] =
 bif decide (ws.length<=1000)&&EL Ee ws then
  bif pD (pA false (Dg (Dd false) ws) ((Dg (Dd false) ws).length:Int) 0 px py 0 0 0 []) then
   bif pM ([.n 0,.n 0],[.i px,.i py,.i 0,.i 0,.i 0,.m (G4 ((Dg (Dd false) ws).drop 0) []),.n (G4 ((Dg (Dd false) ws).drop 0) []).length,.l true []]) then
    bif decide (((G4 ((Dg (Dd false) ws).drop 0) []).map (·.1)).length<=10000) then
     some (J4 px py ((G4 ((Dg (Dd false) ws).drop 0) []).map (·.1))) else none else none else none else none:=by kernel_rfl
theorem m8(f:Bool)(ws:List PV)(px py:Int)(h1:ws.length<=1000)(h2:Ei Ee ws)(h3:G6 ws=true):DC Try.prog zg 60 23 [.Db f 49 ws,FL px py]=some (J4 px py (I6 ws)):=by
 have hk:=EE (d:=Dd false) ws;obtain⟨k1,k2⟩:=Sy (es:=Dg (Dd false) ws) (D:=[]) (fun x hx=>by cases hx);simp only[AC]at k2;rw[uD,Ac h1,DX.2 h2,AH];have e1:pD (pA false (Dg (Dd false) ws) ((Dg (Dd false) ws).length:Int) 0 px py 0 0 0 [])=true:=by
  simp only[pD,Aa,Ab];exact⟨⟨⟨⟨trivial,by omega⟩,by omega⟩,by omega⟩,by rw[show(0:Int).toNat=0 from rfl,AH];exact NY h3⟩
 have e2:pM ([.n 0,.n 0],[.i px,.i py,.i 0,.i 0,.i 0,.m (G4 (Dg (Dd false) ws) []),.n (G4 (Dg (Dd false) ws) []).length,.l true []])=true:=by
  simp only[pM,Aa,Ab,Sw];exact⟨⟨⟨⟨⟨⟨trivial,trivial⟩,trivial⟩,trivial⟩,rfl⟩,by omega⟩,k1⟩
 rw[e1,e2,Ac (show((G4 (Dg (Dd false) ws) []).map (·.1)).length<=10000 by rw[AV];omega)];rfl
theorem kE0:ij []=true:=Sw.2 (fun x hx=>by cases hx)
theorem aX(px py:Int):DC Try.prog zg 60 23 [.val (.slice none 0 0),FL px py]=bif ij [] then some (J4 px py []) else none:=by kernel_rfl
noncomputable def Zn:List PV->Option (DT PV)
 | [.Db _ 49 ws,.agg [.val (.int .i64 px),.val (.int .i64 py)]]=>some (.br (decide (ws.length<=1000)&&EL Ee ws&&G6 ws) (.leaf (J4 px py (I6 ws))) .no)
 | [.val (.slice none 0 0),.agg [.val (.int .i64 px),.val (.int .i64 py)]]=>some (.leaf (J4 px py []))
 |_=>none
theorem uE:Hx.Df Try.prog 23:=(Cz aV (n:=60) ((aX 0 0).trans (by rw[kE0];rfl))).1
theorem uF(args:List PV)(d:DT PV)(r:PV)(h:Zn args=some d)(hr:d.run=some r):Ds Try.prog 23 args r:=by
 unfold Zn at h;split at h
 ·rename_i f ws px py;cases h;obtain⟨h1,rfl⟩:=DO hr;simp only[Aa,Ab,DX]at h1;exact(Cz aV (n:=60) (m8 f ws px py h1.1.1 h1.1.2 h1.2)).2
 ·rename_i px py;cases h;cases hr;exact(Cz aV (n:=60) ((aX px py).trans (by rw[kE0];rfl))).2
 ·cases h
noncomputable def zh:C9:=zg.DH 23 Zn
theorem zi:C4 Try.prog zh.env:=aV.DH uE uF
def VO(e:PV)(x y z:Int):Bool:=((gX e==x)&&((gY e==y)&&true))&&((gL e==z)&&true)
def DI(x y z:Int)(i:Int):List PV->Int
 | []=>-1
 |e::es=>bif VO e x y z then i else DI x y z (i+1) es
def eI:S1:=⟨19,[(0,.Db 30),(3,.ptr 0 1 0 0),(5,Dm)],[.one 30 3 aS]⟩
abbrev lF(f:Bool)(es:List PV)(i x y z:Int):LS:=([.l f es,.i i],[.i x,.i y,.i z])
noncomputable abbrev xF0(x y z:Int):PX×List PV×List Row:=(.exit 0,tm 19 [],[Su x y z])
noncomputable abbrev xF1(i x y z:Int):PX×List PV×List Row:=(.ret,tm 19 [(4,iv i)],[Su x y z])
theorem qF(f:Bool)(es:List PV)(i x y z:Int):Dc Try.prog zh 60 41 (Dh Try.f41 2) [0,3,5] [4] (eI.put (lF f es i x y z)).1 (eI.put (lF f es i x y z)).2 =
 bif decide (i<(es.length:Int)) then bif decide (0<=i)&&decide (i<(es.length:Int)) then bif VO (es.getD i.toNat .any) x y z then some (xF1 i x y z) else some (.normal,eI.put (lF f es (W (i+1)) x y z)) else none else some (xF0 x y z):=by kernel_rfl
def eJ:S1:=⟨19,[(0,.sl 0),(3,.ptr 1 1 0 0),(5,Dm)],[.many 30 3,.one 30 3 aS]⟩
abbrev lG(n l:Nat)(i:Int)(nl:Bool)(es:List PV)(x y z:Int):LS:=([.n n,.n l,.i i],[.l nl es,.i x,.i y,.i z])
noncomputable abbrev xG0(nl:Bool)(es:List PV)(x y z:Int):PX×List PV×List Row:=(.exit 0,tm 19 [],[Sv nl es,Su x y z])
noncomputable abbrev xG1(i:Int)(nl:Bool)(es:List PV)(x y z:Int):PX×List PV×List Row:=(.ret,tm 19 [(4,iv i)],[Sv nl es,Su x y z])
def pF:LS->Bool
 |([.l _ es,.i i],[.i _,.i _,.i _])=>decide (0<=i)&&decide (i<=(es.length:Int))&&decide (es.length<=10000)
 |_=>false
noncomputable def fF:LS->DT (PX×List PV×List Row)
 |([.l _ es,.i i],[.i x,.i y,.i z])=>.br (DI x y z i (es.drop i.toNat) == -1) (.leaf (xF0 x y z)) (.leaf (xF1 (DI x y z i (es.drop i.toNat)) x y z))
 |_=>.no
def mF:LS->Nat
 |([.l _ es,.i i],_)=>((es.length:Int)-i).toNat
 |_=>0
theorem sF:∀ s r,pF s=true->(fF s).run=some r->r.1≠.normal/\(Dc Try.prog zh 60 41 (Dh Try.f41 2) [0,3,5] [4] (eI.put s).1 (eI.put s).2=some r \/
   ∃ s',Dc Try.prog zh 60 41 (Dh Try.f41 2) [0,3,5] [4] (eI.put s).1 (eI.put s).2=some (.normal,eI.put s')/\pF s'=true/\mF s'<mF s/\(fF s').run=some r):=by
 intro t r hp hr;unfold pF at hp;split at hp
 ·rename_i f es i x y z;simp only[Aa,Ab]at hp;obtain⟨⟨h2,h3⟩,h4⟩:=hp;have hr':=Gb hr;refine⟨by rw[hr'];cases DI x y z i (es.drop i.toNat) == -1 <;> simp,?_⟩;rw[show eI.put ([.l f es,.i i],[.i x,.i y,.i z])=eI.put (lF f es i x y z) from rfl,qF];by_cases hi:i<(es.length:Int)
  ·rw[Ac hi,Ac h2,Dx (by omega) (by omega)];rw[Dt h2 hi]at hr';simp only[DI]at hr';cases c1:VO (es.getD i.toNat .any) x y z with
   |true=>
    rw[c1,Aj,show(i == -1)=false by rw[AM];omega]at hr';exact .inl (by rw[hr'];rfl)
   |false=>
    rw[c1]at hr';refine .inr ⟨lF f es (i+1) x y z,rfl,by simp only[pF,Aa,Ab];exact⟨⟨by omega,by omega⟩,h4⟩,by simp only[mF];omega,?_⟩;rw[hr'];simp only[fF,Ap];cases DI x y z (i+1) (es.drop (i+1).toNat) == -1 <;> rfl
  ·rw[Ai hi];rw[AB (by omega)]at hr';exact .inl (by rw[hr'];rfl)
 ·cases hp
noncomputable def zj:C9:=zh.Dr 41 2 [0,3,5] [] eI pF fF
theorem zk:C4 Try.prog zj.env:=
 zi.Dr (n:=60) Try.func41 (show Try.f41.body=some (D3 Try.f41) by kernel_rfl) (show(loops (D3 Try.f41)).filter (fun b=>Ev b==2)=[Dh Try.f41 2] by kernel_rfl) [0,3,5] [4] [] eI mF sF
def pG:LS->Bool
 |([.n n,.n l,.i i],[.l _ es,.i _,.i _,.i _])=>decide (n=es.length)&&decide (l=es.length)&&decide (0<=i)&&decide (i<=(es.length:Int))&&decide (es.length<=10000)
 |_=>false
noncomputable def fG:LS->DT (PX×List PV×List Row)
 |([.n _,.n _,.i i],[.l nl es,.i x,.i y,.i z])=>.br (DI x y z i (es.drop i.toNat) == -1) (.leaf (xG0 nl es x y z)) (.leaf (xG1 (DI x y z i (es.drop i.toNat)) nl es x y z))
 |_=>.no
def mG:LS->Nat
 |([.n _,.n _,.i i],[.l _ es,.i _,.i _,.i _])=>((es.length:Int)-i).toNat
 |_=>0
theorem QO(es:List PV)(i:Int):rE es i=es.getD i.toNat .any:=by unfold rE;rw[AN]
theorem qG'(n l:Nat)(i:Int)(nl:Bool)(es:List PV)(x y z:Int):Dc Try.prog zj 60 41 (Dh Try.f41 2) [0,3,5] [4] (eJ.put (lG n l i nl es x y z)).1 (eJ.put (lG n l i nl es x y z)).2 =
 bif decide (i<(l:Int)) then Sj es n l i (HV es n (bif VO (rE es i) x y z then some (xG1 i nl es x y z) else some (.normal,eJ.put (lG n l (W (i+1)) nl es x y z)))) else some (xG0 nl es x y z):=by kernel_rfl
theorem sG:∀ s r,pG s=true->(fG s).run=some r->r.1≠.normal/\(Dc Try.prog zj 60 41 (Dh Try.f41 2) [0,3,5] [4] (eJ.put s).1 (eJ.put s).2=some r \/
   ∃ s',Dc Try.prog zj 60 41 (Dh Try.f41 2) [0,3,5] [4] (eJ.put s).1 (eJ.put s).2=some (.normal,eJ.put s')/\pG s'=true/\mG s'<mG s/\(fG s').run=some r):=by
 intro t r hp hr;unfold pG at hp;split at hp
 ·rename_i n l i nl es x y z;simp only[Aa,Ab]at hp;obtain⟨⟨⟨⟨rfl,rfl⟩,h2⟩,h3⟩,h4⟩:=hp;have hr':=Gb hr;refine⟨by rw[hr'];cases DI x y z i (es.drop i.toNat) == -1 <;> simp,?_⟩;rw[show eJ.put ([.n es.length,.n es.length,.i i],[.l nl es,.i x,.i y,.i z])=eJ.put (lG es.length es.length i nl es x y z) from rfl,qG'];by_cases hi:i<(es.length:Int)
  ·rw[Ac hi,Aj,FD rfl h2 hi,DK rfl,QO,Dx (by omega) (by omega)];rw[Dt h2 hi]at hr';simp only[DI]at hr';cases c1:VO (es.getD i.toNat .any) x y z with
   |true=>
    rw[c1,Aj,show(i == -1)=false by rw[AM];omega]at hr';exact .inl (by rw[hr'];rfl)
   |false=>
    rw[c1]at hr';refine .inr ⟨lG es.length es.length (i+1) nl es x y z,rfl,by simp only[pG,Aa,Ab];exact⟨⟨⟨⟨trivial,trivial⟩,by omega⟩,by omega⟩,h4⟩,by simp only[mG];omega,?_⟩;rw[hr'];simp only[fG,Ap];cases DI x y z (i+1) (es.drop (i+1).toNat) == -1 <;> rfl
  ·rw[Ai hi];rw[AB (by omega)]at hr';exact .inl (by rw[hr'];rfl)
 ·cases hp
noncomputable def zl:C9:=zj.Dr 41 2 [0,3,5] [] eJ pG fG
theorem aY:C4 Try.prog zl.env:=
 zk.Dr (n:=60) Try.func41 (show Try.f41.body=some (D3 Try.f41) by kernel_rfl) (show(loops (D3 Try.f41)).filter (fun b=>Ev b==2)=[Dh Try.f41 2] by kernel_rfl) [0,3,5] [4] [] eJ mG sG
theorem zm(f:Bool)(es:List PV)(x y z:Int):DC Try.prog zl 60 41 [.Db f 30 es,DU x y z] =
 bif pF (lF f es 0 x y z) then bif DI x y z 0 (es.drop (0:Int).toNat) == -1 then some (iv (-1)) else some (iv (DI x y z 0 (es.drop (0:Int).toNat))) else none:=by kernel_rfl
theorem pF0{f:Bool}{es:List PV}{x y z:Int}(h:es.length<=10000):pF (lF f es 0 x y z)=true:=by
 simp only[pF,Aa,Ab];exact⟨⟨by omega,by omega⟩,h⟩
theorem ik(f:Bool)(es:List PV)(x y z:Int)(h:es.length<=10000):DC Try.prog zl 60 41 [.Db f 30 es,DU x y z]=some (iv (DI x y z 0 es)):=by
 rw[zm,pF0 h,show(0:Int).toNat=0 from rfl,AH];cases hq:DI x y z 0 es == -1 with
 |true=>rw[eq_of_beq hq];rfl
 |false=>rfl
def il:List PV->Option (DT PV)
 | [.Db _ 30 es,.agg [.val (.int .i64 x),.val (.int .i64 y),.val (.int .i64 z)]]=>some (.br (decide (es.length<=10000)) (.leaf (iv (DI x y z 0 es))) .no)
 |_=>none
theorem pJ:Hx.Df Try.prog 41:=(Cz aY (n:=60) (ik false [] 0 0 0 (by simp))).1
theorem zn(args:List PV)(d:DT PV)(r:PV)(h:il args=some d)(hr:d.run=some r):Ds Try.prog 41 args r:=by
 unfold il at h;split at h
 ·rename_i f es x y z;cases h;obtain⟨h1,rfl⟩:=DO hr;exact(Cz aY (n:=60) (ik f es x y z (AO h1))).2
 ·cases h
theorem uG(n l:Nat)(nl:Bool)(es:List PV)(x y z:Int):Kz Try.prog zl 60 41 [.sl 0 n 0 l,DU x y z] [Sv nl es] =
 bif pG (lG n l 0 nl es x y z) then bif DI x y z 0 (es.drop (0:Int).toNat) == -1 then some (iv (-1),[Sv nl es]) else some (iv (DI x y z 0 (es.drop (0:Int).toNat)),[Sv nl es]) else none:=by kernel_rfl
def Zo:List PV->List Row->Option (DT (PV×List Row))
 | [.sl 0 n 0 l,.agg [.val (.int .i64 x),.val (.int .i64 y),.val (.int .i64 z)]],[⟨es,3,30,true,true,nl,none,false⟩]=>
  some (.br (decide (es.length<=10000)&&(decide (n=es.length)&&decide (l=es.length))) (.leaf (iv (DI x y z 0 es),[Sv nl es])) .no)
 |_,_=>none
theorem uH(args:List PV)(H:List Row)(d:DT (PV×List Row))(q:PV)(H':List Row)(h:Zo args H=some d)(hd:d.run=some (q,H')):Fh Try.prog 0 41 args H q H':=by
 unfold Zo at h;split at h
 ·rename_i n l x y z es nl;cases h;obtain⟨hc,he⟩:=Gc hd;cases he;simp only[Aa,Ab]at hc;obtain⟨h1,rfl,rfl⟩:=hc;refine(DP aY ((uG es.length es.length nl es x y z).trans ?_)).2;have hp:pG (lG es.length es.length 0 nl es x y z)=true:=by
   simp only[pG,Aa,Ab];exact⟨⟨⟨⟨trivial,trivial⟩,by omega⟩,by omega⟩,h1⟩
  rw[hp,show(0:Int).toNat=0 from rfl,AH];cases hq:DI x y z 0 es == -1 with
  |true=>rw[eq_of_beq hq];rfl
  |false=>rfl
 ·cases h
noncomputable def R20:C9:=(zl.DH 41 il).Ff 41 Zo
theorem iq:C4 Try.prog R20.env:=(aY.DH pJ zn).Ff pJ uH
theorem m9(i:Int)(f:Bool)(L:List PV)(lv:Int)(cs nm:ByteArray)(st:Bool)(wt ds:Int):DC Try.prog R20 60 43 [LQ i f L lv cs nm st wt ds] =
 bif (L.length:Int)==0 then some (.D8 [DU 0 0 0,DU 0 0 0]) else
  bif decide ((0:Int)<=0)&&decide ((0:Int)<(L.length:Int)) then bif decide (0<=NU L)&&decide (NU L<(L.length:Int)) then
   some (.D8 [lg L lv,pw L lv]) else none else none:=by kernel_rfl
theorem Xg(i:Int)(f:Bool)(L:List PV)(lv:Int)(cs nm:ByteArray)(st:Bool)(wt ds:Int)(h:PE L=true):DC Try.prog R20 60 43 [LQ i f L lv cs nm st wt ds]=some (.D8 [lg L lv,pw L lv]):=by
 unfold PE at h;simp only[Aa,Am]at h;rw[m9,h.1,h.2.1.1,h.2.1.2,h.2.2.1,h.2.2.2];rfl
theorem na:Hx.Df Try.prog 43:=(Cz iq (n:=60) (Xg 0 false [FL 0 0] 0 .empty .empty false 0 0 rfl)).1
theorem nf(args:List PV)(d:DT PV)(r:PV)(h:OI args=some d)(hr:d.run=some r):Ds Try.prog 43 args r:=by
 unfold OI at h;split at h
 ·rename_i i f L lv cs nm st wt ds;cases h;obtain⟨h1,rfl⟩:=DO hr;exact(Cz iq (n:=60) (Xg i f L lv cs nm st wt ds h1)).2
 ·cases h
noncomputable def zo:C9:=(R20.DH 43 OI).GH 32 3 [(3,30,3)]
theorem zp:C4 Try.prog zo.env:=(iq.DH na nf).GH 32 3 [(3,30,3)]
def Xh:S1:=⟨45,[(0,.Db 49),(3,.sl 0),(4,Dm)],[.many 30 3]⟩
abbrev lH(f:Bool)(ws:List PV)(n l:Nat)(i:Int)(nl:Bool)(es:List PV):LS:=([.l f ws,.n n,.n l,.i i],[.l nl es])
def fdK{α:Type}(n l:Nat)(es:List PV)(s:PV)(x y:Option α):Option α:=
 HV es n (bif decide (((es.drop 0).take l).length<=10000) then bif decide (DI (gX s) (gY s) (gL s) 0 ((es.drop 0).take l)<0) then x else y else none)
def apK{α:Type}(n l:Nat)(es:List PV)(k:Option α):Option α:=bif decide (es.length=n)&&decide (n=l)&&decide ((n+1)*24<=140737488355328) then k else none
abbrev eF(e:PV):PV:=lg (wL e) (MQ e)
abbrev eL(e:PV):PV:=pw (wL e) (MQ e)
def uI(f:Bool)(ws:List PV)(i:Int)(e:PV)(n l:Nat)(nl:Bool)(es:List PV):Option (PX×List PV×List Row):=
 fdK n l es (eL e) (apK n l es (some (.normal,Xh.put (lH f ws (n+1) (n+1) (W (i+1)) (nl&&false) (es++[eL e]))))) (some (.normal,Xh.put (lH f ws n l (W (i+1)) nl es)))
theorem qH(f:Bool)(ws:List PV)(n l:Nat)(i:Int)(nl:Bool)(es:List PV):Dc Try.prog zo 60 32 (Dh Try.f32 3) [0,3,4] [3] (Xh.put (lH f ws n l i nl es)).1 (Xh.put (lH f ws n l i nl es)).2 =
 bif decide (i<(ws.length:Int)) then bif decide (0<=i)&&decide (i<(ws.length:Int)) then
  bif ((wL (ws.getD i.toNat .any)).length:Int)==0 then some (.normal,Xh.put (lH f ws n l (W (i+1)) nl es)) else
  bif decide (0<=i)&&decide (i<(ws.length:Int)) then bif PE (wL (ws.getD i.toNat .any)) then
   fdK n l es (eF (ws.getD i.toNat .any)) (apK n l es (uI f ws i (ws.getD i.toNat .any) (n+1) (n+1) (nl&&false) (es++[eF (ws.getD i.toNat .any)]))) (uI f ws i (ws.getD i.toNat .any) n l nl es)
  else none else none else none else some (.exit 0,tm 45 [(3,.sl 0 n 0 l)],[Sv nl es]):=by kernel_rfl
def Jq(es:List PV)(s:PV):List PV:=bif decide (DI (gX s) (gY s) (gL s) 0 es<0) then es++[s] else es
def I7(es:List PV)(e:PV):List PV:=bif ((wL e).length:Int)==0 then es else Jq (Jq es (eF e)) (eL e)
def DL(ws es:List PV):List PV:=ws.foldl I7 es
theorem Sz(es:List PV)(s:PV):es.length<=(Jq es s).length/\(Jq es s).length<=es.length+1:=by
 unfold Jq;cases decide (DI (gX s) (gY s) (gL s) 0 es<0) <;> simp
theorem Xi(es:List PV)(e:PV):es.length<=(I7 es e).length/\(I7 es e).length<=es.length+2:=by
 unfold I7;cases((wL e).length:Int)==0 with
 |true=>simp
 |false=>
  have h1:=Sz es (eF e);have h2:=Sz (Jq es (eF e)) (eL e);simp only[Ap];omega
theorem ir{α:Type}{es:List PV}{s:PV}{x y:Option α}(h:es.length<=10000):fdK es.length es.length es s x y=bif decide (DI (gX s) (gY s) (gL s) 0 es<0) then x else y:=by
 unfold fdK;rw[DK rfl,AH,Bi,Ac h];rfl
theorem iu{α:Type}{es:List PV}{k:Option α}(h:es.length<=10000):apK es.length es.length es k=k:=by
 unfold apK;rw[show(decide (es.length=es.length)&&decide (es.length=es.length)&&decide ((es.length+1)*24<=140737488355328))=true by simp;omega];rfl
theorem uJ{f:Bool}{ws:List PV}{i:Int}{e:PV}{nl:Bool}{es:List PV}(h:es.length<=9999)(hn:nl=es.isEmpty):
  uI f ws i e es.length es.length nl es=some (.normal,Xh.put (lH f ws (Jq es (eL e)).length (Jq es (eL e)).length (W (i+1)) (Jq es (eL e)).isEmpty (Jq es (eL e)))):=by
 unfold uI;rw[ir (by omega),iu (by omega)];unfold Jq;cases decide (DI (gX (eL e)) (gY (eL e)) (gL (eL e)) 0 es<0) with
 |true=>simp only[Aj,BG,Ar,As,AC];rw[show(es++[eL e]).isEmpty=false by simp]
 |false=>simp only[Ap];rw[hn]
def pH:LS->Bool
 |([.l _ ws,.n n,.n l,.i i],[.l nl es])=>decide (n=es.length)&&decide (l=es.length)&&decide (0<=i)&&decide (i<=(ws.length:Int))&&decide (ws.length<=1000)&&decide ((es.length:Int)<=2*i)&&(nl==es.isEmpty)&&(ws.drop i.toNat).all fun e=>decide ((wL e).length<=100000)
 |_=>false
noncomputable abbrev xH(es:List PV):PX×List PV×List Row:=(.exit 0,tm 45 [(3,.sl 0 es.length 0 es.length)],[Sv es.isEmpty es])
noncomputable def fH:LS->DT (PX×List PV×List Row)
 |([.l _ ws,.n _,.n _,.i i],[.l _ es])=>.leaf (xH (DL (ws.drop i.toNat) es))
 |_=>.no
def mH:LS->Nat
 |([.l _ ws,.n _,.n _,.i i],_)=>((ws.length:Int)-i).toNat
 |_=>0
theorem sH:∀ s r,pH s=true->(fH s).run=some r->r.1≠.normal/\(Dc Try.prog zo 60 32 (Dh Try.f32 3) [0,3,4] [3] (Xh.put s).1 (Xh.put s).2=some r \/
   ∃ s',Dc Try.prog zo 60 32 (Dh Try.f32 3) [0,3,4] [3] (Xh.put s).1 (Xh.put s).2=some (.normal,Xh.put s')/\pH s'=true/\mH s'<mH s/\(fH s').run=some r):=by
 intro t r hp hr;unfold pH at hp;split at hp
 ·rename_i f ws n l i nl es;simp only[Aa,Ab,Av]at hp;obtain⟨⟨⟨⟨⟨⟨⟨rfl,rfl⟩,h2⟩,h3⟩,h4⟩,h5⟩,h6⟩,h7⟩:=hp;have hr':=(Ah hr).symm;refine⟨by rw[hr'];simp,?_⟩;rw[show Xh.put ([.l f ws,.n es.length,.n es.length,.i i],[.l nl es])=Xh.put (lH f ws es.length es.length i nl es) from rfl,qH];by_cases hi:i<(ws.length:Int)
  ·rw[Dt h2 hi,Cu,Aa]at h7;rw[Ac hi,Ac h2];simp only[Aj,A_];rw[Dt h2 hi]at hr';have hl:=Xi es (ws.getD i.toNat .any);have go:∃ s',(some (PX.normal,Xh.put (lH f ws (I7 es (ws.getD i.toNat .any)).length (I7 es (ws.getD i.toNat .any)).length (W (i+1)) (I7 es (ws.getD i.toNat .any)).isEmpty (I7 es (ws.getD i.toNat .any)))):Option (PX×List PV×List Row))=some (.normal,Xh.put s')/\pH s'=true/\mH s'<mH (lH f ws es.length es.length i nl es)/\(fH s').run=some r:=by
    rw[Dx (by omega) (by omega)];refine⟨lH f ws (I7 es (ws.getD i.toNat .any)).length (I7 es (ws.getD i.toNat .any)).length (i+1) (I7 es (ws.getD i.toNat .any)).isEmpty (I7 es (ws.getD i.toNat .any)),rfl,by
     simp only[pH,Aa,Ab,Av];exact⟨⟨⟨⟨⟨⟨⟨trivial,trivial⟩,by omega⟩,by omega⟩,h4⟩,by omega⟩,trivial⟩,h7.2⟩,by simp only[mH];omega,?_⟩
    rw[hr'];rfl
   obtain⟨s',g1,g2,g3,g4⟩:=go;refine .inr ⟨s',?_,g2,g3,g4⟩;rw[<- g1];cases c0:((wL (ws.getD i.toNat .any)).length:Int)==0 with
   |true=>simp only[Aj,I7,c0,h6]
   |false=>
    have hst:=J5 (L:=wL (ws.getD i.toNat .any)) (by rw[AM]at c0;omega) (AO h7.1);rw[hst];simp only[Aj,Ap];have h1:=Sz es (eF (ws.getD i.toNat .any));rw[ir (by omega),iu (by omega)];simp only[I7,c0,Ap];have e1:(bif decide (DI (gX (eF (ws.getD i.toNat .any))) (gY (eF (ws.getD i.toNat .any))) (gL (eF (ws.getD i.toNat .any))) 0 es<0) then uI f ws i (ws.getD i.toNat .any) (es.length+1) (es.length+1) (nl&&false) (es++[eF (ws.getD i.toNat .any)]) else uI f ws i (ws.getD i.toNat .any) es.length es.length nl es) =
      uI f ws i (ws.getD i.toNat .any) (Jq es (eF (ws.getD i.toNat .any))).length (Jq es (eF (ws.getD i.toNat .any))).length (Jq es (eF (ws.getD i.toNat .any))).isEmpty (Jq es (eF (ws.getD i.toNat .any))):=by
     unfold Jq;cases decide (DI (gX (eF (ws.getD i.toNat .any))) (gY (eF (ws.getD i.toNat .any))) (gL (eF (ws.getD i.toNat .any))) 0 es<0) with
     |true=>simp only[Aj,BG,Ar,As,AC];rw[show(es++[eF (ws.getD i.toNat .any)]).isEmpty=false by simp]
     |false=>simp only[Ap];rw[h6]
    rw[e1,uJ (by omega) rfl]
  ·rw[Ai hi];rw[AB (by omega)]at hr';exact .inl (by rw[hr',h6];rfl)
 ·cases hp
noncomputable def zq:C9:=zo.Dr 32 3 [0,3,4] [] Xh pH fH
theorem aZ:C4 Try.prog zq.env:=
 zp.Dr (n:=60) Try.func32 (show Try.f32.body=some (D3 Try.f32) by kernel_rfl) (show(loops (D3 Try.f32)).filter (fun b=>Ev b==3)=[Dh Try.f32 3] by kernel_rfl) [0,3,4] [3] [] Xh mH sH
theorem qRS(f:Bool)(ws:List PV):DC Try.prog zq 60 32 [.Db f 49 ws] =
 bif pH (lH f ws 0 0 0 true []) then HV (DL (ws.drop 0) []) (DL (ws.drop 0) []).length (some (.Db false 30 (((DL (ws.drop 0) []).drop 0).take (DL (ws.drop 0) []).length))) else none:=by kernel_rfl
theorem zr:DC Try.prog zq 60 32 [.val (.slice none 0 0)]=some (.Db false 30 []):=by kernel_rfl
theorem afn(f:Bool)(ws:List PV)(h1:ws.length<=1000)(h2:G6 ws=true):DC Try.prog zq 60 32 [.Db f 49 ws]=some (.Db false 30 (DL ws [])):=by
 have hp:pH (lH f ws 0 0 0 true [])=true:=by
  simp only[pH,Aa,Ab,Av];exact⟨⟨⟨⟨⟨⟨⟨rfl,rfl⟩,by omega⟩,by omega⟩,h1⟩,by simp⟩,rfl⟩,h2⟩
 rw[qRS,hp,AH,DK rfl,AH,Bi];rfl
def cRS:List PV->Option (DT PV)
 | [.Db _ 49 ws]=>some (.br (decide (ws.length<=1000)&&G6 ws) (.leaf (.Db false 30 (DL ws []))) .no)
 | [.val (.slice none 0 0)]=>some (.leaf (.Db false 30 []))
 |_=>none
theorem eRS:Hx.Df Try.prog 32:=(Cz aZ (n:=60) zr).1
theorem oRS(args:List PV)(d:DT PV)(r:PV)(h:cRS args=some d)(hr:d.run=some r):Ds Try.prog 32 args r:=by
 unfold cRS at h;split at h
 ·rename_i f ws;cases h;obtain⟨h1,rfl⟩:=DO hr;simp only[Aa,Ab]at h1;exact(Cz aZ (n:=60) (afn f ws h1.1 h1.2)).2
 ·cases h;cases hr;exact(Cz aZ (n:=60) zr).2
 ·cases h
noncomputable def R23:C9:=zq.DH 32 cRS
theorem iw:C4 Try.prog R23.env:=aZ.DH eRS oRS
theorem zs(a b c x y z:Int):DC Try.prog R23 60 51 [DU a b c,DU x y z]=bif a != x then some (bv (decide (a<x))) else bif b != y then some (bv (decide (b<y))) else some (bv (decide (c<z))):=by kernel_rfl
def uK(a b c x y z:Int):Bool:=bif a != x then decide (a<x) else bif b != y then decide (b<y) else decide (c<z)
def cLt:List PV->Option PV
 | [.agg [.val (.int .i64 a),.val (.int .i64 b),.val (.int .i64 c)],.agg [.val (.int .i64 x),.val (.int .i64 y),.val (.int .i64 z)]]=>some (bv (uK a b c x y z))
 |_=>none
theorem oLt(args:List PV)(r:PV)(h:cLt args=some r):Hx.Df Try.prog 51/\Ds Try.prog 51 args r:=by
 unfold cLt at h;split at h
 ·rename_i a b c x y z;cases h;refine Cz iw (n:=60) ((zs a b c x y z).trans ?_);unfold uK;cases a != x <;> cases b != y <;> rfl
 ·cases h
noncomputable def zt:C9:=R23.EM 51 cLt
theorem zu:C4 Try.prog zt.env:=iw.EM oLt
def TY:S1:=⟨66,[(3,.ptr 0 1 0 0),(4,.ptr 1 1 0 0),(6,.Db 30),(7,.ptr 2 1 0 0),(8,Dm)],[.one 28 2 (.agg [Dm,Dm]),.one 30 3 aS,.one 30 3 aS]⟩
abbrev lQ(f:Bool)(es:List PV)(k px py a0 a1 a2 b0 b1 b2:Int):LS:=([.l f es,.i k],[.i px,.i py,.i a0,.i a1,.i a2,.i b0,.i b1,.i b2])
noncomputable abbrev xQ(px py a0 a1 a2 b0 b1 b2:Int):PX×List PV×List Row:=(.exit 0,tm 66 [(4,.ptr 1 1 0 0),(7,.ptr 2 1 0 0)],(TY.put (lQ false [] 0 px py a0 a1 a2 b0 b1 b2)).2)
theorem qQ(f:Bool)(es:List PV)(k px py a0 a1 a2 b0 b1 b2:Int):Dc Try.prog zt 60 24 (Dh Try.f24 6) [3,4,6,7,8] [4,7] (TY.put (lQ f es k px py a0 a1 a2 b0 b1 b2)).1 (TY.put (lQ f es k px py a0 a1 a2 b0 b1 b2)).2 =
 bif decide (k<(es.length:Int)) then bif decide (0<=k)&&decide (k<(es.length:Int)) then
  bif decide (Zk px py (gX (es.getD k.toNat .any)) (gY (es.getD k.toNat .any))<Zk px py b0 b1) then
   bif decide (0<=k)&&decide (k<(es.length:Int)) then some (.normal,TY.put (lQ f es (W (k+1)) px py a0 a1 a2 (gX (es.getD k.toNat .any)) (gY (es.getD k.toNat .any)) (gL (es.getD k.toNat .any)))) else none
  else bif Zk px py (gX (es.getD k.toNat .any)) (gY (es.getD k.toNat .any))==Zk px py b0 b1 then
   bif decide (0<=k)&&decide (k<(es.length:Int)) then
    bif uK (gX (es.getD k.toNat .any)) (gY (es.getD k.toNat .any)) (gL (es.getD k.toNat .any)) b0 b1 b2 then
     bif decide (0<=k)&&decide (k<(es.length:Int)) then some (.normal,TY.put (lQ f es (W (k+1)) px py a0 a1 a2 (gX (es.getD k.toNat .any)) (gY (es.getD k.toNat .any)) (gL (es.getD k.toNat .any)))) else none
    else some (.normal,TY.put (lQ f es (W (k+1)) px py a0 a1 a2 b0 b1 b2)) else none
  else some (.normal,TY.put (lQ f es (W (k+1)) px py a0 a1 a2 b0 b1 b2)) else none else some (xQ px py a0 a1 a2 b0 b1 b2):=by kernel_rfl
theorem a9{a b:T3}:uK a.1 a.2.1 a.2.2 b.1 b.2.1 b.2.2=true ↔ a.1<b.1\/a.1=b.1/\(a.2.1<b.2.1\/a.2.1=b.2.1/\a.2.2<b.2.2):=by
 unfold uK;by_cases h1:a.1=b.1
 ·rw[show(a.1 != b.1)=false by rw[h1];exact Cp ..,Ap];by_cases h2:a.2.1=b.2.1
  ·rw[show(a.2.1 != b.2.1)=false by rw[h2];exact Cp ..,Ap,BB];omega
  ·rw[show(a.2.1 != b.2.1)=true from CA.2 h2,Aj,BB];omega
 ·rw[show(a.1 != b.1)=true from CA.2 h1,Aj,BB];omega
theorem Xj{α:Type}{px py:Int}{a b:T3}(x y:α):(bif decide (J2 px py a<J2 px py b) then x else bif J2 px py a==J2 px py b then bif uK a.1 a.2.1 a.2.2 b.1 b.2.1 b.2.2 then x else y else y)=bif GU px py a b then x else y:=by
 cases hl:GU px py a b with
 |true=>
  rw[G5]at hl;by_cases h1:J2 px py a<J2 px py b
  ·rw[Ac h1];rfl
  ·have h2:J2 px py a=J2 px py b:=by omega
   rw[Ai h1,show(J2 px py a==J2 px py b)=true from Av.2 h2,a9.2 (by omega)];rfl
 |false=>
  rw[B4,ne_eq,G5]at hl;have h1:¬J2 px py a<J2 px py b:=by omega
  rw[Ai h1];cases h2:J2 px py a==J2 px py b with
  |false=>rfl
  |true=>
   rw[Av]at h2;have h3:uK a.1 a.2.1 a.2.2 b.1 b.2.1 b.2.2=false:=by rw[B4,ne_eq,a9];omega
   rw[h3];rfl
def pQ:LS->Bool
 |([.l _ es,.i k],[.i _,.i _,.i _,.i _,.i _,.i _,.i _,.i _])=>decide (0<=k)&&decide (k<=(es.length:Int))&&decide (es.length<=10000)
 |_=>false
noncomputable def fQ:LS->DT (PX×List PV×List Row)
 |([.l _ es,.i k],[.i px,.i py,.i a0,.i a1,.i a2,.i b0,.i b1,.i b2])=>.leaf (xQ px py a0 a1 a2 (EF px py false (b0,b1,b2) (es.drop k.toNat)).1 (EF px py false (b0,b1,b2) (es.drop k.toNat)).2.1 (EF px py false (b0,b1,b2) (es.drop k.toNat)).2.2)
 |_=>.no
def mQ:LS->Nat
 |([.l _ es,.i k],_)=>((es.length:Int)-k).toNat
 |_=>0
theorem sQ:∀ s r,pQ s=true->(fQ s).run=some r->r.1≠.normal/\(Dc Try.prog zt 60 24 (Dh Try.f24 6) [3,4,6,7,8] [4,7] (TY.put s).1 (TY.put s).2=some r \/
   ∃ s',Dc Try.prog zt 60 24 (Dh Try.f24 6) [3,4,6,7,8] [4,7] (TY.put s).1 (TY.put s).2=some (.normal,TY.put s')/\pQ s'=true/\mQ s'<mQ s/\(fQ s').run=some r):=by
 intro t r hp hr;unfold pQ at hp;split at hp
 ·rename_i f es k px py a0 a1 a2 b0 b1 b2;simp only[Aa,Ab]at hp;obtain⟨⟨h2,h3⟩,h4⟩:=hp;have hr':=(Ah hr).symm;refine⟨by rw[hr'];simp,?_⟩;rw[show TY.put ([.l f es,.i k],[.i px,.i py,.i a0,.i a1,.i a2,.i b0,.i b1,.i b2])=TY.put (lQ f es k px py a0 a1 a2 b0 b1 b2) from rfl,qQ];by_cases hi:k<(es.length:Int)
  ·rw[Ac hi,Ac h2,Dx (by omega) (by omega)];simp only[Aj,A_];have go:∀ e0 e1 e2:Int,(e0,e1,e2)=(bif GU px py (DA (es.getD k.toNat .any)) (b0,b1,b2) then DA (es.getD k.toNat .any) else (b0,b1,b2)) ->
     ∃ s',TY.put (lQ f es (k+1) px py a0 a1 a2 e0 e1 e2)=TY.put s'/\pQ s'=true/\mQ s'<mQ (lQ f es k px py a0 a1 a2 b0 b1 b2)/\(fQ s').run=some r:=fun e0 e1 e2 hc=>by
    refine⟨lQ f es (k+1) px py a0 a1 a2 e0 e1 e2,rfl,by simp only[pQ,Aa,Ab];exact⟨⟨by omega,by omega⟩,h4⟩,by simp only[mQ];omega,?_⟩;rw[hr',Dt h2 hi];simp only[EF,fQ,Ap];rw[<- hc];rfl
   have ht:=Xj (px:=px) (py:=py) (a:=DA (es.getD k.toNat .any)) (b:=(b0,b1,b2)) (some (PX.normal,TY.put (lQ f es (k+1) px py a0 a1 a2 (gX (es.getD k.toNat .any)) (gY (es.getD k.toNat .any)) (gL (es.getD k.toNat .any))))) (some (PX.normal,TY.put (lQ f es (k+1) px py a0 a1 a2 b0 b1 b2)));right
   cases c2:GU px py (DA (es.getD k.toNat .any)) (b0,b1,b2) with
   |true=>
    obtain⟨s',g1,g2,g3,g4⟩:=go (gX (es.getD k.toNat .any)) (gY (es.getD k.toNat .any)) (gL (es.getD k.toNat .any)) (by rw[c2];rfl);rw[c2,Aj,g1]at ht;exact⟨s',by rw[g1];exact ht,g2,g3,g4⟩
   |false=>
    obtain⟨s',g1,g2,g3,g4⟩:=go b0 b1 b2 (by rw[c2];rfl);rw[c2,Ap]at ht;exact⟨s',by rw[<- g1];exact ht,g2,g3,g4⟩
  ·rw[Ai hi];rw[AB (by omega)]at hr';exact .inl (by rw[hr'];rfl)
 ·cases hp
noncomputable def R25:C9:=zt.Dr 24 6 [3,4,6,7,8] [false,true,false] TY pQ fQ
theorem pK:C4 Try.prog R25.env:=
 zu.Dr (n:=60) Try.func24 (show Try.f24.body=some (D3 Try.f24) by kernel_rfl) (show(loops (D3 Try.f24)).filter (fun b=>Ev b==6)=[Dh Try.f24 6] by kernel_rfl) [3,4,6,7,8] [4,7] [false,true,false] TY mQ sQ
abbrev g0(es:List PV):PV:=es.getD (0:Int).toNat .any
theorem qRE(f:Bool)(ws:List PV)(px py:Int):DC Try.prog R25 60 24 [.Db f 49 ws,FL px py] =
 bif decide (ws.length<=1000)&&G6 ws then bif ((DL ws []).length:Int)==0 then some (.D8 [DU 0 0 0,bv false]) else
  bif decide ((0:Int)<=0)&&decide ((0:Int)<((DL ws []).length:Int)) then bif pQ (lQ false (DL ws []) 1 px py 0 0 0 (gX (g0 (DL ws []))) (gY (g0 (DL ws []))) (gL (g0 (DL ws [])))) then
   some (.D8 [DU (EF px py false (DA (g0 (DL ws []))) ((DL ws []).drop (1:Int).toNat)).1 (EF px py false (DA (g0 (DL ws []))) ((DL ws []).drop (1:Int).toNat)).2.1 (EF px py false (DA (g0 (DL ws []))) ((DL ws []).drop (1:Int).toNat)).2.2,bv true]) else none else none else none:=by kernel_rfl
theorem NZ:∀(ws es:List PV),(DL ws es).length<=es.length+2*ws.length
 | [],es=>by simp[DL]
 |e::ws,es=>by
  have h1:=Xi es e;have h2:=NZ ws (I7 es e);show(DL ws (I7 es e)).length<=_
  simp only[As];omega
theorem zv(f:Bool)(ws:List PV)(px py:Int)(h1:ws.length<=1000)(h2:G6 ws=true):DC Try.prog R25 60 24 [.Db f 49 ws,FL px py]=some (J4 px py (DL ws [])):=by
 have hl:=NZ ws [];simp only[AC]at hl;rw[qRE,Ac h1,h2];generalize DL ws []=es at *;cases es with
 |nil=>rfl
 |cons e es=>
  have hp:pQ (lQ false (e::es) 1 px py 0 0 0 (gX e) (gY e) (gL e))=true:=by
   simp only[pQ,Aa,Ab];exact⟨⟨by omega,by simp only[As];omega⟩,by omega⟩
  rw[show((((e::es).length:Nat):Int)==0)=false by rw[AM];simp only[As];omega,Ac (show(0:Int)<(((e::es).length:Nat):Int) by simp only[As];omega)];show(bif pQ (lQ false (e::es) 1 px py 0 0 0 (gX e) (gY e) (gL e)) then _ else _)=_
  rw[hp];show some (PV.D8 [DU (EF px py false (DA e) es).1 (EF px py false (DA e) es).2.1 (EF px py false (DA e) es).2.2,bv true])=some (J4 px py (e::es))
  have:decide (((e::es).length:Int) > 0)=true:=by rw[BB];simp only[As];omega
  unfold J4;rw[this];rfl
def cRE:List PV->Option (DT PV)
 | [.Db _ 49 ws,.agg [.val (.int .i64 px),.val (.int .i64 py)]]=>some (.br (decide (ws.length<=1000)&&G6 ws) (.leaf (J4 px py (DL ws []))) .no)
 |_=>none
theorem eRE:Hx.Df Try.prog 24:=(Cz pK (n:=60) (zv false [] 0 0 (by simp) rfl)).1
theorem oRE(args:List PV)(d:DT PV)(r:PV)(h:cRE args=some d)(hr:d.run=some r):Ds Try.prog 24 args r:=by
 unfold cRE at h;split at h
 ·rename_i f ws px py;cases h;obtain⟨h1,rfl⟩:=DO hr;simp only[Aa,Ab]at h1;exact(Cz pK (n:=60) (zv f ws px py h1.1 h1.2)).2
 ·cases h
theorem IY{e:PV}{x y z:Int}:VO e x y z=true ↔ DA e=(x,y,z):=by
 unfold VO;simp only[Br,Aa,Av,CN];constructor
 ·rintro⟨⟨a,b⟩,c⟩;exact⟨a,b,c⟩
 ·rintro⟨a,b,c⟩;exact⟨⟨a,b⟩,c⟩
theorem Gu{x y z:Int}:∀{es:List PV} {i:Int},0<=i->(DI x y z i es<0 ↔ (x,y,z)∉es.map DA)
 | [],i,h=>by simp[DI]
 |e::es,i,h=>by
  rw[DI,AW,AK];cases hq:VO e x y z with
  |true=>rw[IY]at hq;rw[Aj,hq];simp;omega
  |false=>
   rw[B4,ne_eq,IY]at hq;rw[Ap,Gu (by omega)];simp only[not_or];exact⟨fun h=>⟨fun h'=>hq h'.symm,h⟩,fun h=>h.2⟩
theorem Xk{es:List PV}{s:PV}{t:T3}:t∈(Jq es s).map DA ↔ t∈es.map DA\/t=DA s:=by
 unfold Jq;cases hd:decide (DI (gX s) (gY s) (gL s) 0 es<0) with
 |true=>rw[Aj,Bx,A5];simp
 |false=>
  rw[AS,Gu (by omega),C7]at hd;rw[Ap];exact⟨.inl,fun h=>h.elim id fun e=>e▸hd⟩
def E7(ws:List PV)(t:T3):Prop:=∃ e∈ws,(wL e).length≠0/\(t=DA (eF e)\/t=DA (eL e))
theorem Xl{t:T3}:∀{ws es:List PV},t∈(DL ws es).map DA ↔ t∈es.map DA\/E7 ws t
 | [],es=>by
  have:¬E7 [] t:=fun⟨e,h,_⟩=>by cases h
  simp only[DL,List.foldl_nil,this,Cw]
 |e::ws,es=>by
  show t∈(DL ws (I7 es e)).map DA ↔ _
  rw[Xl];have h1:t∈(I7 es e).map DA ↔ t∈es.map DA\/((wL e).length≠0/\(t=DA (eF e)\/t=DA (eL e))):=by
   unfold I7;cases h0:((wL e).length:Int)==0 with
   |true=>
    rw[Av]at h0;have:(wL e).length=0:=by omega
    rw[Aj];simp[this]
   |false=>
    rw[AM]at h0;have:(wL e).length≠0:=by omega
    rw[Ap,Xk,Xk];constructor
    ·rintro ((h |h) |h)
     ·exact .inl h
     ·exact .inr ⟨this,.inl h⟩
     ·exact .inr ⟨this,.inr h⟩
    ·rintro (h |⟨_,h |h⟩)
     ·exact .inl (.inl h)
     ·exact .inl (.inr h)
     ·exact .inr h
  rw[h1];constructor
  ·rintro ((h |h) |⟨x,hx,h⟩)
   ·exact .inl h
   ·exact .inr ⟨e,AL ..,h⟩
   ·exact .inr ⟨x,AT _ hx,h⟩
  ·rintro (h |⟨x,hx,h⟩)
   ·exact .inl (.inl h)
   ·rcases AK.1 hx with rfl |hx
    ·exact .inl (.inr h)
    ·exact .inr ⟨x,hx,h⟩
theorem QP{x y z a b c:Int}:JU (DU x y z) (DU a b c)=true ↔ x=a/\y=b/\z=c:=by
 show((x==a)&&((y==b)&&((z==c)&&true)))=true ↔ _
 simp only[Br,Aa,Av]
theorem SA{x y z:Int}{v:PV}{t:T3}:∀{D:List (PV×PV)},NW D->(t∈(EV D (DU x y z) v).map (fun u=>DA u.1) ↔ t∈D.map (fun u=>DA u.1)\/t=(x,y,z))
 | [],_=>by simp only[EV,AW,Bq,AI,B9,Dv];rfl
 |(a,w)::D,h=>by
  have ha:a=ze a:=h (a,w) (AL ..);unfold EV;cases hq:JU (DU x y z) a with
  |true=>
   rw[ha,QP]at hq;have:DA a=(x,y,z):=by simp only[CN];exact⟨hq.1.symm,hq.2.1.symm,hq.2.2.symm⟩
   rw[Aj,AW,AW,AK,AK];show t=(x,y,z)\/_ ↔ (t=DA a\/_)\/_
   rw[this];constructor
   ·rintro (h |h)
    ·exact .inr h
    ·exact .inl (.inr h)
   ·rintro ((h |h) |h)
    ·exact .inl h
    ·exact .inr h
    ·exact .inl h
  |false=>
   have ih:=SA (x:=x) (y:=y) (z:=z) (v:=v) (t:=t) (D:=D) (fun u hu=>h u (AT _ hu));rw[Ap,AW,AW,AK,AK,ih];constructor
   ·rintro (h |h |h)
    ·exact .inl (.inl h)
    ·exact .inl (.inr h)
    ·exact .inr h
   ·rintro ((h |h) |h)
    ·exact .inl h
    ·exact .inr (.inl h)
    ·exact .inr (.inr h)
theorem Xm{t:T3}:∀{es:List PV} {D:List (PV×PV)},NW D->(t∈(G4 es D).map (fun u=>DA u.1) ↔ t∈D.map (fun u=>DA u.1)\/∃ e∈es,t=DA (eF e)\/t=DA (eL e))
 | [],D,_=>by simp[G4]
 |e::es,D,h=>by
  have h1:NW (EV D (lg (wL e) (MQ e)) (bv true)):=h.put _ _ _ _;show t∈(G4 es (D9 D e)).map (fun u=>DA u.1) ↔ _
  rw[Xm (show NW (D9 D e) from h1.put _ _ _ _)];unfold D9;rw[SA h1,SA h];constructor
  ·rintro (((h |h) |h) |⟨x,hx,h⟩)
   ·exact .inl h
   ·exact .inr ⟨e,AL ..,.inl h⟩
   ·exact .inr ⟨e,AL ..,.inr h⟩
   ·exact .inr ⟨x,AT _ hx,h⟩
  ·rintro (h |⟨x,hx,h⟩)
   ·exact .inl (.inl (.inl h))
   ·rcases AK.1 hx with rfl |hx
    ·rcases h with h |h
     ·exact .inl (.inl (.inr h))
     ·exact .inl (.inr h)
    ·exact .inr ⟨x,hx,h⟩
theorem SB{ws:List PV}{t:T3}:t∈(I6 ws).map DA ↔ E7 ws t:=by
 show t∈((G4 (Dg (Dd false) ws) []).map (·.1)).map DA ↔ _
 rw[Cq];have:=Xm (t:=t) (es:=Dg (Dd false) ws) (D:=[]) (fun x hx=>by cases hx);simp only[Bq,B9,Dv]at this;refine this.trans ?_;constructor
 ·rintro⟨e,he,h⟩
  unfold Dg at he;rw[Bj]at he;have h2:=he.2;simp only[Dd,Am,BJ,AM]at h2;exact⟨e,he.1,by omega,h⟩
 ·rintro⟨e,he,h0,h⟩
  refine⟨e,?_,h⟩;unfold Dg;rw[Bj];refine⟨he,?_⟩;simp only[Dd,Cf,CC,Am,AM];omega
theorem FW{ws:List PV}{t:T3}:t∈(DL ws []).map DA ↔ E7 ws t:=by
 rw[Xl];simp
theorem ng{px py:Int}{l l':List PV}(h:∀ t:T3,t∈l.map DA ↔ t∈l'.map DA):J4 px py l=J4 px py l':=by
 have he:l=[] ↔ l'=[]:=by
  constructor
  ·rintro rfl
   cases l' with
   |nil=>rfl
   |cons e l'=>exact absurd ((h (DA e)).2 (by simp)) (by simp)
  ·rintro rfl
   cases l with
   |nil=>rfl
   |cons e l=>exact absurd ((h (DA e)).1 (by simp)) (by simp)
 by_cases h0:l=[]
 ·rw[h0,he.1 h0]
 ·have h0':l'≠[]:=fun e=>h0 (he.2 e)
  have hb:=J3 (px:=px) (py:=py) (b:=(0,0,0)) h0;have hb':=J3 (px:=px) (py:=py) (b:=(0,0,0)) h0';have:EF px py true (0,0,0) l=EF px py true (0,0,0) l':=HX.uniq ⟨(h _).1 hb.1,fun x hx=>hb.2 x ((h x).2 hx)⟩ hb';unfold J4;have h1:0<l.length:=List.length_pos_iff.2 h0;have h2:0<l'.length:=List.length_pos_iff.2 h0';rw[this,Ac (show(l.length:Int) > 0 by omega),Ac (show(l'.length:Int) > 0 by omega)]
theorem entry_eq(px py:Int)(ws:List PV):J4 px py (I6 ws)=J4 px py (DL ws []):=ng fun _=>SB.trans FW.symm
def nh:List PV->Option (DT PV) | [.val (.int .i64 n),.val (.int .i64 m)]=>some (.br (decide (0<m)&&decide (m<=4611686018427387904)) (.leaf (iv (n % m))) .no) |_=>none
theorem afs(n m:Int):DC Try.prog {} 60 20 [iv n,iv m]=bif !decide (m=0) then (bif !decide (m=0) then some (iv (Int.tmod (W (Int.tmod n m+m)) m)) else none) else none:=by kernel_rfl
theorem iy{n m:Int}(h0:0<m)(h1:m<=4611686018427387904):Int.tmod (W (Int.tmod n m+m)) m=n % m:=by
 have hb:=Int.lt_tmod_of_pos n h0;have hb2:=Int.tmod_lt_of_pos n h0;rw[Dx (by omega) (by omega),Int.tmod_eq_emod_of_nonneg (by omega),Int.add_emod_right];rcases Int.le_total 0 n with hn |hn
 ·rw[Int.tmod_eq_emod_of_nonneg hn,Int.emod_emod]
 ·rw[Int.tmod_def,Int.sub_emod,Int.mul_emod_right];simp
theorem zw:Hx.Df Try.prog 20:=(Cz FK (n:=60) (args:=[iv 0,iv 1]) (p:=iv 0) (by kernel_rfl)).1
theorem zx(args:List PV)(d:DT PV)(r:PV)(h:nh args=some d)(hd:d.run=some r):Ds Try.prog 20 args r:=by
 unfold nh at h;split at h
 ·rename_i n m;cases h;obtain⟨hc,rfl⟩:=DO hd;simp only[Aa,Ab]at hc;refine(Cz FK (n:=60) ?_).2;rw[afs,show decide (m=0)=false by simp;omega,iy hc.1 hc.2];rfl
 ·cases h
def M6:C9:=M5.DH 20 nh
theorem uL:C4 Try.prog M6.env:=ae7.DH zw zx
def dv(es:List PV)(k:Nat):Int:=((es.getD k .any).cellAt 0).DN
def dI(es:List PV)(a n:Int):Int:=if (es.length:Int)<=a then 0 else dv es a.toNat % n
def aI(es:List PV)(a:Int):Int:=if (es.length:Int)<=a then a else a+1
abbrev Ie(f:Bool)(es:List PV)(a:Int):Row:=r1 103 2 (.agg [.Db f 3 es,iv a])
def E3(a n:Int):Bool:=decide (0<=a)&&decide (a<4611686018427387904)&&decide (0<n)&&decide (n<=4611686018427387904)
def fI(f:Bool)(es:List PV)(a:Int):Bool:=f&&decide ((es.length:Int)<=a)
def uM:List PV->List Row->Option (DT (PV×List Row))
 | [.ptr 0 1 0 0,.val (.int .i64 n)],[⟨[.agg [.Db f 3 es,.val (.int .i64 a)]],2,103,true,true,false,none,false⟩]=>
  some (.br (E3 a n) (.leaf (iv (dI es a n),[Ie (fI f es a) es (aI es a)])) .no)
 |_,_=>none
theorem aft(es:List PV)(a:Int)(f:Bool)(n:Int):OB Try.prog M6 60 0 55 [.ptr 0 1 0 0,iv n] [Ie f es a] =
 bif decide (a ≥ ((es.length:Nat):Int)) then some (iv 0,[Ie f es a])
 else bif decide (0<=W (W (a+1)-1))&&decide (W (W (a+1)-1)<((es.length:Nat):Int)) then
  bif decide (0<n)&&decide (n<=4611686018427387904) then some (iv (dv es (W (W (a+1)-1)).toNat % n),[Ie false es (W (a+1))]) else none
 else none:=by kernel_rfl
theorem afu:Hx.Df Try.prog 55:=(RN uL (n:=60) (ro:=0) (args:=[.ptr 0 1 0 0,iv 1]) (H:=[Ie true [] 0]) (p:=iv 0) (H':=[Ie true [] 0]) (by kernel_rfl)).1
theorem afv(args:List PV)(H:List Row)(d:DT (PV×List Row))(p:PV)(H':List Row)(h:uM args H=some d)(hd:d.run=some (p,H')):Fh Try.prog 0 55 args H p H':=by
 unfold uM at h;split at h
 ·rename_i n f es a;cases h;obtain⟨hc,he⟩:=Gc hd;cases he;unfold E3 at hc;simp only[Aa,Ab]at hc;obtain⟨⟨⟨h0,h3⟩,h1⟩,h2⟩:=hc;refine(RN uL (n:=60) ?_).2;rw[aft];have hw1:W (a+1)=a+1:=Dx (by omega) (by omega);have hw:W (W (a+1)-1)=a:=by rw[hw1,Dx (by omega) (by omega)];omega
  unfold dI aI fI;by_cases hk:(es.length:Int)<=a
  ·have g1:decide (a ≥ ((es.length:Nat):Int))=true:=by simp;omega
   rw[g1,Ak hk,Ak hk,Br];rfl
  ·have g1:decide (a ≥ ((es.length:Nat):Int))=false:=by simp;omega
   have g2:(decide (0<=a)&&decide (a<((es.length:Nat):Int)))=true:=by simp;omega
   rw[g1,hw,g2,hw1,Aq hk,Aq hk];simp only[BG,h1,h2,CV,Br,Aj,Ap]
 ·cases h
def M7:C9:=M6.Ff 55 uM
theorem IM:C4 Try.prog M7.env:=uL.Ff afu afv
theorem IZ(es:List PV)(k:Int){n:Int}(h:0<n):0<=dI es k n:=by unfold dI;split;exact BK _;exact Cm _ (by omega)
theorem ID(es:List PV)(k:Int){n:Int}(h:0<n):dI es k n<n:=by unfold dI;split;exact h;exact Ca _ h
theorem F6(es:List PV)(a:Int):a<=aI es a/\aI es a<=a+1:=by unfold aI;split <;> omega
def Ya(i j:Int):Int:=W (2*W (W (4*j)+i))
def TZ(L:List PV)(i j:Int):Int:=W (W (40+W (100*i))+(bif decide (W (Ya i j+1)<(L.length:Int)) then W (((L.getD (Ya i j).toNat .any).cellAt 0).DN % 21-10) else 0))
def T1(L:List PV)(i j:Int):Int:=W (W (40+W (100*j))+(bif decide (W (Ya i j+1)<(L.length:Int)) then W (((L.getD (W (Ya i j+1)).toNat .any).cellAt 0).DN % 21-10) else 0))
theorem zy(f:Bool)(L:List PV)(i j:Int):DC Try.prog M7 60 73 [.Db f 3 L,iv i,iv j] =
 bif decide (W (Ya i j+1)<(L.length:Int)) then bif decide (0<=Ya i j)&&decide (Ya i j<(L.length:Int)) then bif decide (0<=W (Ya i j+1))&&decide (W (Ya i j+1)<(L.length:Int)) then
  some (FL (W (W (40+W (100*i))+W (((L.getD (Ya i j).toNat .any).cellAt 0).DN % 21-10))) (W (W (40+W (100*j))+W (((L.getD (W (Ya i j+1)).toNat .any).cellAt 0).DN % 21-10)))) else none else none
 else some (FL (W (W (40+W (100*i))+0)) (W (W (40+W (100*j))+0))):=by kernel_rfl
theorem iz(i j:Int):DC Try.prog M7 60 73 [.val (.slice none 0 0),iv i,iv j] =
 bif decide (W (Ya i j+1)<0) then none else some (FL (W (W (40+W (100*i))+0)) (W (W (40+W (100*j))+0))):=by kernel_rfl
def LU(i j:Int):Bool:=decide (0<=i)&&decide (i<=10)&&decide (0<=j)&&decide (j<=10)
theorem iA{i j:Int}(h:LU i j=true):Ya i j=2*(4*j+i)/\W (Ya i j+1)=2*(4*j+i)+1/\0<=2*(4*j+i):=by
 unfold LU at h;simp only[Aa,Ab]at h;have h1:Ya i j=2*(4*j+i):=by
  unfold Ya;rw[Dx (n:=4*j) (by omega) (by omega),Dx (n:=4*j+i) (by omega) (by omega),Dx (by omega) (by omega)]
 exact⟨h1,by rw[h1,Dx (by omega) (by omega)],by omega⟩
def iB:List PV->Option (DT PV)
 | [.Db _ 3 L,.val (.int .i64 i),.val (.int .i64 j)]=>some (.br (LU i j) (.leaf (FL (TZ L i j) (T1 L i j))) .no)
 | [.val (.slice none 0 0),.val (.int .i64 i),.val (.int .i64 j)]=>some (.br (LU i j) (.leaf (FL (TZ [] i j) (T1 [] i j))) .no)
 |_=>none
theorem zz:Hx.Df Try.prog 73:=(Cz IM (n:=60) ((iz 0 0).trans (by rfl))).1
theorem zA(args:List PV)(d:DT PV)(r:PV)(h:iB args=some d)(hr:d.run=some r):Ds Try.prog 73 args r:=by
 unfold iB at h;split at h
 ·rename_i f L i j;cases h;obtain⟨h1,rfl⟩:=DO hr;refine(Cz IM (n:=60) ((zy f L i j).trans ?_)).2;obtain⟨k1,k2,k3⟩:=iA h1;unfold TZ T1;rw[k1,k2] at *;by_cases hl:2*(4*j+i)+1<(L.length:Int)
  ·rw[Ac hl,show(decide (0<=2*(4*j+i))&&decide (2*(4*j+i)<(L.length:Int)))=true by simp;omega,show(decide (0<=2*(4*j+i)+1)&&true)=true by simp;omega];rfl
  ·rw[Ai hl];rfl
 ·rename_i i j;cases h;obtain⟨h1,rfl⟩:=DO hr;refine(Cz IM (n:=60) ((iz i j).trans ?_)).2;obtain⟨k1,k2,k3⟩:=iA h1;unfold TZ T1;rw[k2] at *;rw[Ai (show ¬2*(4*j+i)+1<0 by omega),show decide (2*(4*j+i)+1<(([]:List PV).length:Int))=false by simp;omega];rfl
 ·cases h
def a1(L:List PV)(a:Int):Nat->Int
 |0=>a
 |n+1=>aI L (a1 L a n)
def f1(f:Bool)(L:List PV)(a:Int):Nat->Bool
 |0=>f
 |n+1=>fI (f1 f L a n) L (a1 L a n)
theorem Hv(L:List PV)(a:Int):∀ n:Nat,a<=a1 L a n/\a1 L a n<=a+n
 |0=>by simp[a1]
 |n+1=>by
  have h1:=Hv L a n;have h2:=F6 L (a1 L a n);simp only[a1];omega
theorem N1(L:List PV)(a:Int):∀ n:Nat,a1 L (aI L a) n=a1 L a (n+1)
 |0=>rfl
 |n+1=>by
  show aI L (a1 L (aI L a) n)=aI L (a1 L a (n+1))
  rw[N1 L a n]
theorem QQ(f:Bool)(L:List PV)(a:Int):∀ n:Nat,f1 (fI f L a) L (aI L a) n=f1 f L a (n+1)
 |0=>rfl
 |n+1=>by
  show fI (f1 (fI f L a) L (aI L a) n) L (a1 L (aI L a) n)=fI (f1 f L a (n+1)) L (a1 L a (n+1))
  rw[QQ f L a n,N1]
noncomputable def M8:C9:=(M7.DH 73 iB).JY Try.prog 47
theorem afw:C4 Try.prog M8.env:=(IM.DH zz zA).JY 47
abbrev aP:X1:=.agg [Dm,Dm]
def LV:S1:=⟨76,[(2,.ptr 0 1 0 0),(3,.ptr 1 1 0 0),(4,.ptr 2 1 0 0),(7,.sl 3),(8,Dm),(9,.ptr 4 1 0 0),(10,Dm)],[.one 103 2 (.agg [.Db 3,Dm]),.one 28 2 aP,.one 28 2 aP,.many 28 2,.one 28 2 aP]⟩
abbrev ni(n l:Nat)(many k:Int)(f:Bool)(L:List PV)(a x0 y0 x1 y1:Int)(nl:Bool)(es:List PV)(u0 u1:Int):LS:=([.n n,.n l,.i many,.i k],[.l f L,.i a,.i x0,.i y0,.i x1,.i y1,.l nl es,.i u0,.i u1])
noncomputable abbrev xWg(n l:Nat)(f:Bool)(L:List PV)(a x0 y0 x1 y1:Int)(nl:Bool)(es:List PV)(u0 u1:Int):PX×List PV×List Row:=
 (.exit 0,tm 76 [(2,.ptr 0 1 0 0),(4,.ptr 2 1 0 0),(7,.sl 3 n 0 l)],(LV.put (ni n l 0 0 f L a x0 y0 x1 y1 nl es u0 u1)).2)
abbrev T4(x u many k:Int):Int:=W (x+W (Int.tdiv (W (u*k)) (W (many+1))))
abbrev wgB(many d:Int):Int:=W (Int.tdiv (W (d-10)) (W (1+W (Int.tdiv many 2))))
def SC(es:List PV)(n l:Nat):Bool:=(es.length==n)&&(decide (l<=n)&&decide ((n+1)*16<=140737488355328))
theorem qWg(n l:Nat)(many k:Int)(f:Bool)(L:List PV)(a x0 y0 x1 y1:Int)(es:List PV)(u0 u1:Int):Dc Try.prog M8 60 72 (Dh Try.f72 5) [2,3,4,7,8,9,10] [2,4,7] (LV.put (ni n l many k f L a x0 y0 x1 y1 false es u0 u1)).1 (LV.put (ni n l many k f L a x0 y0 x1 y1 false es u0 u1)).2 =
 bif decide (k<=many) then bif true && !decide (W (many+1)=0) then bif true && !decide (W (many+1)=0) then bif E3 a 21 then bif true && !decide (W (1+W (Int.tdiv many 2))=0) then
  bif decide (u0 > u1) then bif SC es n l then
   some (.normal,LV.put (ni (max n (l+1)) (l+1) many (W (k+1)) (fI f L a) L (aI L a) x0 y0 x1 y1 false (es.take l++FL (T4 x0 u0 many k) (W (T4 y0 u1 many k+wgB many (dI L a 21)))::es.drop (l+1)) u0 u1)) else none
  else bif SC es n l then
   some (.normal,LV.put (ni (max n (l+1)) (l+1) many (W (k+1)) (fI f L a) L (aI L a) x0 y0 x1 y1 false (es.take l++FL (W (T4 x0 u0 many k+wgB many (dI L a 21))) (T4 y0 u1 many k)::es.drop (l+1)) u0 u1)) else none
 else none else none else none else none else some (xWg n l f L a x0 y0 x1 y1 false es u0 u1):=by kernel_rfl
def wgP(x0 y0 u0 u1 many k d:Int):PV:=bif decide (u0 > u1) then FL (T4 x0 u0 many k) (W (T4 y0 u1 many k+wgB many d)) else FL (W (T4 x0 u0 many k+wgB many d)) (T4 y0 u1 many k)
def nj(x0 y0 u0 u1 many:Int)(L:List PV):Nat->Int->Int->List PV
 |0,_,_=>[]
 |m+1,k,a=>wgP x0 y0 u0 u1 many k (dI L a 21)::nj x0 y0 u0 u1 many L m (k+1) (aI L a)
theorem U0{x0 y0 u0 u1 many:Int}{L:List PV}:∀{m:Nat} {k a:Int},(nj x0 y0 u0 u1 many L m k a).length=m
 |0,_,_=>rfl
 |m+1,k,a=>by rw[nj,As,U0]
def nk:LS->Bool
 |([.n n,.n l,.i many,.i k],[.l _ _,.i a,.i _,.i _,.i _,.i _,.l nl es,.i _,.i _])=>decide (n=es.length)&&decide (l=es.length)&&decide (0<=many)&&decide (many<=3)&&decide (1<=k)&&decide (k<=many+1)&&decide (es.length<=1000+k.toNat)&&decide (0<=a)&&decide (a<=1000000000+k) && !nl
 |_=>false
noncomputable def zB:LS->DT (PX×List PV×List Row)
 |([.n _,.n _,.i many,.i k],[.l f L,.i a,.i x0,.i y0,.i x1,.i y1,.l _ es,.i u0,.i u1])=>
  .leaf (xWg (es.length+(many+1-k).toNat) (es.length+(many+1-k).toNat) (f1 f L a (many+1-k).toNat) L (a1 L a (many+1-k).toNat) x0 y0 x1 y1 false (es++nj x0 y0 u0 u1 many L (many+1-k).toNat k a) u0 u1)
 |_=>.no
def xg:LS->Nat
 |([.n _,.n _,.i many,.i k],_)=>(many+1-k).toNat
 |_=>0
theorem sWg:∀ s r,nk s=true->(zB s).run=some r->r.1≠.normal/\(Dc Try.prog M8 60 72 (Dh Try.f72 5) [2,3,4,7,8,9,10] [2,4,7] (LV.put s).1 (LV.put s).2=some r \/
   ∃ s',Dc Try.prog M8 60 72 (Dh Try.f72 5) [2,3,4,7,8,9,10] [2,4,7] (LV.put s).1 (LV.put s).2=some (.normal,LV.put s')/\nk s'=true/\xg s'<xg s/\(zB s').run=some r):=by
 intro t r hp hr;unfold nk at hp;split at hp
 ·rename_i n l many k f L a x0 y0 x1 y1 nl es u0 u1;simp only[Aa,Ab,Am]at hp;obtain⟨⟨⟨⟨⟨⟨⟨⟨⟨rfl,rfl⟩,h2⟩,h3⟩,h4⟩,h5⟩,h6⟩,h7⟩,h8⟩,rfl⟩:=hp;have hr':=(Ah hr).symm;refine⟨by rw[hr'];simp,?_⟩;rw[show LV.put ([.n es.length,.n es.length,.i many,.i k],[.l f L,.i a,.i x0,.i y0,.i x1,.i y1,.l false es,.i u0,.i u1])=LV.put (ni es.length es.length many k f L a x0 y0 x1 y1 false es u0 u1) from rfl,qWg];by_cases hi:k<=many
  ·obtain⟨m,hm⟩:∃ m,(many+1-k).toNat=m+1:=⟨(many+1-k).toNat-1,by omega⟩;have hm2:(many+1-(k+1)).toNat=m:=by omega
   have hq:Int.tdiv many 2=0\/Int.tdiv many 2=1:=by
    have:many=0\/many=1\/many=2\/many=3:=by omega
    rcases this with rfl |rfl |rfl |rfl <;> decide
   have hw1:W (many+1)=many+1:=Dx (by omega) (by omega);have hw2:W (1+W (Int.tdiv many 2))=1+Int.tdiv many 2:=by rw[Dx (n:=Int.tdiv many 2) (by omega) (by omega),Dx (by omega) (by omega)]
   have hroom:SC es es.length es.length=true:=by unfold SC;simp;omega
   have hok:E3 a 21=true:=by unfold E3;simp;omega
   rw[Ac hi,hok,hroom,Dx (n:=k+1) (by omega) (by omega),show(!decide (W (many+1)=0))=true by rw[hw1];simp;omega,show(!decide (W (1+W (Int.tdiv many 2))=0))=true by rw[hw2];simp;omega];simp only[A_,Aj];rw[Bi,AB (by omega),show max es.length (es.length+1)=es.length+1 by omega];rw[hm]at hr';simp only[nj]at hr';have key:∀ p:PV,p=wgP x0 y0 u0 u1 many k (dI L a 21)->∃ s',some (PX.normal,LV.put (ni (es.length+1) (es.length+1) many (k+1) (fI f L a) L (aI L a) x0 y0 x1 y1 false (es++[p]) u0 u1))=some (PX.normal,LV.put s')/\nk s'=true /\
     xg s'<xg ([.n es.length,.n es.length,.i many,.i k],[.l f L,.i a,.i x0,.i y0,.i x1,.i y1,.l false es,.i u0,.i u1])/\(zB s').run=some r:=by
    rintro p rfl
    have ha:=F6 L a;refine⟨_,rfl,?_,by simp only[xg];omega,?_⟩
    ·simp only[nk,Aa,Ab,Am,Ar,As,AC];exact⟨⟨⟨⟨⟨⟨⟨⟨⟨trivial,trivial⟩,h2⟩,h3⟩,by omega⟩,by omega⟩,by omega⟩,by omega⟩,by omega⟩,trivial⟩
    ·rw[hr'];simp only[zB,hm2,DT.run,Ar,As,AC];rw[N1,QQ,BA,show es.length+(0+1)+m=es.length+(m+1) by omega];rfl
   unfold wgP at key;cases hb:decide (u0 > u1) with
   |true=>rw[hb]at key;exact .inr (key _ rfl)
   |false=>rw[hb]at key;exact .inr (key _ rfl)
  ·rw[Ai hi];refine .inl ?_;rw[hr',show(many+1-k).toNat=0 by omega,By];simp only[nj,BV];rfl
 ·cases hp
noncomputable def M9:C9:=M8.Dr 72 5 [2,3,4,7,8,9,10] [true,true,true,false,true] LV nk zB
theorem uN:C4 Try.prog M9.env:=
 afw.Dr (n:=60) Try.func72 (show Try.f72.body=some (D3 Try.f72) by kernel_rfl) (show(loops (D3 Try.f72)).filter (fun b=>Ev b==5)=[Dh Try.f72 5] by kernel_rfl) [2,3,4,7,8,9,10] [2,4,7] [true,true,true,false,true] LV xg sWg
abbrev LW(L:List PV)(a:Int):Nat:=(dI L a 4+1-1).toNat
abbrev iC(x0 y0 x1 y1:Int)(L:List PV)(a:Int):List PV:=[FL x0 y0]++nj x0 y0 (W (x1-x0)) (W (y1-y0)) (dI L a 4) L (LW L a) 1 (aI L a)
theorem afy(x0 y0 x1 y1:Int)(f:Bool)(L:List PV)(a:Int):Kz Try.prog M9 60 72 [FL x0 y0,FL x1 y1,.ptr 0 1 0 0] [Ie f L a] =
 bif E3 a 4 then bif nk (ni 1 1 (dI L a 4) 1 (fI f L a) L (aI L a) x0 y0 x1 y1 false [FL x0 y0] (W (x1-x0)) (W (y1-y0))) then
  bif SC (iC x0 y0 x1 y1 L a) (1+LW L a) (1+LW L a) then
  HV ((iC x0 y0 x1 y1 L a).take (1+LW L a)++FL x1 y1::(iC x0 y0 x1 y1 L a).drop (1+LW L a+1)) (max (1+LW L a) (1+LW L a+1))
   (some (.Db false 28 ((((iC x0 y0 x1 y1 L a).take (1+LW L a)++FL x1 y1::(iC x0 y0 x1 y1 L a).drop (1+LW L a+1)).drop 0).take (1+LW L a+1)),[Ie (f1 (fI f L a) L (aI L a) (LW L a)) L (a1 L (aI L a) (LW L a))]))
  else none else none else none:=by kernel_rfl
abbrev dQ(x0 y0 x1 y1:Int)(L:List PV)(a:Int):List PV:=iC x0 y0 x1 y1 L a++[FL x1 y1]
theorem pO(x0 y0 x1 y1:Int)(f:Bool)(L:List PV)(a:Int)(h:0<=a)(h2:a<=1000000000):Kz Try.prog M9 60 72 [FL x0 y0,FL x1 y1,.ptr 0 1 0 0] [Ie f L a] =
  some (.Db false 28 (dQ x0 y0 x1 y1 L a),[Ie (f1 f L a (LW L a+1)) L (a1 L a (LW L a+1))]):=by
 have h3:=IZ L a (n:=4) (by omega);have h4:=ID L a (n:=4) (by omega);have ha:=F6 L a;have hok:E3 a 4=true:=by unfold E3;simp;omega
 have hp:nk (ni 1 1 (dI L a 4) 1 (fI f L a) L (aI L a) x0 y0 x1 y1 false [FL x0 y0] (W (x1-x0)) (W (y1-y0)))=true:=by
  simp only[nk,Aa,Ab,Am,As,AC];exact⟨⟨⟨⟨⟨⟨⟨⟨⟨trivial,trivial⟩,by omega⟩,by omega⟩,by omega⟩,by omega⟩,by omega⟩,by omega⟩,by omega⟩,trivial⟩
 have hlen:(iC x0 y0 x1 y1 L a).length=1+LW L a:=by
  show(([FL x0 y0]++nj x0 y0 (W (x1-x0)) (W (y1-y0)) (dI L a 4) L (LW L a) 1 (aI L a)):List PV).length=_
  rw[Ar,U0];rfl
 have hN:LW L a<=3:=by show(dI L a 4+1-1).toNat<=3;omega
 have hroom:SC (iC x0 y0 x1 y1 L a) (1+LW L a) (1+LW L a)=true:=by unfold SC;rw[hlen];simp;omega
 rw[afy,hok,hp,hroom];simp only[Aj];rw[<- hlen,Bi,AB (by omega),show max (iC x0 y0 x1 y1 L a).length ((iC x0 y0 x1 y1 L a).length+1)=(iC x0 y0 x1 y1 L a).length+1 by omega,
  DK (by rw[Ar];rfl),AH,A7 (by rw[Ar];simp),N1,QQ]
def uO:List PV->List Row->Option (DT (PV×List Row))
 | [.agg [.val (.int .i64 x0),.val (.int .i64 y0)],.agg [.val (.int .i64 x1),.val (.int .i64 y1)],.ptr 0 1 0 0],[⟨[.agg [.Db f 3 L,.val (.int .i64 a)]],2,103,true,true,false,none,false⟩]=>
  some (.br (decide (0<=a)&&decide (a<=1000000000)) (.leaf (.Db false 28 (dQ x0 y0 x1 y1 L a),[Ie (f1 f L a (LW L a+1)) L (a1 L a (LW L a+1))])) .no)
 |_,_=>none
theorem afz:Hx.Df Try.prog 72:=(DP uN (pO 0 0 0 0 false [] 0 (by omega) (by omega))).1
theorem afA(args:List PV)(H:List Row)(d:DT (PV×List Row))(q:PV)(H':List Row)(h:uO args H=some d)(hd:d.run=some (q,H')):Fh Try.prog 0 72 args H q H':=by
 unfold uO at h;split at h
 ·rename_i x0 y0 x1 y1 f L a;cases h;obtain⟨hc,he⟩:=Gc hd;cases he;simp only[Aa,Ab]at hc;exact(DP uN (pO x0 y0 x1 y1 f L a hc.1 hc.2)).2
 ·cases h
noncomputable def M10:C9:=M9.Ff 72 uO
theorem zC:C4 Try.prog M10.env:=uN.Ff afz afA
end Go.Hr
namespace Go.Hr
open Go.Hx Go.Hg Go.Hn Go.Proofs Ieee
theorem iD(way:Toward)(n drop:Nat):way.cut false n drop<=n / (1 <<< min drop (n.log2+2))+1:=by
 unfold Toward.cut;have:∀ b:Bool,b.toNat<=1:=fun b=>by cases b <;> decide
 exact Nat.add_le_add_left (this _) _
theorem iE(n drop:Nat):Toward.zero.cut false n drop<=n:=by
 unfold Toward.cut;show n / _+0<=n
 rw[By];exact Nat.div_le_self _ _
theorem U1(n:Nat):n<2 ^ (n.log2+1):=Nat.lt_log2_self
theorem dR{mag:Nat}{place last:Int}(h:place+mag.log2<=last+52):Toward.even.cut false (mag <<< (place-last).toNat) (last-place).toNat<=2 ^ 53:=by
 by_cases hp:last<=place
 ·refine Bb (iD _ _ _) ?_;have hd:(last-place).toNat=0:=by omega
  rw[hd,Nat.zero_min,CT,Nat.div_one,Nat.shiftLeft_eq];have h1:=U1 mag;have h2:mag*2 ^ (place-last).toNat<2 ^ (mag.log2+1)*2 ^ (place-last).toNat:=Nat.mul_lt_mul_of_pos_right h1 (Nat.two_pow_pos _);rw[<- Nat.pow_add]at h2;have h3:2 ^ (mag.log2+1+(place-last).toNat)<=2 ^ 53:=CH (by omega) (by omega);exact AA h2 h3
 ·refine Bb (iD _ _ _) ?_;have hd:(place-last).toNat=0:=by omega
  rw[hd,CT,Nat.shiftLeft_eq,BS];have h1:=U1 mag;have:mag / 2 ^ min (last-place).toNat (mag.log2+2)<2 ^ 53:=by
   rw[CD (Nat.two_pow_pos _),<- Nat.pow_add];exact AA h1 (CH (by omega) (by omega))
  exact this
theorem zD{a e B k:Nat}(h1:a<=e+1022)(h2:k<=2*B):a*B+k<=(e+1024)*B:=by
 have h3:a*B<=(e+1022)*B:=A1 _ h1;have h4:(e+1022)*B+2*B=(e+1024)*B:=by rw[<- Ba]
 omega
theorem SD{mag:Nat}{place:Int}{e:Nat}(h:place+mag.log2<=e):double.nearest false mag place<=(e+1024)*double.binade:=by
 have hl:double.leastPlace = -1074:=by decide
 have hf:double.fractionBits=52:=rfl;have h53:(2:Nat) ^ 53=2*double.binade:=by decide
 unfold Format.nearest Format.word;by_cases h0:mag=0
 ·rw[Ak h0,Aq (by decide)];exact AR _
 rw[Aq h0,Aq (by decide),hl,hf];refine Bb (Nat.min_le_left _ _) ?_;generalize hlast:max (place+(mag.log2:Int)-(52:Nat)) (-1074)=last;have hk:=dR (mag:=mag) (place:=place) (last:=last) (by omega);rw[h53]at hk;generalize double.binade=B at *;exact zD (by omega) hk
theorem ba{w K:Nat}(h:w<=K*double.binade)(hK:1<=K)(hK2:K<=1900):∃ m i,double.read w=.number false m i/\m<2 ^ 53/\i<=(K:Int)-1075:=by
 have hs:double.signWeight=2 ^ 63:=rfl;have hb:double.binade=2 ^ 52:=rfl;have hi:double.infRung=2047*2 ^ 52:=rfl;have hl:double.leastPlace = -1074:=by decide
 rw[hb]at h;have hw:w<2 ^ 63:=by omega
 unfold Format.read;dsimp only;rw[hs,hb,hi,hl,Nat.div_eq_of_lt hw,Nat.mod_eq_of_lt hw,show((0 % 2==1):Bool)=false from rfl];by_cases h1:w<2 ^ 52
 ·rw[Ak h1];exact⟨w,-1074,rfl,by omega,by omega⟩
 ·rw[Aq h1,Ak (by omega)];refine⟨_,_,rfl,?_,?_⟩
  ·have:=Nat.mod_lt w (show 0<2 ^ 52 by decide);omega
  ·have:w / 2 ^ 52<=K:=Nat.div_le_of_le_mul (by omega);omega
theorem Lg(n:Nat):∀(todo root:Nat),Datum.rootFrom n todo root<root+2 ^ todo
 |0,root=>by simp[Datum.rootFrom]
 |todo+1,root=>by
  unfold Datum.rootFrom;have h1:=Lg n todo (root+1 <<< todo);have h2:=Lg n todo root;rw[Nat.shiftLeft_eq,BS]at h1 ⊢;have h3:2 ^ (todo+1)=2 ^ todo+2 ^ todo:=by rw[Nat.pow_succ];omega
  rw[h3];generalize 2 ^ todo=b at *;show Datum.rootFrom n todo (if (root+b)*(root+b)<=n then root+b else root)<root+(b+b)
  by_cases hc:(root+b)*(root+b)<=n
  ·rw[Ak hc];omega
  ·rw[Aq hc];omega
theorem QR{n k:Nat}(h:n<2 ^ (k+1)):n.log2<=k:=by
 by_cases h0:n=0
 ·subst h0;exact AR _
 ·have:=(Nat.log2_lt h0).2 h;omega
theorem np{m:Nat}{i:Int}(hm:m<2 ^ 53)(hi:i<=11):∃ m2 i2,Datum.root 54 (.number false m i)=some (.number false m2 i2)/\(m2=0\/i2+(m2.log2:Int)<=40):=by
 unfold Datum.root;dsimp only;by_cases h0:m=0
 ·rw[Ak h0];exact⟨m,i,rfl,.inl h0⟩
 ·rw[Aq h0,Aq (by decide)];refine⟨_,_,rfl,.inr ?_⟩;have hl:m.log2<=52:=QR hm;generalize hmore:2*54-m.log2+((i-((2*54-m.log2:Nat):Int)) % 2).toNat=more;generalize hN:m <<< more=N;have hNl:N.log2<=m.log2+more:=by
   apply QR
   rw[<- hN,Nat.shiftLeft_eq];have h1:=Nat.mul_lt_mul_of_pos_right (U1 m) (Nat.two_pow_pos more);rw[<- Nat.pow_add]at h1;exact AA h1 (CH (by omega) (by omega))
  have hw:=Lg N (N.log2 / 2+1) 0;rw[AN]at hw;generalize Datum.rootFrom N (N.log2 / 2+1) 0=w at *;have hb:(w*w != N).toNat<=1:=by cases(w*w != N) <;> decide
  generalize (w*w != N).toNat=b at *;have h2:(2*w+b).log2<=N.log2 / 2+1:=by
   apply QR
   rw[show N.log2 / 2+1+1=(N.log2 / 2+1)+1 from rfl,Nat.pow_succ];omega
  omega
theorem dS{m:Nat}{i:Int}(hm:m<2 ^ 53)(hi:i<=0):∃ t:Int,(Datum.number false m i).toInt .zero=some t/\0<=t/\t<2 ^ 53:=by
 have hz:i.toNat=0:=by omega
 refine⟨_,rfl,?_⟩;show 0<=signed false (Toward.zero.cut false (m <<< i.toNat) (-i).toNat) 0/\signed false (Toward.zero.cut false (m <<< i.toNat) (-i).toNat) 0<2 ^ 53
 rw[hz,CT];have:=iE m (-i).toNat;generalize Toward.zero.cut false m (-i).toNat=c at *;unfold signed;rw[Aq (by decide),CT];omega
theorem iF{n:Int}(h1:0<=n)(h2:n<9223372036854775808):∃ r,FloatKind.f64.format.sqrt (FloatKind.f64.nearest n)=some r/\∃ t:Int,(FloatKind.f64.decode r).toInt .zero=some t/\0<=t/\t<2 ^ 53:=by
 have e1:FloatKind.f64.nearest n=double.nearest false n.natAbs 0:=by
  show double.nearest (decide (n<0)) n.natAbs 0=_
  rw[Ai (by omega)]
 have hn:n.natAbs.log2<=62:=QR (by omega);obtain⟨m,i,g1,g2,g3⟩:=ba (SD (mag:=n.natAbs) (place:=0) (e:=62) (by omega)) (by decide) (by decide);obtain⟨m2,i2,g4,g5⟩:=np g2 (show i<=11 by omega);have e2:double.nearest false m2 i2<=(40+1024)*double.binade:=by
  rcases g5 with g5 |g5
  ·subst g5;unfold Format.nearest Format.word;rw[Ak rfl,Aq (by decide)];exact AR _
  ·exact SD g5
 obtain⟨m3,i3,g6,g7,g8⟩:=ba e2 (by decide) (by decide);refine⟨double.nearest false m2 i2,?_,?_⟩
 ·show((double.read (FloatKind.f64.nearest n)).root 54).map double.write=_
  rw[e1,g1,g4];rfl
 ·show ∃ t:Int,(double.read (double.nearest false m2 i2)).toInt .zero=some t/\_
  rw[g6];exact dS g7 (by omega)
noncomputable def zE:C9:=R23.Sa Try.prog
theorem zF:C4 Try.prog zE.env:=iw.Sa
abbrev sqF(n:Int):Nat:=(FloatKind.f64.format.sqrt (FloatKind.f64.nearest n)).getD 0
abbrev xh(n:Int):Option Int:=(FloatKind.f64.decode (sqF n)).toInt .zero
def Ta:S1:=⟨32,[(0,Dm),(3,Dm)],[]⟩
theorem qE1(n s:Int):Dc Try.prog zE 60 65 (Dh Try.f65 4) [0,3] [0,3] (Ta.put ([.i n,.i s],[])).1 (Ta.put ([.i n,.i s],[])).2 =
 bif decide (W (s*s) > n) then some (.normal,Ta.put ([.i n,.i (W (s-1))],[])) else some (.exit 0,Ta.put ([.i n,.i s],[])):=by kernel_rfl
def uP(n s:Int):Prop:=0<=s/\s<=3037000499/\(s=0\/s*s<=n)/\(s=3037000499\/n<(s+1)*(s+1))
theorem pP{a b:Int}(h0:0<=a)(h:a<b):(a+1)*(a+1)<=b*b:=Int.mul_le_mul (by omega) (by omega) (by omega) (by omega)
theorem uP.uniq{n s t:Int}(h:uP n s)(k:uP n t):s=t:=by
 obtain⟨h1,h2,h3,h4⟩:=h;obtain⟨k1,k2,k3,k4⟩:=k;by_cases a:s<t
 ·have:=pP h1 a;omega
 ·by_cases b:t<s
  ·have:=pP k1 b;omega
  ·omega
def iG(n:Int):Nat->Int->Int
 |0,s=>s
 |k+1,s=>iG n k (bif decide (s+2 ^ k<=3037000499)&&decide ((s+2 ^ k)*(s+2 ^ k)<=n) then s+2 ^ k else s)
def U2(n:Int):Int:=iG n 32 0
theorem Zp{n:Int}:∀{k:Nat} {s:Int},0<=s->s<=3037000499->(s=0\/s*s<=n)->(3037000499<s+2 ^ k\/n<(s+2 ^ k)*(s+2 ^ k))->uP n (iG n k s)
 |0,s,h0,h1,h2,h3=>by
  refine⟨h0,h1,h2,?_⟩;rw[Int.pow_zero]at h3;rcases h3 with h3 |h3
  ·left;show s=_;omega
  ·exact .inr h3
 |k+1,s,h0,h1,h2,h3=>by
  have hp:(0:Int)<2 ^ k:=Int.pow_pos (by decide);have he:(2:Int) ^ (k+1)=2 ^ k+2 ^ k:=by rw[Int.pow_succ];omega
  rw[he]at h3;rw[iG];cases hc:decide (s+2 ^ k<=3037000499)&&decide ((s+2 ^ k)*(s+2 ^ k)<=n) with
  |true=>
   simp only[Aa,Ab]at hc;rw[Aj];refine Zp (by omega) hc.1 (.inr hc.2) ?_;rw[Int.add_assoc];exact h3
  |false=>
   rw[Bool.and_eq_false_iff,AS,AS]at hc;rw[Ap];exact Zp h0 h1 h2 (by omega)
theorem SE(n:Int)(_:n<9223372036854775808):uP n (U2 n):=Zp (BK _) (by decide) (.inl rfl) (.inl (by decide))
theorem nq{a b:Int}(h0:0<=a)(h:a<=b):a*a<=b*b:=Int.mul_le_mul h h (by omega) (by omega)
theorem Zq{a:Int}(h0:0<=a)(h:a<=3037000499):W (a*a)=a*a:=by
 have h1:=Int.mul_nonneg h0 h0;have h2:=nq h0 h;exact Dx (by omega) (by omega)
abbrev lh(n s:Int):Int:=bif decide (s*s > n) then U2 n else s
def pT:LS->Bool
 |([.i n,.i s],[])=>decide (1<=n)&&decide (n<9223372036854775808)&&decide (0<=s)&&decide (s<=3037000499)
 |_=>false
noncomputable def fE1:LS->DT (PX×List PV×List Row)
 |([.i n,.i s],[])=>.leaf (.exit 0,Ta.put ([.i n,.i (lh n s)],[]))
 |_=>.no
def mE1:LS->Nat
 |([.i _,.i s],[])=>s.toNat
 |_=>0
theorem sE1:∀ s r,pT s=true->(fE1 s).run=some r->r.1≠.normal/\(Dc Try.prog zE 60 65 (Dh Try.f65 4) [0,3] [0,3] (Ta.put s).1 (Ta.put s).2=some r \/
   ∃ s',Dc Try.prog zE 60 65 (Dh Try.f65 4) [0,3] [0,3] (Ta.put s).1 (Ta.put s).2=some (.normal,Ta.put s')/\pT s'=true/\mE1 s'<mE1 s/\(fE1 s').run=some r):=by
 intro t r hp hr;unfold pT at hp;split at hp
 ·rename_i n s;simp only[Aa,Ab]at hp;obtain⟨⟨⟨h1,h2⟩,h3⟩,h4⟩:=hp;have hr':=(Ah hr).symm;refine⟨by rw[hr'];simp,?_⟩;rw[qE1,Zq h3 h4];by_cases hs:s*s > n
  ·have hs0:s≠0:=fun e=>by rw[e]at hs;omega
   rw[Ac hs,Dx (n:=s-1) (by omega) (by omega)];refine .inr ⟨([.i n,.i (s-1)],[]),rfl,by simp only[pT,Aa,Ab];exact⟨⟨⟨h1,h2⟩,by omega⟩,by omega⟩,by simp only[mE1];omega,?_⟩;rw[hr'];have e1:lh n s=U2 n:=by unfold lh;rw[Ac hs,Aj]
   have e2:lh n (s-1)=U2 n:=by
    unfold lh;by_cases hs2:(s-1)*(s-1) > n
    ·rw[Ac hs2,Aj]
    ·rw[Ai hs2,Ap];exact uP.uniq ⟨by omega,by omega,.inr (by omega),.inr (by rw[show s-1+1=s by omega];exact hs)⟩ (SE n h2)
   simp only[fE1,e1,e2];rfl
  ·rw[Ai hs];refine .inl ?_;rw[hr'];have e1:lh n s=s:=by unfold lh;rw[Ai hs,Ap]
   simp only[e1];rfl
 ·cases hp
noncomputable def zG:C9:=zE.Dr 65 4 [0,3] [] Ta pT fE1
theorem zH:C4 Try.prog zG.env:=
 zF.Dr (n:=60) Try.func65 (show Try.f65.body=some (D3 Try.f65) by kernel_rfl) (show(loops (D3 Try.f65)).filter (fun b=>Ev b==4)=[Dh Try.f65 4] by kernel_rfl) [0,3] [0,3] [] Ta mE1 sE1
theorem qE2'(n s:Int):Dc Try.prog zG 60 65 (Dh Try.f65 6) [0,3] [3] (Ta.put ([.i n,.i s],[])).1 (Ta.put ([.i n,.i s],[])).2 =
 bif decide (s<3037000499) then bif decide (W (W (s+1)*W (s+1))<=n) then some (.normal,Ta.put ([.i n,.i (W (s+1))],[])) else some (.exit 2,tm 32 [(3,iv s)],[]) else some (.exit 2,tm 32 [(3,iv s)],[]):=by kernel_rfl
def pV:LS->Bool
 |([.i n,.i s],[])=>decide (1<=n)&&decide (n<9223372036854775808)&&decide (0<=s)&&decide (s<=3037000499)&&decide (s*s<=n)
 |_=>false
noncomputable def fE2:LS->DT (PX×List PV×List Row)
 |([.i n,.i _],[])=>.leaf (.exit 2,tm 32 [(3,iv (U2 n))],[])
 |_=>.no
def mE2:LS->Nat
 |([.i _,.i s],[])=>(3037000499-s).toNat
 |_=>0
theorem sE2:∀ s r,pV s=true->(fE2 s).run=some r->r.1≠.normal/\(Dc Try.prog zG 60 65 (Dh Try.f65 6) [0,3] [3] (Ta.put s).1 (Ta.put s).2=some r \/
   ∃ s',Dc Try.prog zG 60 65 (Dh Try.f65 6) [0,3] [3] (Ta.put s).1 (Ta.put s).2=some (.normal,Ta.put s')/\pV s'=true/\mE2 s'<mE2 s/\(fE2 s').run=some r):=by
 intro t r hp hr;unfold pV at hp;split at hp
 ·rename_i n s;simp only[Aa,Ab]at hp;obtain⟨⟨⟨⟨h1,h2⟩,h3⟩,h4⟩,h5⟩:=hp;have hr':=(Ah hr).symm;refine⟨by rw[hr'];simp,?_⟩;rw[qE2'];have fin:uP n s->(some (PX.exit 2,tm 32 [(3,iv s)],[]):Option (PX×List PV×List Row))=some r:=fun h=>by rw[hr',h.uniq (SE n h2)]
  by_cases hs:s<3037000499
  ·rw[Ac hs,Dx (n:=s+1) (by omega) (by omega),Zq (a:=s+1) (by omega) (by omega)];by_cases hn:(s+1)*(s+1)<=n
   ·rw[Ac hn];exact .inr ⟨([.i n,.i (s+1)],[]),rfl,by simp only[pV,Aa,Ab];exact⟨⟨⟨⟨h1,h2⟩,by omega⟩,by omega⟩,hn⟩,by simp only[mE2];omega,by rw[hr'];rfl⟩
   ·rw[Ai hn];exact .inl (fin ⟨h3,h4,.inr h5,.inr (by omega)⟩)
  ·rw[Ai hs];exact .inl (fin ⟨h3,h4,.inr h5,.inl (by omega)⟩)
 ·cases hp
noncomputable def R29:C9:=zG.Dr 65 6 [0,3] [] Ta pV fE2
theorem iH:C4 Try.prog R29.env:=
 zH.Dr (n:=60) Try.func65 (show Try.f65.body=some (D3 Try.f65) by kernel_rfl) (show(loops (D3 Try.f65)).filter (fun b=>Ev b==6)=[Dh Try.f65 6] by kernel_rfl) [0,3] [3] [] Ta mE2 sE2
def lj(n:Int):Int:=if 3037000499<(xh n).getD 0 then 3037000499 else (xh n).getD 0
theorem qSq(n:Int):DC Try.prog R29 60 65 [iv n]=bif decide (n<=0) then some (iv 0) else
 bif (FloatKind.f64.format.sqrt (FloatKind.f64.nearest n)).isSome then bif (xh n).isSome&&(decide (IntKind.i64.min<=(xh n).getD 0)&&decide ((xh n).getD 0<=IntKind.i64.max)) then
  bif pT ([.i n,.i (lj n)],[]) then bif pV ([.i n,.i (lh n (lj n))],[]) then some (iv (U2 n)) else none else none else none else none:=by kernel_rfl
theorem nr{n:Int}(h:n<=0):U2 n=0:=by
 have h1:=SE n (by omega);refine h1.uniq ⟨BK _,by decide,.inl rfl,.inr (by omega)⟩
theorem zI(n:Int)(h:n<9223372036854775808):DC Try.prog R29 60 65 [iv n]=some (iv (U2 n)):=by
 rw[qSq];by_cases h0:n<=0
 ·rw[Ac h0,nr h0];rfl
 ·rw[Ai h0];obtain⟨x,h1,t,h2,h3,h4⟩:=iF (n:=n) (by omega) h;have e1:xh n=some t:=by
   show(FloatKind.f64.decode ((FloatKind.f64.format.sqrt (FloatKind.f64.nearest n)).getD 0)).toInt .zero=some t
   rw[h1];exact h2
  have hm:lj n=if 3037000499<t then 3037000499 else t:=by unfold lj;rw[e1];rfl
  have b1:0<=lj n:=by rw[hm];split <;> omega
  have b2:lj n<=3037000499:=by rw[hm];split <;> omega
  rw[h1,e1,show(some x).isSome=true from rfl,show(some t).isSome=true from rfl,Bv,
   Ac (show IntKind.i64.min<=t by show(-9223372036854775808:Int)<=t;omega),Ac (show t<=IntKind.i64.max by show t<=(9223372036854775807:Int);omega)]
  have p1:pT ([.i n,.i (lj n)],[])=true:=by simp only[pT,Aa,Ab];exact⟨⟨⟨by omega,h⟩,b1⟩,b2⟩
  have p2:pV ([.i n,.i (lh n (lj n))],[])=true:=by
   simp only[pV,Aa,Ab];unfold lh;by_cases hs:lj n*lj n > n
   ·rw[Ac hs,Aj];obtain⟨g1,g2,g3,g4⟩:=SE n h;refine⟨⟨⟨⟨by omega,h⟩,g1⟩,g2⟩,?_⟩;rcases g3 with g3 |g3
    ·rw[g3];omega
    ·exact g3
   ·rw[Ai hs,Ap];exact⟨⟨⟨⟨by omega,h⟩,b1⟩,b2⟩,by omega⟩
  rw[p1,p2];rfl
def cSq:List PV->Option (DT PV)
 | [.val (.int .i64 n)]=>some (.br (decide (n<9223372036854775808)) (.leaf (iv (U2 n))) .no)
 |_=>none
theorem eSq:Hx.Df Try.prog 65:=(Cz iH (n:=60) (zI 0 (by decide))).1
theorem oSq(args:List PV)(d:DT PV)(r:PV)(h:cSq args=some d)(hr:d.run=some r):Ds Try.prog 65 args r:=by
 unfold cSq at h;split at h
 ·rename_i n;cases h;obtain⟨h1,rfl⟩:=DO hr;exact(Cz iH (n:=60) (zI n (AO h1))).2
 ·cases h
noncomputable def xi:C9:=R29.DH 65 cSq
theorem pW:C4 Try.prog xi.env:=iH.DH eSq oSq
def bg:S1:=⟨25,[(0,Dm),(3,Dm),(4,Dm)],[]⟩
abbrev xj(o b:Int):Int:=W (o+W (1*2 ^ min b.toNat IntKind.i64.bits))
theorem qB(n o b:Int):Dc Try.prog xi 60 66 (Dh Try.f66 3) [0,3,4] [3] (bg.put ([.i n,.i o,.i b],[])).1 (bg.put ([.i n,.i o,.i b],[])).2 =
 bif decide (b ≥ 0) then bif !decide (b<0) then bif decide (xj o b<=3037000499) then bif decide (W (xj o b*xj o b)<=n) then some (.normal,bg.put ([.i n,.i (xj o b),.i (W (b-1))],[]))
  else some (.normal,bg.put ([.i n,.i o,.i (W (b-1))],[])) else some (.normal,bg.put ([.i n,.i o,.i (W (b-1))],[])) else none else some (.exit 0,tm 25 [(3,iv o)],[]):=by kernel_rfl
def pB:LS->Bool
 |([.i _,.i o,.i b],[])=>decide (-1<=b)&&decide (b<=31)&&decide (0<=o)&&decide (o<=3037000499)
 |_=>false
noncomputable def fB:LS->DT (PX×List PV×List Row)
 |([.i n,.i o,.i b],[])=>.leaf (.exit 0,tm 25 [(3,iv (iG n (b+1).toNat o))],[])
 |_=>.no
def mB:LS->Nat
 |([.i _,.i _,.i b],[])=>(b+1).toNat
 |_=>0
theorem Xn{b:Int}(h0:0<=b)(h:b<=31):(0:Int)<2 ^ b.toNat/\(2:Int) ^ b.toNat<=2147483648:=by
 refine⟨Int.pow_pos (by decide),?_⟩;have:(2:Nat) ^ b.toNat<=2 ^ 31:=CH (by decide) (by omega);have h2:((2 ^ b.toNat:Nat):Int)=(2:Int) ^ b.toNat:=by rw[Int.natCast_pow];rfl
 omega
theorem uQ{o b:Int}(h0:0<=b)(h:b<=31)(h1:0<=o)(h2:o<=3037000499):xj o b=o+2 ^ b.toNat:=by
 obtain⟨p1,p2⟩:=Xn h0 h;unfold xj;rw[show min b.toNat IntKind.i64.bits=b.toNat by show min b.toNat 64=_;omega,Int.one_mul,Dx (n:=2 ^ b.toNat) (by omega) (by omega),Dx (by omega) (by omega)]
theorem sB:∀ s r,pB s=true->(fB s).run=some r->r.1≠.normal/\(Dc Try.prog xi 60 66 (Dh Try.f66 3) [0,3,4] [3] (bg.put s).1 (bg.put s).2=some r \/
   ∃ s',Dc Try.prog xi 60 66 (Dh Try.f66 3) [0,3,4] [3] (bg.put s).1 (bg.put s).2=some (.normal,bg.put s')/\pB s'=true/\mB s'<mB s/\(fB s').run=some r):=by
 intro t r hp hr;unfold pB at hp;split at hp
 ·rename_i n o b;simp only[Aa,Ab]at hp;obtain⟨⟨⟨h1,h2⟩,h3⟩,h4⟩:=hp;have hr':=(Ah hr).symm;refine⟨by rw[hr'];simp,?_⟩;rw[qB];by_cases hb:b ≥ 0
  ·rw[Ac hb,Ai (show ¬b<0 by omega),uQ hb h2 h3 h4,Dx (n:=b-1) (by omega) (by omega)];obtain⟨p1,p2⟩:=Xn hb h2;have hk:(b+1).toNat=b.toNat+1:=by omega
   have hk2:(b-1+1).toNat=b.toNat:=by omega
   have go:∀ o':Int,0<=o'->o'<=3037000499->iG n b.toNat o'=iG n (b.toNat+1) o->∃ s',(some (PX.normal,bg.put ([.i n,.i o',.i (b-1)],[])):Option (PX×List PV×List Row))=some (.normal,bg.put s')/\pB s'=true/\mB s'<mB ([.i n,.i o,.i b],[])/\(fB s').run=some r:=fun o' g1 g2 g3=>
    ⟨([.i n,.i o',.i (b-1)],[]),rfl,by simp only[pB,Aa,Ab];exact⟨⟨⟨by omega,by omega⟩,g1⟩,g2⟩,by simp only[mB];omega,by rw[hr'];simp only[fB,hk,hk2,g3];rfl⟩
   refine .inr ?_;simp only[Aj,BT];by_cases c1:o+2 ^ b.toNat<=3037000499
   ·rw[Ac c1,Aj,Zq (a:=o+2 ^ b.toNat) (by omega) c1];by_cases c2:(o+2 ^ b.toNat)*(o+2 ^ b.toNat)<=n
    ·rw[Ac c2,Aj];exact go _ (by omega) c1 (by rw[iG,Ac c1,Ac c2];rfl)
    ·rw[Ai c2,Ap];exact go _ h3 h4 (by rw[iG,Ac c1,Ai c2];rfl)
   ·rw[Ai c1,Ap];exact go _ h3 h4 (by rw[iG,Ai c1,Cf,Ap])
  ·rw[Ai hb];have:(b+1).toNat=0:=by omega
   exact .inl (by rw[hr',this];rfl)
 ·cases hp
noncomputable def R31:C9:=xi.Dr 66 3 [0,3,4] [] bg pB fB
theorem zJ:C4 Try.prog R31.env:=
 pW.Dr (n:=60) Try.func66 (show Try.f66.body=some (D3 Try.f66) by kernel_rfl) (show(loops (D3 Try.f66)).filter (fun b=>Ev b==3)=[Dh Try.f66 3] by kernel_rfl) [0,3,4] [3] [] bg mB sB
theorem afD(n:Int):DC Try.prog R31 60 66 [iv n]=bif pB ([.i n,.i 0,.i 31],[]) then some (iv (iG n (31+1:Int).toNat 0)) else none:=by kernel_rfl
def uR:List PV->Option PV
 | [.val (.int .i64 n)]=>some (iv (U2 n))
 |_=>none
theorem afF(args:List PV)(r:PV)(h:uR args=some r):Hx.Df Try.prog 66/\Ds Try.prog 66 args r:=by
 unfold uR at h;split at h
 ·rename_i n;cases h;exact Cz zJ (n:=60) ((afD n).trans rfl)
 ·cases h
end Go.Hr
namespace Go.Hr
open Go.Hx Go.Hg Go.Hn Go.Proofs
noncomputable def zK:C9:=(xi.Gf 64).gD 35 2 [2,7]
theorem zL:C4 Try.prog zK.env:=(pW.Gf 64).gD 35 2 [2,7]
noncomputable def ns(st:Z6):Row:=aeZ 35 Try.f35 2 (tm 22 [(2,.ptr 0 1 0 0),(7,.fn (.func 83) [] [.ptr 1 1 0 0])]) st
def eK:S1:=⟨25,[(0,.Ig 2),(1,.ptr 1 1 0 0),(3,Dm)],[.one 3 1 Dm,.one 47 1 (.Db 28),.raw]⟩
abbrev lT(i n:Int)(f:Bool)(es:List PV)(r:Row):LS:=([.i i],[.i n,.l f es,.r r])
def eM:S1:=⟨30,[(0,.Db 28),(3,Dm),(4,Dm)],[]⟩
abbrev lU(f:Bool)(es:List PV)(n i:Int):LS:=([.l f es,.i n,.i i],[])
abbrev pX8(es:List PV)(i:Int):Int:=ptX es i.toNat
abbrev pY8(es:List PV)(i:Int):Int:=ptY es i.toNat
def nt(es:List PV)(i j:Int):Int:=W (W (W (pX8 es j-pX8 es i)*W (pX8 es j-pX8 es i))+W (W (pY8 es j-pY8 es i)*W (pY8 es j-pY8 es i)))
abbrev F7(es:List PV)(i:Int):Bool:=decide (0<=i)&&decide (i<(es.length:Int))
theorem qT(i n:Int)(f:Bool)(es:List PV):Dc Try.prog zK 60 83 (Dh Try.f83 1) [0,1,3] [] (eK.put (lT i n f es (ns .ready))).1 (eK.put (lT i n f es (ns .ready))).2 =
 bif decide (W (i+1)<(es.length:Int)) then bif F7 es i then bif F7 es (W (i+1)) then bif decide (nt es i (W (i+1))<9223372036854775808) then
  some (.normal,eK.put (lT (W (i+1)) (W (n+U2 (nt es i (W (i+1))))) f es (ns .ready))) else none else none else none else some (.exit 0,tm 25 [],(eK.put (lT 0 n f es (ns .ready))).2):=by kernel_rfl
def LX(es:List PV)(i:Int):Nat->Int
 |0=>0
 |m+1=>U2 (nt es i (i+1))+LX es (i+1) m
abbrev F8(es:List PV)(i:Int):Nat:=((es.length:Int)-1-i).toNat
def Du(es:List PV):Int:=LX es 0 (F8 es 0)
theorem QS(es:List PV)(i j:Int):nt es i j<9223372036854775808:=(mf _).2
theorem U3(n:Int)(h:n<9223372036854775808):0<=U2 n/\U2 n<=3037000499:=let h:=SE n h; ⟨h.1,h.2.1⟩
theorem SF(es:List PV):∀(m:Nat) (i:Int),0<=LX es i m/\LX es i m<=3037000499*m
 |0,_=>⟨BK _,BK _⟩
 |m+1,i=>by
  have h1:=SF es m (i+1);have h2:=U3 _ (QS es i (i+1));rw[LX];omega
theorem SG{es:List PV}{i:Int}(h:i+1<(es.length:Int)):F8 es i=F8 es (i+1)+1:=by unfold F8;omega
def pTq:LS->Bool
 |([.i i],[.i n,.l _ es,.r _])=>decide (0<=i)&&decide (es.length<=100000)&&decide (0<=n)&&decide (n<=3037000499*i)&&decide (i<=100000)
 |_=>false
noncomputable def pZ:LS->Bool
 |([.i i],[.i n,.l f es,.r r])=>pTq ([.i i],[.i n,.l f es,.r r])&&same r (ns .ready)
 |_=>false
noncomputable def fT:LS->DT (PX×List PV×List Row)
 |([.i i],[.i n,.l f es,.r _])=>.leaf (.exit 0,tm 25 [],(eK.put (lT 0 (n+LX es i (F8 es i)) f es (ns .ready))).2)
 |_=>.no
def mT:LS->Nat
 |([.i i],[.i _,.l _ es,.r _])=>((es.length:Int)-i).toNat
 |_=>0
theorem sT:∀ s r,pZ s=true->(fT s).run=some r->r.1≠.normal/\(Dc Try.prog zK 60 83 (Dh Try.f83 1) [0,1,3] [] (eK.put s).1 (eK.put s).2=some r \/
   ∃ s',Dc Try.prog zK 60 83 (Dh Try.f83 1) [0,1,3] [] (eK.put s).1 (eK.put s).2=some (.normal,eK.put s')/\pZ s'=true/\mT s'<mT s/\(fT s').run=some r):=by
 intro t r hp hr;unfold pZ at hp;split at hp
 ·rename_i i n f es rr;simp only[pTq,Aa,Ab,Sb]at hp;obtain⟨⟨⟨⟨⟨h1,h2⟩,h3⟩,h4⟩,h5⟩,rfl⟩:=hp;have hr':=(Ah hr).symm;refine⟨by rw[hr'];simp,?_⟩;rw[qT,Dx (n:=i+1) (by omega) (by omega)];by_cases hi:i+1<(es.length:Int)
  ·have hq:=U3 _ (QS es i (i+1));rw[Ac hi,show F7 es i=true by simp;omega,show F7 es (i+1)=true by simp;omega,Ac (QS es i (i+1)),Dx (n:=n+U2 (nt es i (i+1))) (by omega) (by omega)];refine .inr ⟨lT (i+1) (n+U2 (nt es i (i+1))) f es (ns .ready),rfl,by simp only[pZ,pTq,Aa,Ab,Sb];exact⟨⟨⟨⟨⟨by omega,h2⟩,by omega⟩,by omega⟩,by omega⟩,trivial⟩,by simp only[mT];omega,?_⟩;rw[hr',SG hi,LX];simp only[fT,Int.add_assoc];rfl
  ·have:F8 es i=0:=by unfold F8;omega
   rw[Ai hi,hr',this,LX,Int.add_zero];exact .inl rfl
 ·cases hp
noncomputable def xk:C9:=zK.Dr 83 1 [0,1,3] [] eK pZ fT
theorem Xo:C4 Try.prog xk.env:=
 zL.Dr (n:=60) Try.func83 (show Try.f83.body=some (D3 Try.f83) by kernel_rfl) (show(loops (D3 Try.f83)).filter (fun b=>Ev b==1)=[Dh Try.f83 1] by kernel_rfl) [0,1,3] [] [] eK mT sT
noncomputable def iI:C9:=xk.EM 66 uR
theorem uS:C4 Try.prog iI.env:=Xo.EM afF
theorem qU(f:Bool)(es:List PV)(n i:Int):Dc Try.prog iI 60 36 (Dh Try.f36 3) [0,3,4] [3] (eM.put (lU f es n i)).1 (eM.put (lU f es n i)).2 =
 bif decide (W (i+1)<(es.length:Int)) then bif F7 es (W (i+1)) then bif F7 es i then
  some (.normal,eM.put (lU f es (W (n+U2 (nt es i (W (i+1))))) (W (i+1)))) else none else none else some (.exit 0,tm 30 [(3,iv n)],[]):=by kernel_rfl
def pU:LS->Bool
 |([.l _ es,.i n,.i i],[])=>decide (0<=i)&&decide (es.length<=100000)&&decide (0<=n)&&decide (n<=3037000499*i)&&decide (i<=100000)
 |_=>false
noncomputable def fU:LS->DT (PX×List PV×List Row)
 |([.l _ es,.i n,.i i],[])=>.leaf (.exit 0,tm 30 [(3,iv (n+LX es i (F8 es i)))],[])
 |_=>.no
def mU:LS->Nat
 |([.l _ es,.i _,.i i],[])=>((es.length:Int)-i).toNat
 |_=>0
theorem sU:∀ s r,pU s=true->(fU s).run=some r->r.1≠.normal/\(Dc Try.prog iI 60 36 (Dh Try.f36 3) [0,3,4] [3] (eM.put s).1 (eM.put s).2=some r \/
   ∃ s',Dc Try.prog iI 60 36 (Dh Try.f36 3) [0,3,4] [3] (eM.put s).1 (eM.put s).2=some (.normal,eM.put s')/\pU s'=true/\mU s'<mU s/\(fU s').run=some r):=by
 intro t r hp hr;unfold pU at hp;split at hp
 ·rename_i f es n i;simp only[Aa,Ab]at hp;obtain⟨⟨⟨⟨h1,h2⟩,h3⟩,h4⟩,h5⟩:=hp;have hr':=(Ah hr).symm;refine⟨by rw[hr'];simp,?_⟩;rw[show eM.put ([.l f es,.i n,.i i],[])=eM.put (lU f es n i) from rfl,qU,Dx (n:=i+1) (by omega) (by omega)];by_cases hi:i+1<(es.length:Int)
  ·have hq:=U3 _ (QS es i (i+1));rw[Ac hi,show F7 es i=true by simp;omega,show F7 es (i+1)=true by simp;omega,Dx (n:=n+U2 (nt es i (i+1))) (by omega) (by omega)];refine .inr ⟨lU f es (n+U2 (nt es i (i+1))) (i+1),rfl,by simp only[pU,Aa,Ab];exact⟨⟨⟨⟨by omega,h2⟩,by omega⟩,by omega⟩,by omega⟩,by simp only[mU];omega,?_⟩;rw[hr',SG hi,LX];simp only[fU,Int.add_assoc];rfl
  ·have:F8 es i=0:=by unfold F8;omega
   rw[Ai hi,hr',this,LX,Int.add_zero];exact .inl rfl
 ·cases hp

noncomputable def R35:C9:=iI.Dr 36 3 [0,3,4] [] eM pU fU
theorem iJ:C4 Try.prog R35.env:=
 uS.Dr (n:=60) Try.func36 (show Try.f36.body=some (D3 Try.f36) by kernel_rfl) (show(loops (D3 Try.f36)).filter (fun b=>Ev b==3)=[Dh Try.f36 3] by kernel_rfl) [0,3,4] [3] [] eM mU sU
theorem afG(f:Bool)(es:List PV):DC Try.prog xk 60 35 [.Db f 28 es]=bif pZ (lT 0 0 f es (ns .ready)) then some (iv (0+LX es 0 (F8 es 0))) else none:=by kernel_rfl
theorem zM(f:Bool)(es:List PV):DC Try.prog R35 60 36 [.Db f 28 es]=bif pU (lU f es 0 0) then some (iv (0+LX es 0 (F8 es 0))) else none:=by kernel_rfl
def dT:List PV->Option (DT PV)
 | [.Db _ 28 es]=>some (.br (decide (es.length<=100000)) (.leaf (iv (Du es))) .no)
 | [.val (.slice none 0 0)]=>some (.leaf (iv 0))
 |_=>none
theorem zN(f:Bool)(es:List PV)(h:es.length<=100000):DC Try.prog xk 60 35 [.Db f 28 es]=some (iv (Du es)):=by
 rw[afG,show pZ (lT 0 0 f es (ns .ready))=true by simp only[pZ,pTq,Aa,Ab,Sb];exact⟨⟨⟨⟨⟨by omega,h⟩,by omega⟩,by omega⟩,by omega⟩,trivial⟩,Int.zero_add];rfl
theorem uT(f:Bool)(es:List PV)(h:es.length<=100000):DC Try.prog R35 60 36 [.Db f 28 es]=some (iv (Du es)):=by
 rw[zM,show pU (lU f es 0 0)=true by simp only[pU,Aa,Ab];exact⟨⟨⟨⟨by omega,h⟩,by omega⟩,by omega⟩,by omega⟩,Int.zero_add];rfl
theorem p9:DC Try.prog xk 60 35 [.val (.slice none 0 0)]=some (iv 0):=by kernel_rfl
theorem iK:DC Try.prog R35 60 36 [.val (.slice none 0 0)]=some (iv 0):=by kernel_rfl
theorem afH:Hx.Df Try.prog 35:=(Cz Xo (n:=60) p9).1
theorem afI(args:List PV)(d:DT PV)(r:PV)(h:dT args=some d)(hr:d.run=some r):Ds Try.prog 35 args r:=by
 unfold dT at h;split at h
 ·rename_i f es;cases h;obtain⟨h1,rfl⟩:=DO hr;exact(Cz Xo (n:=60) (zN f es (AO h1))).2
 ·cases h;cases hr;exact(Cz Xo (n:=60) p9).2
 ·cases h
theorem zO:Hx.Df Try.prog 36:=(Cz iJ (n:=60) iK).1
theorem zP(args:List PV)(d:DT PV)(r:PV)(h:dT args=some d)(hr:d.run=some r):Ds Try.prog 36 args r:=by
 unfold dT at h;split at h
 ·rename_i f es;cases h;obtain⟨h1,rfl⟩:=DO hr;exact(Cz iJ (n:=60) (uT f es (AO h1))).2
 ·cases h;cases hr;exact(Cz iJ (n:=60) iK).2
 ·cases h
noncomputable def zQ:C9:=xk.DH 35 dT
theorem zR:C4 Try.prog zQ.env:=Xo.DH afH afI
end Go.Hr
namespace Go.Hr
abbrev Ky:=Int×List Int
def EA:List Int->List Int->Int
 | [],[]=>0
 | [],_::_=>-1
 |_::_,[]=>1
 |a::l,b::m=>if a<b then -1 else if b<a then 1 else EA l m
def T5(a b:Ky):Prop:=a.1<b.1\/a.1=b.1/\(a.2.length<b.2.length\/a.2.length=b.2.length/\EA a.2 b.2<0)
instance (a b:Ky):Decidable (T5 a b):=inferInstanceAs (Decidable (_\/_))
theorem T6:∀ l:List Int,EA l l=0
 | []=>rfl
 |a::l=>by rw[EA,Aq (by omega),Aq (by omega),T6]
theorem T7:∀{l m:List Int},EA l m=0->l=m
 | [],[],_=>rfl
 | [],_::_,h=>by simp[EA]at h
 |_::_,[],h=>by simp[EA]at h
 |a::l,b::m,h=>by
  rw[EA]at h;split at h
  ·cases h
  ·split at h
   ·cases h
   ·rw[T7 h,show a=b by omega]
theorem Jr:∀(l m:List Int),(EA l m<0 ↔ 0<EA m l)
 | [],[]=>by simp[EA]
 | [],_::_=>by simp[EA]
 |_::_,[]=>by simp[EA]
 |a::l,b::m=>by
  rw[EA,EA];by_cases h1:a<b
  ·rw[Ak h1,Aq (by omega),Ak h1];decide
  ·rw[Aq h1];by_cases h2:b<a
   ·rw[Ak h2,Ak h2];decide
   ·rw[Aq h2,Aq h2,Aq h1];exact Jr l m
theorem Mt:∀{l m n:List Int},EA l m<=0->EA m n<=0->EA l n<=0
 | [],_,[],_,_=>by simp[EA]
 | [],_,_::_,_,_=>by simp[EA]
 |_::_,[],_,h,_=>by simp[EA]at h
 |_::_,_::_,[],_,h=>by simp[EA]at h
 |a::l,b::m,c::n,h,k=>by
  rw[EA]at h k ⊢;by_cases h1:a<b
  ·by_cases k1:b<c
   ·rw[Ak (by omega)];decide
   ·rw[Aq k1]at k;by_cases k2:c<b
    ·rw[Ak k2]at k;exact absurd k (by decide)
    ·rw[Ak (by omega)];decide
  ·rw[Aq h1]at h;by_cases h2:b<a
   ·rw[Ak h2]at h;exact absurd h (by decide)
   ·rw[Aq h2]at h;by_cases k1:b<c
    ·rw[Ak (by omega)];decide
    ·rw[Aq k1]at k;by_cases k2:c<b
     ·rw[Ak k2]at k;exact absurd k (by decide)
     ·rw[Aq k2]at k;rw[Aq (by omega),Aq (by omega)];exact Mt h k
theorem T8:∀{l m:List Int} (x:Int),l.length=m.length->EA (l++[x]) (m++[x])=EA l m
 | [],[],x,_=>by simp[EA]
 | [],_::_,_,h=>by simp at h
 |_::_,[],_,h=>by simp at h
 |a::l,b::m,x,h=>by
  rw[List.cons_append,List.cons_append,EA,EA,T8 x (by simpa using h)]
theorem nu{a:Ky}:¬T5 a a:=by
 unfold T5;rw[T6];omega
theorem nv{a b:Ky}(h1:¬T5 a b)(h2:¬T5 b a):a=b:=by
 unfold T5 at h1 h2;obtain⟨a1,a2⟩:=a;obtain⟨b1,b2⟩:=b;simp only at h1 h2;have e1:a1=b1:=by omega
 have e2:a2.length=b2.length:=by omega
 have h3:¬EA a2 b2<0:=by omega
 have h4:¬EA b2 a2<0:=by omega
 rw[Jr]at h4;rw[e1,T7 (l:=a2) (m:=b2) (by omega)]
abbrev PH(a b:Ky):Prop:=¬T5 b a
theorem U4{a b:Ky}:PH a b ↔ a.1<b.1\/a.1=b.1/\(a.2.length<b.2.length\/a.2.length=b.2.length/\EA a.2 b.2<=0):=by
 unfold PH T5;have:=Jr b.2 a.2;have:=Jr a.2 b.2;omega
theorem IE{a:Ky}:PH a a:=nu
theorem Fe{a b c:Ky}(h:PH a b)(k:PH b c):PH a c:=by
 rw[U4] at *;rcases h with h |⟨h1,h |⟨h2,h3⟩⟩
 ·omega
 ·omega
 ·rcases k with k |⟨k1,k |⟨k2,k3⟩⟩
  ·omega
  ·omega
  ·exact .inr ⟨by omega,.inr ⟨by omega,Mt h3 k3⟩⟩
theorem SI{a b:Ky}(h:PH a b)(k:PH b a):a=b:=nv k h
theorem iL{a b:Ky}(h:T5 a b):PH a b:=fun k=>by
 unfold T5 at h k;have:=Jr b.2 a.2;omega
abbrev Js(a:Ky)(id w:Int):Ky:=(a.1+w,a.2++[id])
theorem LG{a b:Ky}{id w:Int}(h:PH a b):PH (Js a id w) (Js b id w):=by
 rw[U4] at *;simp only[Ar,As,AC];rcases h with h |⟨h1,h |⟨h2,h3⟩⟩
 ·omega
 ·omega
 ·rw[T8 id h2];omega
theorem nw{a:Ky}{id w:Int}(hw:0<=w):PH a (Js a id w):=by
 rw[U4];simp only[Ar,As,AC];omega
abbrev Eg:=T3×T3×Int×Int
inductive Lh(G:List Eg)(s:T3):T3->Ky->Prop
 |nil:Lh G s s (0,[])
 |step {t u:T3} {id w:Int} {k:Ky} (h:Lh G s t k) (he:(t,u,id,w)∈G):Lh G s u (Js k id w)
abbrev NonNeg(G:List Eg):Prop:=∀ e∈G,0<=e.2.2.2
theorem Lh.cost{G:List Eg}{s t:T3}{k:Ky}(hG:NonNeg G)(h:Lh G s t k):0<=k.1:=by
 induction h with
 |nil=>exact BK _
 |step h he ih=>have:=hG _ he;simp only at this ⊢;omega
def Kq(G:List Eg)(s t:T3)(k:Ky):Prop:=Lh G s t k/\∀ k',Lh G s t k'->PH k k'
theorem Kq.uniq{G:List Eg}{s t:T3}{k k':Ky}(h:Kq G s t k)(h':Kq G s t k'):k=k':=SI (h.2 _ h'.1) (h'.2 _ h.1)
structure bj(G:List Eg)(s:T3)(D N:List (T3×Ky)):Prop where
 wN:∀ x∈N,Lh G s x.1 x.2
 wD:∀ x∈D,Kq G s x.1 x.2
 xl:∀ x∈D,∀ u id w,(x.1,u,id,w)∈G->u∈D.map (·.1)\/(u,Js x.2 id w)∈N
 from_:s∈D.map (·.1)\/(s,(0,[]))∈N
 nd:(D.map (·.1)).Nodup
theorem bj.some{G:List Eg}{s u:T3}{D N:List (T3×Ky)}{k:Ky}(hG:NonNeg G)(h:bj G s D N)(hw:Lh G s u k):u∈D.map (·.1)\/∃ n∈N,PH n.2 k:=by
 induction hw with
 |nil=>exact h.from_.imp_right fun h=>⟨_,h,IE⟩
 | @step t u id w k hw he ih=>
  rcases ih with ih |⟨n,hn,ih⟩
  ·obtain⟨x,hx,rfl⟩:=AY.1 ih;rcases h.xl x hx u id w he with h1 |h1
   ·exact .inl h1
   ·exact .inr ⟨_,h1,LG ((h.wD x hx).2 _ hw)⟩
  ·exact .inr ⟨n,hn,Fe ih (nw (hG _ he))⟩
def HL(G:List Eg)(D:List (T3×Ky))(r:T3×Ky):List (T3×Ky):=
 G.filterMap fun e=>if e.1=r.1/\e.2.1∉D.map (·.1) then some (e.2.1,Js r.2 e.2.2.1 e.2.2.2) else none
theorem bj.init{G:List Eg}{s:T3}:bj G s [] [(s,(0,[]))] where
 wN x hx:=by rw[AI.1 hx];exact .nil
 wD x hx:=by cases hx
 xl x hx:=by cases hx
 from_:=.inr (AI.2 rfl)
 nd:=.nil
theorem bj.known{G:List Eg}{s:T3}{D N:List (T3×Ky)}(h:bj G s D N){r:T3}(hr:r∈D.map (·.1)):bj G s D (N.filter fun x=>!decide (x.1=r)) where
 wN x hx:=h.wN x (Bj.1 hx).1
 wD:=h.wD
 xl x hx u id w he:=(h.xl x hx u id w he).elim .inl fun hn=>by
  by_cases hu:u=r
  ·exact .inl (hu▸hr)
  ·exact .inr (Bj.2 ⟨hn,by simpa using hu⟩)
 from_:=h.from_.elim .inl fun hn=>by
  by_cases hu:s=r
  ·exact .inl (hu▸hr)
  ·exact .inr (Bj.2 ⟨hn,by simpa using hu⟩)
 nd:=h.nd
theorem bj.take{G:List Eg}{s:T3}{D N:List (T3×Ky)}(hG:NonNeg G)(h:bj G s D N){r:T3×Ky}(hr:r∈N)(hl:∀ x∈N,PH r.2 x.2)(hn:r.1∉D.map (·.1)):
  bj G s (D++[r]) ((N.filter fun x=>!decide (x.1=r.1))++HL G (D++[r]) r) where
 wN x hx:=by
  rcases A5.1 hx with hx |hx
  ·exact h.wN x (Bj.1 hx).1
  ·obtain⟨e,he,hx⟩:=B8.1 hx;split at hx
   ·rename_i hc;cases hx;have:=(h.wN r hr);rw[<- hc.1]at this;exact .step this he
   ·cases hx
 wD x hx:=by
  rcases A5.1 hx with hx |hx
  ·exact h.wD x hx
  ·rw[AI.1 hx];refine⟨h.wN r hr,fun k' hk=>?_⟩;rcases h.some hG hk with h1 |⟨n,h1,h2⟩
   ·exact absurd h1 hn
   ·exact Fe (hl n h1) h2
 xl x hx u id w he:=by
  have key:u∈D.map (·.1)\/(u,Js x.2 id w)∈N\/x=r:=by
   rcases A5.1 hx with hx |hx
   ·exact(h.xl x hx u id w he).elim .inl fun h=>.inr (.inl h)
   ·exact .inr (.inr (AI.1 hx))
  rcases key with h1 |h1 |h1
  ·exact .inl (by rw[Bx];exact BU _ h1)
  ·by_cases hu:u=r.1
   ·exact .inl (by rw[Bx,hu];exact List.mem_append_right _ (AI.2 rfl))
   ·exact .inr (BU _ (Bj.2 ⟨h1,by simpa using hu⟩))
  ·subst h1;by_cases hu:u∈(D++[x]).map (·.1)
   ·exact .inl hu
   ·exact .inr (List.mem_append_right _ (B8.2 ⟨_,he,by rw[Ak ⟨rfl,hu⟩]⟩))
 from_:=by
  rcases h.from_ with h1 |h1
  ·exact .inl (by rw[Bx];exact BU _ h1)
  ·by_cases hu:s=r.1
   ·exact .inl (by rw[Bx,hu];exact List.mem_append_right _ (AI.2 rfl))
   ·exact .inr (BU _ (Bj.2 ⟨h1,by simpa using hu⟩))
 nd:=by
  rw[Bx,CZ];exact⟨h.nd,by simp,fun a ha b hb=>by rw[AW,Bq,AI]at hb;subst hb;exact fun e=>hn (e▸ha)⟩
theorem bj.done{G:List Eg}{s u:T3}{D:List (T3×Ky)}{k:Ky}(hG:NonNeg G)(h:bj G s D [])(hw:Lh G s u k):u∈D.map (·.1):=
 (h.some hG hw).elim id fun⟨_,hn,_⟩=>by cases hn
abbrev OF:=T3->Option Ky
noncomputable def GL(G:List Eg)(s:T3):OF:=fun v=>@dite _ (∃ k,Kq G s v k) (Classical.propDecidable _) (fun h=>some h.choose) (fun _=>none)
theorem EO{G:List Eg}{s v:T3}{k:Ky}:GL G s v=some k ↔ Kq G s v k:=by
 unfold GL;split
 ·rename_i h;constructor
  ·intro e;cases e;exact h.choose_spec
  ·intro e;rw[h.choose_spec.uniq e]
 ·rename_i h;exact⟨fun e=>(nomatch e),fun e=>absurd ⟨_,e⟩ h⟩
def zS(k:Ky):Option Ky->Bool
 |none=>true
 |some k'=>decide (T5 k k')
def imp(f:OF)(e:Eg):Bool:=
 match f e.1 with
 |none=>false
 |some k=>zS (Js k e.2.2.1 e.2.2.2) (f e.2.1)
def Oi(f:OF)(e:Eg):OF:=fun v=>bif decide (v=e.2.1)&&imp f e then (f e.1).map fun k=>Js k e.2.2.1 e.2.2.2 else f v
def HY(G:List Eg)(f:OF):OF:=G.foldl Oi f
def again:List Eg->OF->Bool
 | [],_=>false
 |e::G,f=>imp f e||again G (Oi f e)
def ny(f g:OF):Prop:=∀ v k,g v=some k->∃ k',f v=some k'/\PH k' k
theorem ny.refl{f:OF}:ny f f:=fun _ k h=>⟨k,h,IE⟩
theorem ny.trans{f g h:OF}(a:ny f g)(b:ny g h):ny f h:=fun v k hk=>by
 obtain⟨k1,h1,h2⟩:=b v k hk;obtain⟨k2,h3,h4⟩:=a v k1 h1;exact⟨k2,h3,Fe h4 h2⟩
theorem LH{f:OF}{e:Eg}(h:imp f e=true):∃ k,f e.1=some k/\Oi f e e.2.1=some (Js k e.2.2.1 e.2.2.2)/\zS (Js k e.2.2.1 e.2.2.2) (f e.2.1)=true:=by
 unfold imp at h;split at h
 ·cases h
 ·rename_i k hk;refine⟨k,hk,?_,h⟩;unfold Oi imp;rw[hk];simp only[h,CV,A_,Aj,AE]
theorem J6{f:OF}{e:Eg}(h:imp f e=false):Oi f e=f:=by
 funext v;unfold Oi;rw[h,BG,Ap]
theorem SJ{f:OF}{e:Eg}{v:T3}(h:v≠e.2.1):Oi f e v=f v:=by
 unfold Oi;rw[Ai h,Cf,Ap]
theorem iM{f:OF}{e:Eg}:ny (Oi f e) f:=by
 cases h:imp f e with
 |false=>rw[J6 h];exact .refl
 |true=>
  intro v k hk;obtain⟨k1,h1,h2,h3⟩:=LH h;by_cases hv:v=e.2.1
  ·subst hv;rw[hk]at h3;exact⟨_,h2,iL (AO h3)⟩
  ·exact⟨k,by rw[SJ hv,hk],IE⟩
theorem Xp{f:OF}{e:Eg}{k:Ky}(hk:f e.1=some k):∃ k',Oi f e e.2.1=some k'/\PH k' (Js k e.2.2.1 e.2.2.2):=by
 cases h:imp f e with
 |true=>
  obtain⟨k1,h1,h2,h3⟩:=LH h;rw[hk]at h1;cases h1;exact⟨_,h2,IE⟩
 |false=>
  rw[J6 h];unfold imp at h;rw[hk]at h;simp only at h;cases hu:f e.2.1 with
  |none=>rw[hu]at h;cases h
  |some k'=>rw[hu]at h;exact⟨k',rfl,of_decide_eq_false h⟩
theorem U5:∀(G:List Eg) (f:OF),ny (HY G f) f
 | [],_=>.refl
 |e::G,f=>(U5 G (Oi f e)).trans iM
theorem Xq{e:Eg}{k:Ky}:∀{G:List Eg} {f:OF},e∈G->f e.1=some k->∃ k',HY G f e.2.1=some k'/\PH k' (Js k e.2.2.1 e.2.2.2)
 |g::G,f,he,hk=>by
  rcases AK.1 he with rfl |he
  ·obtain⟨k1,h1,h2⟩:=Xp hk;obtain⟨k2,h3,h4⟩:=U5 G (Oi f e) _ _ h1;exact⟨k2,h3,Fe h4 h2⟩
  ·obtain⟨k1,h1,h2⟩:=iM (e:=g) _ _ hk;obtain⟨k2,h3,h4⟩:=Xq (G:=G) (f:=Oi f g) he h1;exact⟨k2,h3,Fe h4 (LG h2)⟩
def WF(G:List Eg)(s:T3)(f:OF):Prop:=∀ v k,f v=some k->Lh G s v k
theorem uU{G:List Eg}{s:T3}{f:OF}{e:Eg}(he:e∈G)(h:WF G s f):WF G s (Oi f e):=fun v k hk=>by
 cases hi:imp f e with
 |false=>rw[J6 hi]at hk;exact h v k hk
 |true=>
  obtain⟨k1,h1,h2,h3⟩:=LH hi;by_cases hv:v=e.2.1
  ·subst hv;rw[h2]at hk;cases hk;exact .step (h _ _ h1) he
  ·rw[SJ hv]at hk;exact h v k hk
theorem Zr{G:List Eg}{s:T3}:∀{L:List Eg} {f:OF},(∀ e∈L,e∈G)->WF G s f->WF G s (HY L f)
 | [],_,_,h=>h
 |e::L,_,hL,h=>Zr (L:=L) (fun x hx=>hL x (AT _ hx)) (uU (hL e (AL ..)) h)
theorem Xr:∀{L:List Eg} {f:OF},again L f=false->HY L f=f/\∀ e∈L,imp f e=false
 | [],_,_=>⟨rfl,fun _ h=>by cases h⟩
 |e::L,f,h=>by
  unfold again at h;rw[BJ,J6 h.1]at h;obtain⟨h1,h2⟩:=Xr h.2;refine⟨by show HY L (Oi f e)=f;rw[J6 h.1,h1],fun x hx=>?_⟩;rcases AK.1 hx with rfl |hx
  ·exact h.1
  ·exact h2 x hx
theorem uV{f:OF}{e:Eg}{k:Ky}(h:imp f e=false)(hk:f e.1=some k):∃ k',f e.2.1=some k'/\PH k' (Js k e.2.2.1 e.2.2.2):=by
 have:=Xp hk;rwa [J6 h]at this
theorem Zs{G:List Eg}{s:T3}{f:OF}(hw:WF G s f)(h0:∃ k,f s=some k/\PH k (0,[]))(hc:∀ e∈G,imp f e=false):f=GL G s:=by
 have key:∀{v k},Lh G s v k->∃ k',f v=some k'/\PH k' k:=fun h=>by
  induction h with
  |nil=>exact h0
  |step h he ih=>
   obtain⟨k1,h1,h2⟩:=ih;obtain⟨k2,h3,h4⟩:=uV (hc _ he) h1;exact⟨k2,h3,Fe h4 (LG h2)⟩
 funext v
 cases hv:f v with
 |some k=>
  refine(EO.2 ⟨hw v k hv,fun k' hk=>?_⟩).symm;obtain⟨k1,h1,h2⟩:=key hk;rw[hv]at h1;cases h1;exact h2
 |none=>
  cases hm:GL G s v with
  |none=>rfl
  |some k=>
   obtain⟨k1,h1,_⟩:=key (EO.1 hm).1;rw[hv]at h1;cases h1
theorem Zt{G:List Eg}{s:T3}{e:Eg}(he:e∈G)(hex:∀ v k,Lh G s v k->∃ k',Kq G s v k'):imp (GL G s) e=false:=by
 cases h:imp (GL G s) e with
 |false=>rfl
 |true=>
  obtain⟨k,h1,h2,h3⟩:=LH h;have hw:Lh G s e.2.1 (Js k e.2.2.1 e.2.2.2):=.step (EO.1 h1).1 he;obtain⟨k',hk'⟩:=hex _ _ hw;rw[EO.2 hk']at h3;exact absurd (AO h3) (hk'.2 _ hw)
theorem T9{G:List Eg}{s:T3}(hex:∀ v k,Lh G s v k->∃ k',Kq G s v k'):∀{L:List Eg},(∀ e∈L,e∈G)->again L (GL G s)=false
 | [],_=>rfl
 |e::L,h=>by
  have h1:=Zt (h e (AL ..)) hex;unfold again;rw[h1,J6 h1,Bk];exact T9 hex fun x hx=>h x (AT _ hx)
def OL(G:List Eg):Nat->OF->OF
 |0,f=>f
 |n+1,f=>OL G n (HY G f)
theorem Ua{G:List Eg}:∀{n:Nat} {f:OF},OL G (n+1) f=HY G (OL G n f)
 |0,_=>rfl
 |n+1,f=>by show OL G (n+1) (HY G f)=_;rw[Ua];rfl
theorem U6{G:List Eg}{s:T3}:∀{n:Nat} {f:OF},WF G s f->WF G s (OL G n f)
 |0,_,h=>h
 |n+1,_,h=>U6 (n:=n) (Zr (fun _ h=>h) h)
theorem bk{G:List Eg}:∀{n:Nat} {f:OF},ny (OL G n f) f
 |0,_=>.refl
 |n+1,f=>(bk (n:=n) (f:=HY G f)).trans (U5 G f)
theorem Ub{G:List Eg}{s v:T3}{k:Ky}(hw:Lh G s v k):∀{n:Nat} {f:OF},(∃ k0,f s=some k0/\PH k0 (0,[]))->k.2.length<=n->∃ k',OL G n f v=some k'/\PH k' k:=by
 induction hw with
 |nil=>
  intro n f h0 hn;obtain⟨k0,h1,h2⟩:=h0;obtain⟨k1,h3,h4⟩:=bk (n:=n) _ _ h1;exact⟨k1,h3,Fe h4 h2⟩
 | @step t u id w k hw he ih=>
  intro n f h0 hn;simp only[Ar,As,AC]at hn;cases n with
  |zero=>omega
  |succ n=>
   obtain⟨k1,h1,h2⟩:=ih (n:=n) h0 (by omega);rw[Ua];obtain⟨k2,h3,h4⟩:=Xq he h1;exact⟨k2,h3,Fe h4 (LG h2)⟩
structure uW(G:List Eg)(s:T3):Prop where
 ex:∀ v k,Lh G s v k->∃ k',Kq G s v k'
 bd:∃ B,∀ v k,Kq G s v k->k.2.length<=B
structure BF(G:List Eg)(s:T3)(f:OF):Prop where
 wf:WF G s f
 st:∃ k,f s=some k/\PH k (0,[])
theorem BF.HY{G:List Eg}{s:T3}{f:OF}(h:BF G s f):BF G s (HY G f) where
 wf:=Zr (fun _ h=>h) h.wf
 st:=by
  obtain⟨k,h1,h2⟩:=h.st;obtain⟨k',h3,h4⟩:=U5 G f _ _ h1;exact⟨k',h3,Fe h4 h2⟩
theorem BF.ends{G:List Eg}{s:T3}{f:OF}(hF:uW G s)(h:BF G s f):∃ n,OL G n f=GL G s:=by
 obtain⟨B,hB⟩:=hF.bd;refine⟨B,?_⟩;funext v
 have hwf:=U6 (n:=B) h.wf;cases hm:GL G s v with
 |some k=>
  have hk:=EO.1 hm;obtain⟨k',h1,h2⟩:=Ub hk.1 (n:=B) h.st (hB v k hk);rw[h1,SI h2 (hk.2 _ (hwf _ _ h1))]
 |none=>
  cases hs:OL G B f v with
  |none=>rfl
  |some k=>
   obtain⟨k',hk'⟩:=hF.ex _ _ (hwf _ _ hs);rw[EO.2 hk']at hm;cases hm
theorem G7{p:Nat->Prop}(h:∃ n,p n):∃ n,p n/\∀ m,m<n->¬p m:=by
 obtain⟨n,hn⟩:=h;induction n using Nat.strongRecOn with
 |_ n ih=>
  by_cases hc:∃ m,m<n/\p m
  ·obtain⟨m,h1,h2⟩:=hc;exact ih m h1 h2
  ·exact⟨n,hn,fun m h1 h2=>hc ⟨m,h1,h2⟩⟩
noncomputable def bn(G:List Eg)(s:T3)(f:OF):Nat:=@dite _ (∃ n,OL G n f=GL G s) (Classical.propDecidable _) (fun h=>(G7 h).choose) (fun _=>0)
theorem uX{G:List Eg}{s:T3}{f:OF}(hF:uW G s)(h:BF G s f)(ha:again G f=true):bn G s (HY G f)<bn G s f:=by
 have h1:=h.ends hF;have h2:=h.HY.ends hF;unfold bn;rw[dif_pos h1,dif_pos h2];have e1:=(G7 h1).choose_spec;have e2:=(G7 h2).choose_spec;generalize (G7 h1).choose=a at *;generalize (G7 h2).choose=b at *;cases a with
 |zero=>
  have:f=GL G s:=e1.1;rw[this,T9 hF.ex fun _ h=>h]at ha;cases ha
 |succ a=>
  by_cases hb:b<=a
  ·omega
  ·exact absurd e1.1 (e2.2 a (by omega))
end Go.Hr
namespace Go.Hr
open Go.Hx Go.Hg Go.Hn Go.Proofs
abbrev Dj(es:List PV):List Int:=es.map fun e=>(e.cellAt 0).DN
theorem EG(es:List PV):(Dj es).length=es.length:=AV ..
theorem Hw{es:List PV}{i:Int}(h0:0<=i)(h1:i<(es.length:Int)):(Dj es).drop i.toNat=((es.getD i.toNat .any).cellAt 0).DN::(Dj es).drop (i+1).toNat:=by
 show(es.map _).drop _=_::(es.map _).drop _
 rw[<- List.map_drop,<- List.map_drop,Dt h0 h1];rfl
theorem D1{es:List PV}{i:Int}(h0:0<=i)(h1:i<(es.length:Int)):F7 es i=true:=by
 show(decide (0<=i)&&decide (i<(es.length:Int)))=true
 rw[Ac h0,Ac h1];rfl
def Qb:Hx.S1:=⟨36,[(0,.Db 3),(1,.Db 3),(9,.Db 3),(10,Dm),(11,Dm)],[]⟩
abbrev uZ(f:Bool)(es:List PV)(g:Bool)(bs:List PV)(f':Bool)(es':List PV)(n i:Int):LS:=([.l f es,.l g bs,.l f' es',.i n,.i i],[])
abbrev xCp(f:Bool)(es:List PV)(g:Bool)(bs:List PV):PX×List PV×List Row:=(.exit 0,tm 36 [(0,.Db f 3 es),(1,.Db g 3 bs)],[])
abbrev rCp(f:Bool)(es:List PV)(g:Bool)(bs:List PV)(c:Int):PX×List PV×List Row:=(.ret,tm 36 [(0,.Db f 3 es),(1,.Db g 3 bs),(4,iv c)],[])
abbrev nI(es:List PV)(i:Int):Int:=((es.getD i.toNat .any).cellAt 0).DN
theorem qCp(f:Bool)(es:List PV)(g:Bool)(bs:List PV)(f':Bool)(es':List PV)(n i:Int):
 Dc Try.prog zQ 60 81 (Dh Try.f81 2) [0,1,9,10,11] [0,1,4] (Qb.put (uZ f es g bs f' es' n i)).1 (Qb.put (uZ f es g bs f' es' n i)).2 =
 bif decide (i<n) then bif F7 es' i then bif decide (i ≥ (bs.length:Int)) then some (rCp f es g bs 1) else bif F7 bs i then
  bif P9 (nI es' i-nI bs i) != 0 then some (rCp f es g bs (P9 (nI es' i-nI bs i))) else some (.normal,Qb.put (uZ f es g bs f' es' n (W (i+1)))) else none else none
 else some (xCp f es g bs):=by kernel_rfl
def Zu:List Int->List Int->Int
 | [],_=>0
 |_::_,[]=>1
 |a::l,b::m=>bif P9 (a-b) != 0 then P9 (a-b) else Zu l m
def qa:LS->Bool
 |([.l _ _,.l _ _,.l _ es',.i n,.i i],[])=>decide (n=(es'.length:Int))&&decide (0<=i)&&decide (es'.length<=1000000)
 |_=>false
def fCp:LS->DT (PX×List PV×List Row)
 |([.l f es,.l g bs,.l _ es',.i _,.i i],[])=>.br (Zu ((Dj es').drop i.toNat) ((Dj bs).drop i.toNat)==0) (.leaf (xCp f es g bs)) (.leaf (rCp f es g bs (Zu ((Dj es').drop i.toNat) ((Dj bs).drop i.toNat))))
 |_=>.no
def mCp:LS->Nat
 |([.l _ _,.l _ _,.l _ _,.i n,.i i],[])=>(n-i).toNat
 |_=>0
theorem sCp:∀ s r,qa s=true->(fCp s).run=some r->r.1≠.normal/\(Dc Try.prog zQ 60 81 (Dh Try.f81 2) [0,1,9,10,11] [0,1,4] (Qb.put s).1 (Qb.put s).2=some r \/
   ∃ s',Dc Try.prog zQ 60 81 (Dh Try.f81 2) [0,1,9,10,11] [0,1,4] (Qb.put s).1 (Qb.put s).2=some (.normal,Qb.put s')/\qa s'=true/\mCp s'<mCp s/\(fCp s').run=some r):=by
 intro s r hp hr;unfold qa at hp;split at hp
 ·rename_i f es g bs f' es' n i;simp only[Aa,Ab]at hp;obtain⟨⟨rfl,h2⟩,h3⟩:=hp;have hr':=Gb hr;refine⟨by rw[hr'];cases(Zu ((Dj es').drop i.toNat) ((Dj bs).drop i.toNat)==0) <;> simp,?_⟩;rw[show Qb.put ([.l f es,.l g bs,.l f' es',.i (es'.length:Int),.i i],[])=Qb.put (uZ f es g bs f' es' (es'.length:Int) i) from rfl,qCp];by_cases hi:i<(es'.length:Int)
  ·rw[Ac hi,Aj,D1 h2 hi,Aj];rw[Hw h2 hi]at hr';by_cases hb:i ≥ (bs.length:Int)
   ·rw[Ac hb];rw[AB (show(Dj bs).length<=i.toNat by rw[EG];omega)]at hr';exact .inl (by rw[hr'];rfl)
   ·rw[Ai hb,Ap,D1 h2 (show i<(bs.length:Int) by omega),Aj];rw[Hw h2 (show i<(bs.length:Int) by omega),Zu]at hr';cases hc:P9 (nI es' i-nI bs i) != 0 with
    |true=>
     rw[hc]at hr';simp only[Aj]at hr';rw[show(P9 (nI es' i-nI bs i)==0)=false by rw[bne]at hc;simpa using hc]at hr';exact .inl (by rw[hr'];rfl)
    |false=>
     rw[hc]at hr';refine .inr ⟨uZ f es g bs f' es' (es'.length:Int) (i+1),by rw[Dx (by omega) (by omega)];rfl,by simp only[qa,Aa,Ab];exact⟨⟨trivial,by omega⟩,h3⟩,by simp only[mCp];omega,?_⟩;rw[hr'];simp only[fCp,Ap];cases(Zu ((Dj es').drop (i+1).toNat) ((Dj bs).drop (i+1).toNat)==0) <;> rfl
  ·rw[Ai hi];rw[AB (show(Dj es').length<=i.toNat by rw[EG];omega)]at hr';exact .inl (by rw[hr'];rfl)
 ·cases hp
noncomputable def R37:C9:=zQ.Dr 81 2 [0,1,9,10,11] [] Qb qa fCp
theorem iO:C4 Try.prog R37.env:=
 zR.Dr (n:=60) Try.func81 (show Try.f81.body=some (D3 Try.f81) by kernel_rfl) (show(loops (D3 Try.f81)).filter (fun b=>Ev b==2)=[Dh Try.f81 2] by kernel_rfl) [0,1,9,10,11] [0,1,4] [] Qb mCp sCp
theorem afK(f:Bool)(es:List PV)(g:Bool)(bs:List PV):DC Try.prog R37 60 81 [.Db f 3 es,.Db g 3 bs] =
 bif qa (uZ f es g bs f es es.length 0) then bif Zu ((Dj es).drop (0:Int).toNat) ((Dj bs).drop (0:Int).toNat)==0 then bif decide ((es.length:Int)<(bs.length:Int)) then some (iv (-1)) else some (iv 0)
  else some (iv (Zu ((Dj es).drop (0:Int).toNat) ((Dj bs).drop (0:Int).toNat))) else none:=by kernel_rfl
theorem Zv{n:Int}:(P9 n != 0)=decide (n≠0):=by
 by_cases h:n=0
 ·subst h;decide
 ·rw[Ac h];unfold P9;split
  ·decide
  ·rw[Ak (by omega)];decide
theorem bp:∀{l m:List Int},(bif Zu l m==0 then (bif decide ((l.length:Int)<(m.length:Int)) then (-1:Int) else 0) else Zu l m)=EA l m
 | [],[]=>by simp[Zu,EA]
 | [],b::m=>by
  have:decide ((([]:List Int).length:Int)<((b::m).length:Int))=true:=by rw[BB];simp only[AC,As];omega
  rw[Zu,this];rfl
 |a::l,[]=>by simp[Zu,EA]
 |a::l,b::m=>by
  rw[Zu,EA,Zv];by_cases h1:a<b
  ·rw[Ak h1,Ac (show a-b≠0 by omega),Aj,show P9 (a-b) = -1 by unfold P9;rw[Ak (by omega)]];rfl
  ·rw[Aq h1];by_cases h2:b<a
   ·rw[Ak h2,Ac (show a-b≠0 by omega),Aj,show P9 (a-b)=1 by unfold P9;rw[Aq (by omega),Ak (by omega)]];rfl
   ·rw[Aq h2,Ai (show ¬a-b≠0 by omega),Ap,<- bp (l:=l) (m:=m)];have:decide (((a::l).length:Int)<((b::m).length:Int))=decide ((l.length:Int)<(m.length:Int)):=by
     simp only[As];rw[B2];omega
    rw[this]
theorem qb(f:Bool)(es:List PV)(g:Bool)(bs:List PV)(h:es.length<=1000000):DC Try.prog R37 60 81 [.Db f 3 es,.Db g 3 bs]=some (iv (EA (Dj es) (Dj bs))):=by
 have e1:((Dj es).length:Int)=(es.length:Int):=by rw[EG]
 have e2:((Dj bs).length:Int)=(bs.length:Int):=by rw[EG]
 have:=bp (l:=Dj es) (m:=Dj bs);rw[e1,e2]at this;rw[afK,show qa (uZ f es g bs f es es.length 0)=true by simp only[qa,Aa,Ab];exact⟨⟨trivial,by omega⟩,h⟩,Aj,<- this,show(0:Int).toNat=0 from rfl,AH,AH];cases Zu (Dj es) (Dj bs)==0 with
 |true=>cases decide ((es.length:Int)<(bs.length:Int)) <;> rfl
 |false=>rfl
def u3:List PV->Option (DT PV)
 | [.Db _ 3 es,.Db _ 3 bs]=>some (.br (decide (es.length<=1000000)) (.leaf (iv (EA (Dj es) (Dj bs)))) .no)
 |_=>none
theorem afL:Hx.Df Try.prog 81:=(Cz iO (n:=60) (qb false [] false [] (by simp))).1
theorem afM(args:List PV)(d:DT PV)(r:PV)(h:u3 args=some d)(hr:d.run=some r):Ds Try.prog 81 args r:=by
 unfold u3 at h;split at h
 ·rename_i f es g bs;cases h;obtain⟨h1,rfl⟩:=DO hr;exact(Cz iO (n:=60) (qb f es g bs (AO h1))).2
 ·cases h
noncomputable def R38:C9:=R37.DH 81 u3
theorem qc:C4 Try.prog R38.env:=iO.DH afL afM
theorem afO(f:Bool)(a b c:Int):DC Try.prog R38 60 47 [.Db f 3 [iv a,iv b,iv c]]=bif a != 0 then some (iv a) else bif b != 0 then some (iv b) else bif c != 0 then some (iv c) else some (iv 0):=by kernel_rfl
def or3(a b c:Int):Int:=bif a != 0 then a else bif b != 0 then b else bif c != 0 then c else 0
def u4:List PV->Option PV
 | [.Db _ 3 [.val (.int .i64 a),.val (.int .i64 b),.val (.int .i64 c)]]=>some (iv (or3 a b c))
 |_=>none
theorem afP(args:List PV)(r:PV)(h:u4 args=some r):Hx.Df Try.prog 47/\Ds Try.prog 47 args r:=by
 unfold u4 at h;split at h
 ·rename_i f a b c;cases h;refine Cz qc (n:=60) ((afO f a b c).trans ?_);unfold or3;cases a != 0 <;> cases b != 0 <;> cases c != 0 <;> rfl
 ·cases h
noncomputable def R39:C9:=R38.EM 47 u4
theorem iP:C4 Try.prog R39.env:=qc.EM afP
abbrev Hy(x y l:Int)(f:Bool)(ps:List PV)(c:Int):PV:=.agg [iv x,iv y,iv l,.Db f 3 ps,iv c]
def Vb(c:Int)(ps:List PV)(d:Int)(qs:List PV):Int:=or3 (P9 (c-d)) (P9 ((ps.length:Int)-(qs.length:Int))) (EA (Dj ps) (Dj qs))
theorem zT(x y l:Int)(f:Bool)(ps:List PV)(c a b m:Int)(g:Bool)(qs:List PV)(d:Int):DC Try.prog R39 60 59 [Hy x y l f ps c,Hy a b m g qs d] =
 bif decide (ps.length<=1000000) then some (iv (Vb c ps d qs)) else none:=by kernel_rfl
def cKc:List PV->Option (DT PV)
 | [.agg [.val (.int .i64 _),.val (.int .i64 _),.val (.int .i64 _),.Db _ 3 ps,.val (.int .i64 c)],.agg [.val (.int .i64 _),.val (.int .i64 _),.val (.int .i64 _),.Db _ 3 qs,.val (.int .i64 d)]]=>
  some (.br (decide (ps.length<=1000000)) (.leaf (iv (Vb c ps d qs))) .no)
 |_=>none
theorem iQ(x y l:Int)(f:Bool)(ps:List PV)(c a b m:Int)(g:Bool)(qs:List PV)(d:Int)(h:ps.length<=1000000):DC Try.prog R39 60 59 [Hy x y l f ps c,Hy a b m g qs d]=some (iv (Vb c ps d qs)):=by
 rw[zT,Ac h];rfl
theorem eKc:Hx.Df Try.prog 59:=(Cz iP (n:=60) (iQ 0 0 0 false [] 0 0 0 0 false [] 0 (by simp))).1
theorem oKc(args:List PV)(d:DT PV)(r:PV)(h:cKc args=some d)(hr:d.run=some r):Ds Try.prog 59 args r:=by
 unfold cKc at h;split at h
 ·rename_i x y l f ps c a b m g qs d;cases h;obtain⟨h1,rfl⟩:=DO hr;exact(Cz iP (n:=60) (iQ x y l f ps c a b m g qs d (AO h1))).2
 ·cases h
noncomputable def u5:C9:=R39.DH 59 cKc
theorem bq:C4 Try.prog u5.env:=iP.DH eKc oKc
theorem iR{c d:Int}{ps qs:List PV}:Vb c ps d qs<0 ↔ T5 (c,Dj ps) (d,Dj qs):=by
 unfold Vb or3 T5;simp only[EG];rw[Zv,Zv];by_cases h1:c=d
 ·subst h1;rw[Ai (by omega),Ap];by_cases h2:ps.length=qs.length
  ·rw[Ai (by omega),Ap];cases h3:EA (Dj ps) (Dj qs) != 0 with
   |true=>rw[Aj];omega
   |false=>
    rw[bne_eq_false_iff_eq]at h3;rw[Ap,h3];omega
  ·rw[Ac (by omega),Aj,LF];omega
 ·rw[Ac (by omega),Aj,LF];omega
abbrev Xt(x y l:Int)(f:Bool)(ps:List PV)(c:Int)(s:Bool):PV:=.agg [iv x,iv y,iv l,.Db f 3 ps,iv c,bv s]
abbrev aR:X1:=.agg [Dm,Dm,Dm,.Db 3,Dm,.bool]
def LY:Hx.S1:=⟨57,[(1,.Db 3),(5,.ptr 0 1 0 0),(7,Dm)],[.one 83 6 aR]⟩
abbrev iS(f:Bool)(ps:List PV)(i x y l:Int)(g:Bool)(qs:List PV)(d:Int)(s:Bool):LS:=([.l f ps,.i i],[.i x,.i y,.i l,.l g qs,.i d,.b s])
theorem qBt(f:Bool)(ps:List PV)(i x y l:Int)(g:Bool)(qs:List PV)(d:Int)(s:Bool):Dc Try.prog u5 60 63 (Dh Try.f63 8) [1,5,7] [6] (LY.put (iS f ps i x y l g qs d s)).1 (LY.put (iS f ps i x y l g qs d s)).2 =
 bif decide (i<(ps.length:Int)) then bif F7 ps i then bif F7 qs i then bif nI ps i != nI qs i then bif F7 ps i then bif F7 qs i then some (.ret,tm 57 [(6,bv (decide (nI ps i<nI qs i)))],(LY.put (iS f ps i x y l g qs d s)).2) else none else none
  else some (.normal,LY.put (iS f ps (W (i+1)) x y l g qs d s)) else none else none else some (.exit 0,tm 57 [],(LY.put (iS f ps i x y l g qs d s)).2):=by kernel_rfl
def qd:LS->Bool
 |([.l _ ps,.i i],[.i _,.i _,.i _,.l _ qs,.i _,.b _])=>decide (0<=i)&&decide (ps.length=qs.length)&&decide (ps.length<=1000000)
 |_=>false
noncomputable def fBt:LS->DT (PX×List PV×List Row)
 |([.l f ps,.i i],[.i x,.i y,.i l,.l g qs,.i d,.b s])=>.br (EA ((Dj ps).drop i.toNat) ((Dj qs).drop i.toNat)==0) (.leaf (.exit 0,tm 57 [],(LY.put (iS f ps 0 x y l g qs d s)).2))
   (.leaf (.ret,tm 57 [(6,bv (decide (EA ((Dj ps).drop i.toNat) ((Dj qs).drop i.toNat)<0)))],(LY.put (iS f ps 0 x y l g qs d s)).2))
 |_=>.no
def mBt:LS->Nat
 |([.l _ ps,.i i],_)=>((ps.length:Int)-i).toNat
 |_=>0
theorem sBt:∀ s r,qd s=true->(fBt s).run=some r->r.1≠.normal/\(Dc Try.prog u5 60 63 (Dh Try.f63 8) [1,5,7] [6] (LY.put s).1 (LY.put s).2=some r \/
   ∃ s',Dc Try.prog u5 60 63 (Dh Try.f63 8) [1,5,7] [6] (LY.put s).1 (LY.put s).2=some (.normal,LY.put s')/\qd s'=true/\mBt s'<mBt s/\(fBt s').run=some r):=by
 intro t r hp hr;unfold qd at hp;split at hp
 ·rename_i f ps i x y l g qs d s;simp only[Aa,Ab]at hp;obtain⟨⟨h1,h2⟩,h3⟩:=hp;have hr':=Gb hr;refine⟨by rw[hr'];cases(EA ((Dj ps).drop i.toNat) ((Dj qs).drop i.toNat)==0) <;> simp,?_⟩;rw[show LY.put ([.l f ps,.i i],[.i x,.i y,.i l,.l g qs,.i d,.b s])=LY.put (iS f ps i x y l g qs d s) from rfl,qBt];by_cases hi:i<(ps.length:Int)
  ·rw[Ac hi,D1 h1 hi,D1 h1 (show i<(qs.length:Int) by omega)];rw[Hw h1 hi,Hw h1 (show i<(qs.length:Int) by omega),EA]at hr';simp only[Aj];cases hc:nI ps i != nI qs i with
   |true=>
    have hne:nI ps i≠nI qs i:=CA.1 hc;refine .inl ?_;rw[hr'];by_cases hl:nI ps i<nI qs i
    ·rw[Ak hl,Ac hl];rfl
    ·rw[Aq hl,Ak (show nI qs i<nI ps i by omega),Ai hl];rfl
   |false=>
    rw[bne_eq_false_iff_eq]at hc;have h4:¬nI ps i<nI qs i:=by omega
    have h5:¬nI qs i<nI ps i:=by omega
    rw[Aq h4,Aq h5]at hr';rw[Dx (by omega) (by omega)];refine .inr ⟨iS f ps (i+1) x y l g qs d s,rfl,by simp only[qd,Aa,Ab];exact⟨⟨by omega,h2⟩,h3⟩,by simp only[mBt];omega,?_⟩;rw[hr'];simp only[fBt];cases(EA ((Dj ps).drop (i+1).toNat) ((Dj qs).drop (i+1).toNat)==0) <;> rfl
  ·rw[Ai hi];rw[AB (show(Dj ps).length<=i.toNat by rw[EG];omega),AB (show(Dj qs).length<=i.toNat by rw[EG];omega)]at hr';exact .inl (by rw[hr'];rfl)
 ·cases hp
noncomputable def R41:C9:=u5.Dr 63 8 [1,5,7] [] LY qd fBt
theorem iT:C4 Try.prog R41.env:=
 bq.Dr (n:=60) Try.func63 (show Try.f63.body=some (D3 Try.f63) by kernel_rfl) (show(loops (D3 Try.f63)).filter (fun b=>Ev b==8)=[Dh Try.f63 8] by kernel_rfl) [1,5,7] [6] [] LY mBt sBt
theorem afR(c:Int)(f:Bool)(ps:List PV)(x y l:Int)(g:Bool)(qs:List PV)(d:Int)(s:Bool):DC Try.prog R41 60 63 [iv c,.Db f 3 ps,Xt x y l g qs d s] =
 bif !s then some (bv true) else bif c != d then some (bv (decide (c<d))) else bif (ps.length:Int) != (qs.length:Int) then some (bv (decide ((ps.length:Int)<(qs.length:Int)))) else
  bif qd (iS f ps 0 x y l g qs d s) then bif EA ((Dj ps).drop (0:Int).toNat) ((Dj qs).drop (0:Int).toNat)==0 then some (bv false) else some (bv (decide (EA ((Dj ps).drop (0:Int).toNat) ((Dj qs).drop (0:Int).toNat)<0))) else none:=by kernel_rfl
def Zw(c:Int)(ps:List PV)(d:Int)(qs:List PV)(s:Bool):Bool:=zS (c,Dj ps) (bif s then some (d,Dj qs) else none)
theorem qe(c:Int)(f:Bool)(ps:List PV)(x y l:Int)(g:Bool)(qs:List PV)(d:Int)(s:Bool)(h:ps.length<=1000000):DC Try.prog R41 60 63 [iv c,.Db f 3 ps,Xt x y l g qs d s]=some (bv (Zw c ps d qs s)):=by
 rw[afR];cases s with
 |false=>rfl
 |true=>
  show _=some (bv (decide (T5 (c,Dj ps) (d,Dj qs))))
  have hk:decide (T5 (c,Dj ps) (d,Dj qs))=decide (c<d\/c=d/\(ps.length<qs.length\/ps.length=qs.length/\EA (Dj ps) (Dj qs)<0)):=by
   rw[B2];unfold T5;simp only[EG]
  rw[hk];simp only[BZ,Ap];by_cases h1:c=d
  ·subst h1;rw[Cp,Ap];by_cases h2:ps.length=qs.length
   ·rw[show((ps.length:Int) != (qs.length:Int))=false by rw[h2];exact Cp ..,Ap];rw[show qd (iS f ps 0 x y l g qs c true)=true by simp only[qd,Aa,Ab];exact⟨⟨by omega,h2⟩,h⟩,Aj,show(0:Int).toNat=0 from rfl,AH,AH];cases h3:EA (Dj ps) (Dj qs)==0 with
    |true=>
     rw[Av]at h3;rw[Aj,Ai (show ¬(c<c\/c=c/\(ps.length<qs.length\/ps.length=qs.length/\EA (Dj ps) (Dj qs)<0)) by omega)]
    |false=>
     rw[Ap];have:decide (EA (Dj ps) (Dj qs)<0)=decide (c<c\/c=c/\(ps.length<qs.length\/ps.length=qs.length/\EA (Dj ps) (Dj qs)<0)):=by rw[B2];omega
     rw[this]
   ·rw[show((ps.length:Int) != (qs.length:Int))=true by rw[CA];omega,Aj];have:decide ((ps.length:Int)<(qs.length:Int))=decide (c<c\/c=c/\(ps.length<qs.length\/ps.length=qs.length/\EA (Dj ps) (Dj qs)<0)):=by rw[B2];omega
    rw[this]
  ·rw[show(c != d)=true by rw[CA];exact h1,Aj];have:decide (c<d)=decide (c<d\/c=d/\(ps.length<qs.length\/ps.length=qs.length/\EA (Dj ps) (Dj qs)<0)):=by rw[B2];omega
   rw[this]
def u6:List PV->Option (DT PV)
 | [.val (.int .i64 c),.Db _ 3 ps,.agg [.val (.int .i64 _),.val (.int .i64 _),.val (.int .i64 _),.Db _ 3 qs,.val (.int .i64 d),.val (.bool s)]]=>some (.br (decide (ps.length<=1000000)) (.leaf (bv (Zw c ps d qs s))) .no)
 |_=>none
theorem afS:Hx.Df Try.prog 63:=(Cz iT (n:=60) (qe 0 false [] 0 0 0 false [] 0 false (by simp))).1
theorem afT(args:List PV)(d:DT PV)(r:PV)(h:u6 args=some d)(hr:d.run=some r):Ds Try.prog 63 args r:=by
 unfold u6 at h;split at h
 ·rename_i c f ps x y l g qs d s;cases h;obtain⟨h1,rfl⟩:=DO hr;exact(Cz iT (n:=60) (qe c f ps x y l g qs d s (AO h1))).2
 ·cases h
def Zx:List PV->Option (DT PV)
 | [.agg [.val (.int .i64 _),.Db _ 28 L,.val (.int .i64 _),.val (.string _),.val (.string _),.val (.bool _),.val (.int .i64 _),.val (.int .i64 _)]]=>some (.br (decide (L.length<=100000)) (.leaf (iv (Du L))) .no)
 |_=>none
noncomputable def u7:C9:=(R41.DH 63 u6).DH 36 dT
theorem Zy:C4 Try.prog u7.env:=(iT.DH afS afT).DH zO zP
theorem zU(i:Int)(f:Bool)(L:List PV)(lv:Int)(cs nm:ByteArray)(st:Bool)(wt ds:Int):DC Try.prog u5 60 18 [LQ i f L lv cs nm st wt ds]=bif decide (L.length<=100000) then some (iv (Du L)) else none:=by kernel_rfl
theorem qf(i:Int)(f:Bool)(L:List PV)(lv:Int)(cs nm:ByteArray)(st:Bool)(wt ds:Int):DC Try.prog u7 60 19 [LQ i f L lv cs nm st wt ds]=bif decide (L.length<=100000) then some (iv (Du L)) else none:=by kernel_rfl
theorem afU:Hx.Df Try.prog 18:=(Cz bq (n:=60) ((zU 0 false [] 0 .empty .empty false 0 0).trans (by rw[Ac (by simp)];rfl))).1
theorem qg:Hx.Df Try.prog 19:=(Cz Zy (n:=60) ((qf 0 false [] 0 .empty .empty false 0 0).trans (by rw[Ac (by simp)];rfl))).1
theorem afV(args:List PV)(d:DT PV)(r:PV)(h:Zx args=some d)(hr:d.run=some r):Ds Try.prog 18 args r:=by
 unfold Zx at h;split at h
 ·rename_i i f L lv cs nm st wt ds;cases h;obtain⟨h1,rfl⟩:=DO hr;exact(Cz bq (n:=60) ((zU i f L lv cs nm st wt ds).trans (by rw[h1];rfl))).2
 ·cases h
theorem qh(args:List PV)(d:DT PV)(r:PV)(h:Zx args=some d)(hr:d.run=some r):Ds Try.prog 19 args r:=by
 unfold Zx at h;split at h
 ·rename_i i f L lv cs nm st wt ds;cases h;obtain⟨h1,rfl⟩:=DO hr;exact(Cz Zy (n:=60) ((qf i f L lv cs nm st wt ds).trans (by rw[h1];rfl))).2
 ·cases h
noncomputable def zV:C9:=u5.DH 18 Zx
theorem zX:C4 Try.prog zV.env:=bq.DH afU afV
noncomputable def zY:C9:=u7.DH 19 Zx
theorem u9:C4 Try.prog zY.env:=Zy.DH qg qh
noncomputable def zZ:C9:=zY.GH 34 6 [(7,83,6)]
theorem z0:C4 Try.prog zZ.env:=u9.GH 34 6 [(7,83,6)]
def OM:Hx.S1:=⟨138,[(0,.Db 49),(2,.bool),(4,.ptr 0 1 0 0),(7,.sl 1),(8,.Db 30),(9,Dm)],[.one 30 3 aS,.many 83 6]⟩
abbrev qi(f:Bool)(ws:List PV)(fl:Bool)(n k:Nat)(g:Bool)(l:List PV)(i x y z:Int)(nl:Bool)(es:List PV):LS:=([.l f ws,.b fl,.n n,.n k,.l g l,.i i],[.i x,.i y,.i z,.l nl es])
noncomputable abbrev xA1(f:Bool)(ws:List PV)(fl:Bool)(n k:Nat)(g:Bool)(l:List PV)(x y z:Int)(nl:Bool)(es:List PV):PX×List PV×List Row:=
 (.exit 0,tm 138 [(0,.Db f 49 ws),(2,bv fl),(7,.sl 1 n 0 k),(8,.Db g 30 l)],(OM.put (qi f ws fl n k g l 0 x y z nl es)).2)
abbrev Xu(x y z:Int)(e:PV):PV:=Xt (gX e) (gY e) (gL e) true [] 0 (VO e x y z)
theorem qA1(f:Bool)(ws:List PV)(fl:Bool)(n k:Nat)(g:Bool)(l:List PV)(i x y z:Int)(nl:Bool)(es:List PV):Dc Try.prog zZ 60 34 (Dh Try.f34 6) [0,2,4,7,8,9] [0,2,7,8] (OM.put (qi f ws fl n k g l i x y z nl es)).1 (OM.put (qi f ws fl n k g l i x y z nl es)).2 =
 bif decide (i<(l.length:Int)) then bif F7 l i then bif F7 l i then bif decide (es.length=n)&&decide (n=k)&&decide ((n+1)*64<=140737488355328) then
  some (.normal,OM.put (qi f ws fl (n+1) (n+1) g l (W (i+1)) x y z (nl&&false) (es++[Xu x y z (l.getD i.toNat .any)]))) else none else none else none
 else some (xA1 f ws fl n k g l x y z nl es):=by kernel_rfl
def qj:LS->Bool
 |([.l _ _,.b _,.n n,.n k,.l _ l,.i i],[.i _,.i _,.i _,.l nl es])=>decide (n=es.length)&&decide (k=es.length)&&decide (0<=i)&&decide (i<=(l.length:Int))&&decide ((es.length:Int)<=i)&&decide (l.length<=10000)&&(nl==es.isEmpty)
 |_=>false
noncomputable def fA1:LS->DT (PX×List PV×List Row)
 |([.l f ws,.b fl,.n _,.n _,.l g l,.i i],[.i x,.i y,.i z,.l _ es])=>.leaf (xA1 f ws fl (es++(l.drop i.toNat).map (Xu x y z)).length (es++(l.drop i.toNat).map (Xu x y z)).length g l x y z (es++(l.drop i.toNat).map (Xu x y z)).isEmpty (es++(l.drop i.toNat).map (Xu x y z)))
 |_=>.no
def mA1:LS->Nat
 |([.l _ _,.b _,.n _,.n _,.l _ l,.i i],_)=>((l.length:Int)-i).toNat
 |_=>0
theorem sA1:∀ s r,qj s=true->(fA1 s).run=some r->r.1≠.normal/\(Dc Try.prog zZ 60 34 (Dh Try.f34 6) [0,2,4,7,8,9] [0,2,7,8] (OM.put s).1 (OM.put s).2=some r \/
   ∃ s',Dc Try.prog zZ 60 34 (Dh Try.f34 6) [0,2,4,7,8,9] [0,2,7,8] (OM.put s).1 (OM.put s).2=some (.normal,OM.put s')/\qj s'=true/\mA1 s'<mA1 s/\(fA1 s').run=some r):=by
 intro t r hp hr;unfold qj at hp;split at hp
 ·rename_i f ws fl n k g l i x y z nl es;simp only[Aa,Ab,Av]at hp;obtain⟨⟨⟨⟨⟨⟨rfl,rfl⟩,h2⟩,h3⟩,h4⟩,h5⟩,h6⟩:=hp;have hr':=(Ah hr).symm;refine⟨by rw[hr'];simp,?_⟩;rw[show OM.put ([.l f ws,.b fl,.n es.length,.n es.length,.l g l,.i i],[.i x,.i y,.i z,.l nl es])=OM.put (qi f ws fl es.length es.length g l i x y z nl es) from rfl,qA1];by_cases hi:i<(l.length:Int)
  ·rw[Ac hi,D1 h2 hi,Ac (show(es.length+1)*64<=140737488355328 by omega),Ac (show es.length=es.length from rfl),Dx (by omega) (by omega),BG];refine .inr ⟨qi f ws fl (es.length+1) (es.length+1) g l (i+1) x y z false (es++[Xu x y z (l.getD i.toNat .any)]),rfl,by
    simp only[qj,Aa,Ab,Av,Ar,As,AC];exact⟨⟨⟨⟨⟨⟨trivial,trivial⟩,by omega⟩,by omega⟩,by omega⟩,h5⟩,by simp⟩,by simp only[mA1];omega,?_⟩
   rw[hr',Dt h2 hi];simp only[fA1,AW,BA,List.singleton_append];rfl
  ·rw[Ai hi];rw[AB (by omega)]at hr';simp only[Bq,BV]at hr';exact .inl (by rw[hr',h6];rfl)
 ·cases hp
noncomputable def z7:C9:=zZ.Dr 34 6 [0,2,4,7,8,9] [false,false] OM qj fA1
theorem va:C4 Try.prog z7.env:=
 z0.Dr (n:=60) Try.func34 (show Try.f34.body=some (D3 Try.f34) by kernel_rfl) (show(loops (D3 Try.f34)).filter (fun b=>Ev b==6)=[Dh Try.f34 6] by kernel_rfl) [0,2,4,7,8,9] [0,2,7,8] [false,false] OM mA1 sA1
noncomputable def xm:C9:=(z7.FU 34 24 5).JP 34 24 [82,88]
theorem z8:C4 Try.prog xm.env:=(va.FU 34 24 5).JP 34 24 [82,88]
def J7:Hx.S1:=⟨138,[(0,.Db 49),(2,.bool),(7,.sl 1),(8,.Db 30),(10,.bool),(11,Dm)],[.one 30 3 aS,.many 83 6]⟩
abbrev Zz(f:Bool)(ws:List PV)(fl:Bool)(n k:Nat)(g:Bool)(l:List PV)(ag:Bool)(i x y z:Int)(nl:Bool)(es:List PV):LS:=([.l f ws,.b fl,.n n,.n k,.l g l,.b ag,.i i],[.i x,.i y,.i z,.l nl es])
abbrev aW:X1:=.agg [Dm,.Db 28,Dm,.str,.str,.bool,Dm,Dm]
def KA:Hx.S1:=⟨138,[(0,.Db 49),(2,.bool),(7,.sl 1),(8,.Db 30),(10,.bool),(11,Dm),(12,.ptr 2 1 0 0),(15,Dm),(16,Dm),(17,Dm)],
 [.one 30 3 aS,.many 83 6,.one 49 8 aW,.one 30 3 aS,.one 30 3 aS]⟩
abbrev dU(f:Bool)(ws:List PV)(fl:Bool)(n k:Nat)(g:Bool)(l:List PV)(ag:Bool)(i a b m x y z:Int)(nl:Bool)(es:List PV)(wi:Int)(wf:Bool)(wl:List PV)(lv:Int)(cs nm:ByteArray)(st:Bool)(wt ds a0 a1 a2 b0 b1 b2:Int):LS:=
 ([.l f ws,.b fl,.n n,.n k,.l g l,.b ag,.i i,.i a,.i b,.i m],[.i x,.i y,.i z,.l nl es,.i wi,.l wf wl,.i lv,.s cs,.s nm,.b st,.i wt,.i ds,.i a0,.i a1,.i a2,.i b0,.i b1,.i b2])
abbrev rP(e:PV):List PV:=(e.cellAt 3).Tc
abbrev rC(e:PV):Int:=(e.cellAt 4).DN
abbrev rS(e:PV):Bool:=(e.cellAt 5).cH
abbrev vb(e:PV)(ps:List PV):PV:=Xt (gX e) (gY e) (gL e) false ps (rC e) (rS e)
abbrev qk(e:PV)(c:Int):PV:=Xt (gX e) (gY e) (gL e) false (rP e) c (rS e)
abbrev ql(e:PV):PV:=Xt (gX e) (gY e) (gL e) false (rP e) (rC e) true
def vc(es:List PV)(n l:Nat)(i:Int){α:Type}(k:Option α):Option α:=Sj es n l i (HV es n (bif (es.length==n)&&true&&true&&true then k else none))
abbrev iU(es:List PV)(a wi:Int):List PV:=((([]++rP (rE es a))++[iv wi]).drop 0).take ((0+(rP (rE es a)).length)+1)
abbrev aL3(es:List PV)(a wi:Int):Bool:=(([]++rP (rE es a))++[iv wi]).length==(0+(rP (rE es a)).length)+1
abbrev VP(es:List PV)(a b wi:Int):List PV:=es.set (0+b.toNat) (vb (rE es b) (iU es a wi))
abbrev qm(es:List PV)(a b wi:Int)(wl:List PV):List PV:=(VP es a b wi).set (0+b.toNat) (qk (rE (VP es a b wi) b) (W (rC (rE (VP es a b wi) a)+Du wl)))
abbrev es3(es:List PV)(a b wi:Int)(wl:List PV):List PV:=(qm es a b wi wl).set (0+b.toNat) (ql (rE (qm es a b wi wl) b))
noncomputable abbrev xA3(f:Bool)(ws:List PV)(fl:Bool)(n k:Nat)(g:Bool)(l:List PV)(ag:Bool)(i x y z:Int)(nl:Bool)(es:List PV)(wi:Int)(wf:Bool)(wl:List PV)(lv:Int)(cs nm:ByteArray)(st:Bool)(wt ds a0 a1 a2 b0 b1 b2:Int):PX×List PV×List Row:=
 (.exit 6,tm 138 [(0,.Db f 49 ws),(2,bv fl),(7,.sl 1 n 0 k),(8,.Db g 30 l),(10,bv ag),(11,iv i)],(KA.put (dU f ws fl n k g l ag i 0 0 0 x y z nl es wi wf wl lv cs nm st wt ds a0 a1 a2 b0 b1 b2)).2)
theorem qA3(f:Bool)(ws:List PV)(fl:Bool)(n k:Nat)(g:Bool)(l:List PV)(ag:Bool)(i a b m x y z:Int)(nl:Bool)(es:List PV)(wi:Int)(wf:Bool)(wl:List PV)(lv:Int)(cs nm:ByteArray)(st:Bool)(wt ds a0 a1 a2 b0 b1 b2:Int):
 Dc Try.prog xm 60 34 (Dh Try.f34 21) [0,2,7,8,10,11,12,15,16,17] [0,2,7,8,10,11] (KA.put (dU f ws fl n k g l ag i a b m x y z nl es wi wf wl lv cs nm st wt ds a0 a1 a2 b0 b1 b2)).1 (KA.put (dU f ws fl n k g l ag i a b m x y z nl es wi wf wl lv cs nm st wt ds a0 a1 a2 b0 b1 b2)).2 =
 bif decide (m<2) then Sj es n k a (HV es n (HV es n (bif decide ((0+(rP (rE es a)).length)*8<=140737488355328) then
  bif decide (([]++rP (rE es a)).length=0+(rP (rE es a)).length)&&decide (0+(rP (rE es a)).length=0+(rP (rE es a)).length)&&decide ((0+(rP (rE es a)).length+1)*8<=140737488355328) then
  bif (aL3 es a wi&&(aL3 es a wi&&true))&&true then Sj es n k a (HV es n (HV es n (bif rS (rE es a) then
   Sj es n k a (HV es n (HV es n (bif decide (wl.length<=100000) then Sj es n k b (HV es n (bif decide ((iU es a wi).length<=1000000) then
    bif Zw (W (rC (rE es a)+Du wl)) (iU es a wi) (rC (rE es b)) (rP (rE es b)) (rS (rE es b)) then
     vc es n k b (Sj (VP es a b wi) n k a (HV (VP es a b wi) n (HV (VP es a b wi) n (bif decide (wl.length<=100000) then vc (VP es a b wi) n k b (vc (qm es a b wi wl) n k b
      (some (.normal,KA.put (dU f ws fl n k g l true i b a (W (m+1)) x y z nl (es3 es a b wi wl) wi wf wl lv cs nm st wt ds a0 a1 a2 b0 b1 b2)))) else none))))
    else some (.normal,KA.put (dU f ws fl n k g l ag i b a (W (m+1)) x y z nl es wi wf wl lv cs nm st wt ds a0 a1 a2 b0 b1 b2)) else none)) else none)))
   else some (.normal,KA.put (dU f ws fl n k g l ag i b a (W (m+1)) x y z nl es wi wf wl lv cs nm st wt ds a0 a1 a2 b0 b1 b2))))) else none else none else none)))
 else some (xA3 f ws fl n k g l ag i x y z nl es wi wf wl lv cs nm st wt ds a0 a1 a2 b0 b1 b2):=by kernel_rfl
abbrev aE(es:List PV)(a:Int):PV:=es.getD a.toNat .any
def MR(es:List PV)(a b wi c:Int):Bool:=rS (aE es a)&&Zw (rC (aE es a)+c) (rP (aE es a)++[iv wi]) (rC (aE es b)) (rP (aE es b)) (rS (aE es b))
def J8(es:List PV)(a b wi c:Int):List PV:=bif MR es a b wi c then es.set b.toNat (Xt (gX (aE es b)) (gY (aE es b)) (gL (aE es b)) false (rP (aE es a)++[iv wi]) (rC (aE es a)+c) true) else es
def Xv(C:Int)(n:Nat)(e:PV):Bool:=decide (0<=rC e)&&decide (rC e<=C)&&decide ((rP e).length<=n)
theorem ZA{es:List PV}{b:Int}{e:PV}(h0:0<=b)(h:b<(es.length:Int)):aE (es.set b.toNat e) b=e:=by
 show(es.set b.toNat e).getD b.toNat .any=e
 rw[Ay,Cc (by omega)];rfl
theorem z9{es:List PV}{a b:Int}{e:PV}(h0:0<=b)(h1:0<=a)(h:a≠b):aE (es.set b.toNat e) a=aE es a:=by
 show(es.set b.toNat e).getD a.toNat .any=es.getD a.toNat .any
 rw[Ay,B1 (by omega),<- Ay]
theorem ON{es:List PV}{a:Int}:rE es a=aE es a:=QO es a
theorem J9{es:List PV}{a:Int}(h0:0<=a)(h:a<(es.length:Int)):aE es a∈es:=by
 show es.getD a.toNat .any∈es
 rw[Ay,Ae (by omega)];exact Bw _
theorem bt{es:List PV}{a wi:Int}:iU es a wi=rP (aE es a)++[iv wi]:=by
 show List.take _ _=_
 rw[AH,Bc,ON];exact A7 (by simp)
theorem iV{es:List PV}{a b wi:Int}:VP es a b wi=es.set b.toNat (vb (aE es b) (rP (aE es a)++[iv wi])):=by
 show es.set (0+b.toNat) (vb (rE es b) (iU es a wi))=_
 rw[AN,ON,bt]
theorem aaa{es:List PV}{a b wi:Int}(ha:0<=a)(hb:0<=b)(h:b<(es.length:Int)):rC (rE (VP es a b wi) a)=rC (aE es a):=by
 rw[ON,iV];by_cases hab:a=b
 ·subst hab;rw[ZA ha h];rfl
 ·rw[z9 hb ha hab]
theorem vd{es:List PV}{a b wi:Int}{wl:List PV}(ha:0<=a)(hb:0<=b)(h:b<(es.length:Int))(hw:W (rC (aE es a)+Du wl)=rC (aE es a)+Du wl):
  es3 es a b wi wl=es.set b.toNat (Xt (gX (aE es b)) (gY (aE es b)) (gL (aE es b)) false (rP (aE es a)++[iv wi]) (rC (aE es a)+Du wl) true):=by
 have h1:(VP es a b wi).length=es.length:=Bh ..;have e2:qm es a b wi wl=es.set b.toNat (Xt (gX (aE es b)) (gY (aE es b)) (gL (aE es b)) false (rP (aE es a)++[iv wi]) (rC (aE es a)+Du wl) (rS (aE es b))):=by
  show(VP es a b wi).set (0+b.toNat) (qk (rE (VP es a b wi) b) (W (rC (rE (VP es a b wi) a)+Du wl)))=_
  rw[aaa ha hb h,hw,AN,ON,iV,ZA hb h,List.set_set];rfl
 show(qm es a b wi wl).set (0+b.toNat) (ql (rE (qm es a b wi wl) b))=_
 rw[AN,ON,e2,ZA hb h,List.set_set];rfl
theorem ZB{α:Type}{es:List PV}{n l:Nat}{i:Int}{k:Option α}(hn:es.length=n)(h1:0<=i)(h2:i<(l:Int)):vc es n l i k=k:=by
 unfold vc;rw[FD hn h1 h2,DK hn,hn,AP];rfl
theorem iW{es:List PV}{a b wi c:Int}:(J8 es a b wi c).length=es.length:=by
 unfold J8;cases MR es a b wi c <;> simp
theorem nC{es:List PV}{a b wi c C K:Int}{n:Nat}(ha:0<=a)(ha2:a<(es.length:Int))(h:(es.all (Xv C n))=true)(hc:0<=c)(hc2:c<=K):((J8 es a b wi c).all (Xv (C+K) (n+1)))=true:=by
 have hm:∀{e:PV},Xv C n e=true->Xv (C+K) (n+1) e=true:=fun {e} he=>by
  simp only[Xv,Aa,Ab]at he ⊢;omega
 rw[Ao]at h ⊢;intro e he;unfold J8 at he;cases hi:MR es a b wi c with
 |false=>rw[hi]at he;exact hm (h e he)
 |true=>
  rw[hi,Aj]at he;rcases Bu he with he |rfl
  ·exact hm (h e he)
  ·have:=h _ (J9 ha ha2);simp only[Xv,Aa,Ab]at this;have e1:rC (Xt (gX (aE es b)) (gY (aE es b)) (gL (aE es b)) false (rP (aE es a)++[iv wi]) (rC (aE es a)+c) true)=rC (aE es a)+c:=rfl;have e2:(rP (Xt (gX (aE es b)) (gY (aE es b)) (gL (aE es b)) false (rP (aE es a)++[iv wi]) (rC (aE es a)+c) true)).length=(rP (aE es a)).length+1:=by
    show(rP (aE es a)++[iv wi]).length=_;simp
   simp only[Xv,Aa,Ab,e1,e2];omega
theorem afY(f:Bool)(ws:List PV)(fl:Bool)(g:Bool)(l:List PV)(ag:Bool)(i a b m x y z:Int)(nl:Bool)(es:List PV)(wi:Int)(wf:Bool)(wl:List PV)(lv:Int)(cs nm:ByteArray)(st:Bool)(wt ds a0 a1 a2 b0 b1 b2:Int)
  (ha:0<=a) (ha2:a<(es.length:Int)) (hb:0<=b) (hb2:b<(es.length:Int)) (hm:m<2) (hl:wl.length<=1000) (hbd:(es.all (Xv 1000000000000000000 200000))=true):
 Dc Try.prog xm 60 34 (Dh Try.f34 21) [0,2,7,8,10,11,12,15,16,17] [0,2,7,8,10,11] (KA.put (dU f ws fl es.length es.length g l ag i a b m x y z nl es wi wf wl lv cs nm st wt ds a0 a1 a2 b0 b1 b2)).1 (KA.put (dU f ws fl es.length es.length g l ag i a b m x y z nl es wi wf wl lv cs nm st wt ds a0 a1 a2 b0 b1 b2)).2 =
 some (.normal,KA.put (dU f ws fl es.length es.length g l (ag||MR es a b wi (Du wl)) i b a (W (m+1)) x y z nl (J8 es a b wi (Du wl)) wi wf wl lv cs nm st wt ds a0 a1 a2 b0 b1 b2)):=by
 have hA:=Ao.1 hbd _ (J9 ha ha2);simp only[Xv,Aa,Ab]at hA;have hL:=SF wl (F8 wl 0) 0;have hL2:Du wl<=3037000499*1000:=by
  have:F8 wl 0<=1000:=by unfold F8;omega
  show LX wl 0 (F8 wl 0)<=_;omega
 have hL1:0<=Du wl:=hL.1;have hw:W (rC (aE es a)+Du wl)=rC (aE es a)+Du wl:=Dx (by omega) (by omega);have n1:(VP es a b wi).length=es.length:=Bh ..;have n2:(qm es a b wi wl).length=es.length:=(Bh ..).trans n1;have hlen:(rP (aE es a)).length<=200000:=hA.2;have c1:decide ((0+(rP (rE es a)).length)*8<=140737488355328)=true:=by rw[ON];exact Ac (by omega)
 have c2:(decide (([]++rP (rE es a)).length=0+(rP (rE es a)).length)&&decide (0+(rP (rE es a)).length=0+(rP (rE es a)).length)&&decide ((0+(rP (rE es a)).length+1)*8<=140737488355328))=true:=by
  rw[ON];simp only[Bc,AN,CV,BW,Ab];omega
 have c3:aL3 es a wi=true:=by
  show((([]++rP (rE es a))++[iv wi]).length==(0+(rP (rE es a)).length)+1)=true
  rw[Av];simp
 rw[qA3,Ac hm,FD rfl ha ha2,DK rfl,DK rfl,c1,c2,c3,FD rfl ha ha2,DK rfl,DK rfl];rw[bt,ON,ON];simp only[Aj,Br];cases hs:rS (aE es a) with
 |false=>
  have hi:MR es a b wi (Du wl)=false:=by unfold MR;rw[hs];rfl
  have hr:J8 es a b wi (Du wl)=es:=by unfold J8;rw[hi];rfl
  rw[hr,hi,CC];rfl
 |true=>
  have hi:MR es a b wi (Du wl)=Zw (rC (aE es a)+Du wl) (rP (aE es a)++[iv wi]) (rC (aE es b)) (rP (aE es b)) (rS (aE es b)):=by unfold MR;rw[hs];rfl
  rw[Aj,FD rfl ha ha2,DK rfl,DK rfl,Ac (show wl.length<=100000 by omega),Aj,FD rfl hb hb2,DK rfl,
   Ac (show(rP (aE es a)++[iv wi]).length<=1000000 by rw[Ar,BY];omega),Aj,hw,<- hi]
  cases hc:MR es a b wi (Du wl) with
  |false=>
   have hr:J8 es a b wi (Du wl)=es:=by unfold J8;rw[hc];rfl
   rw[hr,CC];rfl
  |true=>
   have hr:J8 es a b wi (Du wl)=es3 es a b wi wl:=by rw[vd ha hb hb2 hw];unfold J8;rw[hc];rfl
   rw[Aj,ZB rfl hb hb2];rw[hr,Bool.or_true];have key:∀ k:Option (PX×List PV×List Row),Sj (VP es a b wi) es.length es.length a (HV (VP es a b wi) es.length (HV (VP es a b wi) es.length (vc (VP es a b wi) es.length es.length b (vc (qm es a b wi wl) es.length es.length b k))))=k:=fun k=>by
    rw[FD n1 ha ha2,DK n1,DK n1,ZB n1 hb hb2,ZB n2 hb hb2]
   exact key _
def dV(wi c:Int):Nat->Bool->List PV->Int->Int->Bool×List PV
 |0,ag,es,_,_=>(ag,es)
 |k+1,ag,es,a,b=>dV wi c k (ag||MR es a b wi c) (J8 es a b wi c) b a
theorem Xw{es:List PV}{C D:Int}{n m:Nat}(h:(es.all (Xv C n))=true)(h1:C<=D)(h2:n<=m):(es.all (Xv D m))=true:=by
 rw[Ao]at h ⊢;intro e he;have:=h e he;simp only[Xv,Aa,Ab]at this ⊢;omega
theorem F9{wl:List PV}(h:wl.length<=1000):0<=Du wl/\Du wl<=3037000499000:=by
 have hL:=SF wl (F8 wl 0) 0;have:F8 wl 0<=1000:=by unfold F8;omega
 show 0<=LX wl 0 (F8 wl 0)/\LX wl 0 (F8 wl 0)<=_;omega
def qn:LS->Bool
 |([.l _ _,.b _,.n n,.n k,.l _ _,.b _,.i _,.i a,.i b,.i m],[.i _,.i _,.i _,.l _ es,.i _,.l _ wl,.i _,.s _,.s _,.b _,.i _,.i _,.i _,.i _,.i _,.i _,.i _,.i _])=>
  decide (n=es.length)&&decide (k=es.length)&&decide (0<=a)&&decide (a<(es.length:Int))&&decide (0<=b)&&decide (b<(es.length:Int))&&decide (0<=m)&&decide (m<=2)&&decide (wl.length<=1000)&&es.all (Xv (900000000000000000+m*3037000499000) (100000+m.toNat))
 |_=>false
noncomputable def fA3:LS->DT (PX×List PV×List Row)
 |([.l f ws,.b fl,.n n,.n k,.l g l,.b ag,.i i,.i a,.i b,.i m],[.i x,.i y,.i z,.l nl es,.i wi,.l wf wl,.i lv,.s cs,.s nm,.b st,.i wt,.i ds,.i a0,.i a1,.i a2,.i b0,.i b1,.i b2])=>
  .leaf (xA3 f ws fl n k g l (dV wi (Du wl) (2-m).toNat ag es a b).1 i x y z nl (dV wi (Du wl) (2-m).toNat ag es a b).2 wi wf wl lv cs nm st wt ds a0 a1 a2 b0 b1 b2)
 |_=>.no
def mA3:LS->Nat
 |([.l _ _,.b _,.n _,.n _,.l _ _,.b _,.i _,.i _,.i _,.i m],_)=>(2-m).toNat
 |_=>0
theorem sA3:∀ s r,qn s=true->(fA3 s).run=some r->r.1≠.normal/\(Dc Try.prog xm 60 34 (Dh Try.f34 21) [0,2,7,8,10,11,12,15,16,17] [0,2,7,8,10,11] (KA.put s).1 (KA.put s).2=some r \/
   ∃ s',Dc Try.prog xm 60 34 (Dh Try.f34 21) [0,2,7,8,10,11,12,15,16,17] [0,2,7,8,10,11] (KA.put s).1 (KA.put s).2=some (.normal,KA.put s')/\qn s'=true/\mA3 s'<mA3 s/\(fA3 s').run=some r):=by
 intro t r hp hr;unfold qn at hp;split at hp
 ·rename_i f ws fl n k g l ag i a b m x y z nl es wi wf wl lv cs nm st wt ds a0 a1 a2 b0 b1 b2;simp only[Aa,Ab]at hp;obtain⟨⟨⟨⟨⟨⟨⟨⟨⟨rfl,rfl⟩,h1⟩,h2⟩,h3⟩,h4⟩,h5⟩,h6⟩,h7⟩,h8⟩:=hp;have hr':=(Ah hr).symm;refine⟨by rw[hr'];simp,?_⟩;rw[show KA.put ([.l f ws,.b fl,.n es.length,.n es.length,.l g l,.b ag,.i i,.i a,.i b,.i m],[.i x,.i y,.i z,.l nl es,.i wi,.l wf wl,.i lv,.s cs,.s nm,.b st,.i wt,.i ds,.i a0,.i a1,.i a2,.i b0,.i b1,.i b2]) =
   KA.put (dU f ws fl es.length es.length g l ag i a b m x y z nl es wi wf wl lv cs nm st wt ds a0 a1 a2 b0 b1 b2) from rfl]
  by_cases hm:m<2
  ·obtain⟨g1,g2⟩:=F9 h7;rw[afY f ws fl g l ag i a b m x y z nl es wi wf wl lv cs nm st wt ds a0 a1 a2 b0 b1 b2 h1 h2 h3 h4 hm h7 (Xw h8 (by omega) (by omega)),Dx (by omega) (by omega)];have hlen:(J8 es a b wi (Du wl)).length=es.length:=iW;have hbd:=nC (b:=b) (wi:=wi) h1 h2 h8 g1 g2;refine .inr ⟨dU f ws fl es.length es.length g l (ag||MR es a b wi (Du wl)) i b a (m+1) x y z nl (J8 es a b wi (Du wl)) wi wf wl lv cs nm st wt ds a0 a1 a2 b0 b1 b2,rfl,?_,by simp only[mA3];omega,?_⟩
   ·simp only[qn,Aa,Ab,hlen];exact⟨⟨⟨⟨⟨⟨⟨⟨⟨trivial,trivial⟩,h3⟩,h4⟩,h1⟩,h2⟩,by omega⟩,by omega⟩,h7⟩,Xw hbd (by omega) (by omega)⟩
   ·have e1:(2-m).toNat=(2-(m+1)).toNat+1:=by omega
    rw[hr',e1];rfl
  ·have hm2:m=2:=by omega
   subst hm2;rw[qA3];exact .inl (by rw[hr'];rfl)
 ·cases hp
noncomputable def R45:C9:=xm.Kr Try.prog [false,false,true,false,false] 34 21 [0,2,7,8,10,11,12,15,16,17] [false,false,true,true,true] KA qn fA3
theorem aac:C4 Try.prog R45.env:=
 z8.Kr (n:=60) Try.func34 (show Try.f34.body=some (D3 Try.f34) by kernel_rfl) (show(loops (D3 Try.f34)).filter (fun b=>Ev b==21)=[Dh Try.f34 21] by kernel_rfl) [false,false,true,false,false] [0,2,7,8,10,11,12,15,16,17] [0,2,7,8,10,11] [false,false,true,true,true] KA mA3 sA3
abbrev lk(l:List PV)(e:PV):Int:=DI (gX (eF e)) (gY (eF e)) (gL (eF e)) 0 l
abbrev ll(l:List PV)(e:PV):Int:=DI (gX (eL e)) (gY (eL e)) (gL (eL e)) 0 l
abbrev cS(e:PV)(j:Nat):ByteArray:=(e.cellAt j).Hz
abbrev cI(e:PV)(j:Nat):Int:=(e.cellAt j).DN
noncomputable def nD(f:Bool)(ws:List PV)(fl:Bool)(n k:Nat)(g:Bool)(l:List PV)(ag:Bool)(i x y z:Int)(nl:Bool)(es:List PV)(e:PV):Option (PX×List PV×List Row):=
 bif PE (wL e) then bif decide (l.length<=10000) then bif decide (l.length<=10000) then
  bif qn (dU f ws fl n k g l ag i (lk l e) (ll l e) 0 x y z nl es (wI e) false (wL e) (MQ e) (cS e 3) (cS e 4) (IX e) (cI e 6) (cI e 7) (gX (eF e)) (gY (eF e)) (gL (eF e)) (gX (eL e)) (gY (eL e)) (gL (eL e))) then
   some (.normal,J7.put (Zz f ws fl n k g l (dV (wI e) (Du (wL e)) (2-0:Int).toNat ag es (lk l e) (ll l e)).1 (W (i+1)) x y z nl (dV (wI e) (Du (wL e)) (2-0:Int).toNat ag es (lk l e) (ll l e)).2)) else none else none else none else none
theorem qA2(f:Bool)(ws:List PV)(fl:Bool)(n k:Nat)(g:Bool)(l:List PV)(ag:Bool)(i x y z:Int)(nl:Bool)(es:List PV):
 Dc Try.prog R45 60 34 (Dh Try.f34 13) [0,2,7,8,10,11] [0,2,7,8,10] (J7.put (Zz f ws fl n k g l ag i x y z nl es)).1 (J7.put (Zz f ws fl n k g l ag i x y z nl es)).2 =
 bif decide (i<(ws.length:Int)) then bif F7 ws i then bif ((wL (ws.getD i.toNat .any)).length:Int)==0 then some (.normal,J7.put (Zz f ws fl n k g l ag (W (i+1)) x y z nl es)) else
  bif fl then bif IX (ws.getD i.toNat .any) then some (.normal,J7.put (Zz f ws fl n k g l ag (W (i+1)) x y z nl es)) else nD f ws fl n k g l ag i x y z nl es (ws.getD i.toNat .any) else nD f ws fl n k g l ag i x y z nl es (ws.getD i.toNat .any)
 else none else some (.exit 4,tm 138 [(0,.Db f 49 ws),(2,bv fl),(7,.sl 1 n 0 k),(8,.Db g 30 l),(10,bv ag)],(J7.put (Zz f ws fl n k g l ag 0 x y z nl es)).2):=by kernel_rfl
end Go.Hr
