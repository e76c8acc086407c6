import Derived.Test.YtggmhenfkidjbaaPart10
import Derived.Test.YtggmhenfkidjbaaPart5
noncomputable section
namespace Go.Hr
open Go.Hx Go.Hg Go.Hn Go.Proofs
def wyK(s:EV)(n:Nat):Option PV:=HM s.1 n (some (.C9 false 49 ((s.1.drop 0).take n)))
def w2(L:List PV)(s:EV)(n:Nat):Option PV:=
 bif E3 s.2.2.1 4 then bif dI L s.2.2.1 4==0 then bif s.1.length==n then bif VE n n s.1 (aI L s.2.2.1) then
  wyK (Uq (HZ 1) (H5 1) (HZ 3) (H5 0) (-1) L (Od L s)) (s.1.length+1) else none else none else wyK (Od L s) n else none
def w1(L:List PV)(s:EV)(n:Nat):Option PV:=
 bif E3 s.2.2.1 3 then bif dI L s.2.2.1 3==0 then bif E3 (aI L s.2.2.1) 2 then bif s.1.length==n then bif VE n n s.1 (aI L (aI L s.2.2.1)) then
  w2 L (Uq (HZ 0) (H5 0) (HZ (W (2+dI L (aI L s.2.2.1) 2))) (H5 1) 1 L (Od L (Od L s))) (s.1.length+1) else none else none else none else w2 L (Od L s) n else none
abbrev cD(L:List PV)(f:Bool):EV:=eJ L (2-0:Int).toNat 0 ([],f,0,true)
abbrev Oe(L:List PV)(f:Bool):EV:=Z0 L (4-0:Int).toNat 0 (cD L f)
theorem acL(f:Bool)(L:List PV):DD Try.prog MV4 60 56 [.C9 f 3 L] =
 bif tw (yf L 0 0 0 ([],f,0,true)) then bif X4 (Ts L (cD L f).1.length (cD L f).1.length 0 (cD L f)) then w1 L (Oe L f) (Oe L f).1.length else none else none:=by kernel_rfl
def Z1(L:List PV)(s:EV):EV:=bif dI L s.2.2.1 3==0 then Uq (HZ 0) (H5 0) (HZ (W (2+dI L (aI L s.2.2.1) 2))) (H5 1) 1 L (Od L (Od L s)) else Od L s
def oY(L:List PV)(s:EV):EV:=bif dI L s.2.2.1 4==0 then Uq (HZ 1) (H5 1) (HZ 3) (H5 0) (-1) L (Od L s) else Od L s
def O5(f:Bool)(L:List PV):List PV:=(oY L (Z1 L (Oe L f))).1
theorem QR(ax ay bx b' lv:Int)(L:List PV)(s:EV):(Uq ax ay bx b' lv L s).1.length=s.1.length+1:=by
 show(s.1++[_]).length=_;simp
theorem kB(L:List PV)(s:EV):s.1.length<=(Z1 L s).1.length/\(Z1 L s).1.length<=s.1.length+1/\s.2.2.1<=(Z1 L s).2.2.1/\(Z1 L s).2.2.1<=s.2.2.1+11:=by
 have h1:=F7 L s.2.2.1;have h2:=F7 L (aI L s.2.2.1);have h3:=tu (HZ 0) (H5 0) (HZ (W (2+dI L (aI L s.2.2.1) 2))) (H5 1) 1 L (Od L (Od L s));have h4:=QR (HZ 0) (H5 0) (HZ (W (2+dI L (aI L s.2.2.1) 2))) (H5 1) 1 L (Od L (Od L s));change aI L (aI L s.2.2.1)<=_/\_<=aI L (aI L s.2.2.1)+9 at h3
 change _=s.1.length+1 at h4
 unfold Z1;cases dI L s.2.2.1 3==0
 ·exact⟨Al _,CD _,h1.1,by show aI L s.2.2.1<=_;omega⟩
 ·simp only[Aj];omega
theorem tz(L:List PV)(f:Bool):(cD L f).1.length<=6/\0<=(cD L f).2.2.1/\(cD L f).2.2.1<=60/\(Oe L f).1.length<=10/\0<=(Oe L f).2.2.1/\(Oe L f).2.2.1<=100:=by
 obtain⟨a1,a2,a3,a4⟩:=kz L (2-0:Int).toNat 0 ([],f,0,true);obtain⟨b1,b2,b3,b4⟩:=kA L (4-0:Int).toNat 0 (cD L f);have e2:((2-0:Int)).toNat=2:=rfl;have e4:((4-0:Int)).toNat=4:=rfl;rw[e2]at a2 a4;rw[e4]at b2 b4;simp only[AB]at a2 a3 a4;change (cD L f).1.length<=_ at a2
 change _<=(cD L f).2.2.1 at a3
 change (cD L f).2.2.1<=_ at a4
 change (Oe L f).1.length<=_ at b2
 change _<=(Oe L f).2.2.1 at b3
 change (Oe L f).2.2.1<=_ at b4
 omega
theorem kC{s:EV}{n:Nat}(h:s.1.length=n):wyK s n=some (.C9 false 49 s.1):=by
 unfold wyK;rw[DJ h,AF,A7 (by omega)]
theorem acM{L:List PV}{s:EV}(h:s.1.length<=100)(h0:0<=s.2.2.1)(h1:s.2.2.1<=1000):w2 L s s.1.length=some (.C9 false 49 (oY L s).1):=by
 have ha:=F7 L s.2.2.1;unfold w2 oY;rw[show E3 s.2.2.1 4=true by unfold E3;simp;omega,AS,QQ (by omega) (by omega) (by omega)];cases dI L s.2.2.1 4==0
 ·exact kC (s:=Od L s) rfl
 ·exact kC (QR _ _ _ _ _ _ _)
theorem acN{L:List PV}{s:EV}(h:s.1.length<=90)(h0:0<=s.2.2.1)(h1:s.2.2.1<=900):w1 L s s.1.length=some (.C9 false 49 (oY L (Z1 L s)).1):=by
 have ha:=F7 L s.2.2.1;have hb:=F7 L (aI L s.2.2.1);have hc:=kB L s;rw[<- acM (L:=L) (s:=Z1 L s) (by omega) (by omega) (by omega)];unfold w1 Z1;rw[show E3 s.2.2.1 3=true by unfold E3;simp;omega,show E3 (aI L s.2.2.1) 2=true by unfold E3;simp;omega,AS,QQ (by omega) (by omega) (by omega)];cases dI L s.2.2.1 3==0
 ·rfl
 ·simp only[Aj];rw[QR]
theorem kE(f:Bool)(L:List PV):DD Try.prog MV4 60 56 [.C9 f 3 L]=some (.C9 false 49 (O5 f L)):=by
 obtain⟨a1,a2,a3,a4,a5,a6⟩:=tz L f;have p4:tw (yf L 0 0 0 ([],f,0,true))=true:=by
  simp only[tw,Aa,Ab,AB,CZ];omega
 have p12:X4 (Ts L (cD L f).1.length (cD L f).1.length 0 (cD L f))=true:=by
  simp only[X4,Aa,Ab,CZ];omega
 rw[acL,p4,p12];exact acN (by omega) a5 (by omega)
def kF:List PV->Option (DT PV)
 | [.C9 f 3 L]=>some (.br true (.leaf (.C9 false 49 (O5 f L))) .no)
 |_=>none
theorem acO:Hx.Dd Try.prog 56:=(Cy tx (n:=60) (kE false [])).1
theorem acP(args:List PV)(d:DT PV)(r:PV)(h:kF args=some d)(hr:d.run=some r):Dr Try.prog 56 args r:=by
 unfold kF at h;split at h
 ·rename_i f L;cases h;obtain⟨_,rfl⟩:=DN hr;exact(Cy tx (n:=60) (kE f L)).2
 ·cases h
def yh:CY:=((M7.DE 79 cAt).DE 80 wM).F4 57 5 [(6,138,7)]
theorem acQ:CG Try.prog yh.env:=((IP.DE eAt oAt).DE ahA ahB).F4 57 5 [(6,138,7)]
abbrev ahJ:List PV:=[.val (.string ⟨#[116,114,101,101]⟩),.val (.string ⟨#[116,114,101,101]⟩),.val (.string ⟨#[115,104,111,112]⟩)]
abbrev ahK:List PV:=[.val (.string ⟨#[]⟩),.val (.string ⟨#[]⟩),.val (.string ⟨#[71,97,116,101]⟩),.val (.string ⟨#[79,97,107]⟩),.val (.string ⟨#[84,104,101,32,87,101,108,108]⟩)]
def Km:S1:=⟨88,[(2,.ptr 0 1 0 0),(5,.ptr 1 1 0 0),(6,.sl 2),(7,Dk),(8,Dk)],[.GJ 73 4 (.agg [.C9 147,.C9 106,.C9 49,.nil]),.one 103 2 (.agg [.C9 3,Dk]),.many 138 7]⟩
abbrev eK(g:Bool)(E:List PV)(fb:Bool)(F:List PV)(h:Bool)(D:List PV)(L:List PV)(n l:Nat)(many k:Int)(s:EV):LS:=([.n n,.n l,.i many,.i k],[.l g E,.l fb F,.l h D,.l s.2.1 L,.i s.2.2.1,.l s.2.2.2 s.1])
abbrev xPc(g:Bool)(E:List PV)(fb:Bool)(F:List PV)(h:Bool)(D:List PV)(L:List PV)(n l:Nat)(s:EV):PX×List PV×List Row:=
 (.exit 0,tm 88 [(6,.sl 2 n 0 l)],(Km.put (eK g E fb F h D L n l 0 0 s)).2)
abbrev plX(L:List PV)(a sd:Int):Int:=W (W (90+W (100*dI L (a1 L a 2) 3))+sd)
abbrev kG(L:List PV)(a:Int):Int:=W (W (W (90+W (100*dI L (a1 L a 3) 2))+dI L (a1 L a 4) 51)-25)
abbrev plV(L:List PV)(a:Int)(l:Nat)(x y d:Int):PV:=.agg [iv (W (61+(l:Int))),iv x,iv y,.val (.string ((ahJ.getD (0+(dI L (a1 L a 6) 3).toNat) .any).cellAt 0).GU),.val (.string ((ahK.getD (0+(dI L (a1 L a 7) 5).toNat) .any).cellAt 0).GU),iv (W (1+dI L (a1 L a 5) 60)),iv d]
def plT(g:Bool)(E:List PV)(fb:Bool)(F:List PV)(h:Bool)(D:List PV)(L:List PV)(n l:Nat)(many k:Int)(s:EV)(x y:Int):Option (PX×List PV×List Row):=
 bif E3 (a1 L s.2.2.1 2) 3 then bif E3 (a1 L s.2.2.1 3) 2 then bif E3 (a1 L s.2.2.1 4) 51 then bif E3 (a1 L s.2.2.1 5) 60 then bif E3 (a1 L s.2.2.1 6) 3 then bif VD L (a1 L s.2.2.1 6) 3 then bif E3 (a1 L s.2.2.1 7) 5 then bif VD L (a1 L s.2.2.1 7) 5 then
 bif PY E&&decide (E.length<=1000) then bif decide (F.length<=1000) then bif ku (Qo E) x y then bif decide (oT F (fc (Qo E) x y) > 0) then
  bif true&&decide (s.1.length=n)&&decide (n=l)&&decide ((n+1)*72<=140737488355328) then
   some (.normal,Km.put (eK g E fb F h D L (n+1) (n+1) many (W (k+1)) (s.1++[plV L s.2.2.1 l x y (oT F (fc (Qo E) x y))],f1 s.2.1 L s.2.2.1 8,a1 L s.2.2.1 8,s.2.2.2&&false))) else none
  else some (.normal,Km.put (eK g E fb F h D L n l many (W (k+1)) (s.1,f1 s.2.1 L s.2.2.1 8,a1 L s.2.2.1 8,s.2.2.2))) else some (.normal,Km.put (eK g E fb F h D L n l many (W (k+1)) (s.1,f1 s.2.1 L s.2.2.1 8,a1 L s.2.2.1 8,s.2.2.2)))
 else none else none else none else none else none else none else none else none else none else none
theorem qPc(g:Bool)(E:List PV)(fb:Bool)(F:List PV)(h:Bool)(D:List PV)(L:List PV)(n l:Nat)(many k:Int)(ps:List PV)(f:Bool)(a:Int)(nl:Bool):
 Db Try.prog yh 60 57 (Dg Try.f57 5) [2,5,6,7,8] [6] (Km.put (eK g E fb F h D L n l many k (ps,f,a,nl))).1 (Km.put (eK g E fb F h D L n l many k (ps,f,a,nl))).2 =
 bif decide (k<many) then bif E3 (a1 L a 0) 10 then bif E3 (a1 L a 1) 2 then
  bif dI L (a1 L a 1) 2==1 then plT g E fb F h D L n l many k (ps,f,a,nl) (plX L a (W (0-W (16+dI L (a1 L a 0) 10)))) (kG L a) else plT g E fb F h D L n l many k (ps,f,a,nl) (plX L a (W (16+dI L (a1 L a 0) 10))) (kG L a)
 else none else none else some (xPc g E fb F h D L n l (ps,f,a,nl)):=by kernel_rfl
def kH(L:List PV)(a:Int):Int:=bif dI L (a1 L a 1) 2==1 then plX L a (W (0-W (16+dI L (a1 L a 0) 10))) else plX L a (W (16+dI L (a1 L a 0) 10))
def fe(E F L:List PV)(s:EV):EV:=
 bif ku (Qo E) (kH L s.2.2.1) (kG L s.2.2.1)&&decide (oT F (fc (Qo E) (kH L s.2.2.1) (kG L s.2.2.1)) > 0) then
  (s.1++[plV L s.2.2.1 s.1.length (kH L s.2.2.1) (kG L s.2.2.1) (oT F (fc (Qo E) (kH L s.2.2.1) (kG L s.2.2.1)))],f1 s.2.1 L s.2.2.1 8,a1 L s.2.2.1 8,s.2.2.2&&false)
 else (s.1,f1 s.2.1 L s.2.2.1 8,a1 L s.2.2.1 8,s.2.2.2)
theorem wT(E F L:List PV)(s:EV):(fe E F L s).1.length<=s.1.length+1/\s.2.2.1<=(fe E F L s).2.2.1/\(fe E F L s).2.2.1<=s.2.2.1+8:=by
 have h:=Hu L s.2.2.1 8;unfold fe;cases ku (Qo E) (kH L s.2.2.1) (kG L s.2.2.1)&&decide (oT F (fc (Qo E) (kH L s.2.2.1) (kG L s.2.2.1)) > 0)
 ·exact⟨CD _,h.1,by show a1 L s.2.2.1 8<=_;omega⟩
 ·exact⟨by show(s.1++[_]).length<=_;simp,h.1,by show a1 L s.2.2.1 8<=_;omega⟩
theorem kI{g:Bool}{E:List PV}{fb:Bool}{F:List PV}{h:Bool}{D L:List PV}{many k:Int}{ps:List PV}{f:Bool}{a:Int}{nl:Bool}(x:Int)(h0:0<=a)(h1:a<=10000)(hE:PY E=true)(hE2:E.length<=1000)(hF:F.length<=1000)(hk:0<=k)(hk2:k<=100)(hp:ps.length<=100)(hx:kH L a=x):
  plT g E fb F h D L ps.length ps.length many k (ps,f,a,nl) x (kG L a)=some (.normal,Km.put (eK g E fb F h D L (fe E F L (ps,f,a,nl)).1.length (fe E F L (ps,f,a,nl)).1.length many (k+1) (fe E F L (ps,f,a,nl)))):=by
 have ok:∀(k:Nat) (n:Int),k<=8->0<n->n<=100->E3 (a1 L a k) n=true:=fun k n hk hn hn2=>by
  have:=Hu L a k;unfold E3;simp;omega
 have ind:∀(k:Nat) (n:Int),0<n->VD L (a1 L a k) n=true:=fun k n hn=>by
  rw[Aa];exact⟨Ac (I4 _ _ hn),Ac (IF _ _ hn)⟩
 unfold plT;rw[ok 2 3 (by omega) (by omega) (by omega),ok 3 2 (by omega) (by omega) (by omega),ok 4 51 (by omega) (by omega) (by omega),ok 5 60 (by omega) (by omega) (by omega),ok 6 3 (by omega) (by omega) (by omega),ind 6 3 (by omega),ok 7 5 (by omega) (by omega) (by omega),ind 7 5 (by omega),hE,Ac hE2,Ac hF,Dx (n:=k+1) (by omega) (by omega),
  show(true&&decide (ps.length=ps.length)&&decide (ps.length=ps.length)&&decide ((ps.length+1)*72<=140737488355328))=true by simp;omega]
 simp only[Aj,Bg];subst hx;unfold fe;simp only;generalize hA:ku (Qo E) (kH L a) (kG L a)=A;generalize hB:decide (oT F (fc (Qo E) (kH L a) (kG L a)) > 0)=B;cases A <;> cases B <;> simp only[Aj,Ar,Bq,BC,Bg,Ap,As,AB]
theorem ahL{g:Bool}{E:List PV}{fb:Bool}{F:List PV}{h:Bool}{D L:List PV}{many k:Int}{ps:List PV}{f:Bool}{a:Int}{nl:Bool}(hm:k<many)(h0:0<=a)(h1:a<=10000)(hE:PY E=true)(hE2:E.length<=1000)(hF:F.length<=1000)(hk:0<=k)(hk2:k<=100)(hp:ps.length<=100):
  Db Try.prog yh 60 57 (Dg Try.f57 5) [2,5,6,7,8] [6] (Km.put (eK g E fb F h D L ps.length ps.length many k (ps,f,a,nl))).1 (Km.put (eK g E fb F h D L ps.length ps.length many k (ps,f,a,nl))).2 =
  some (.normal,Km.put (eK g E fb F h D L (fe E F L (ps,f,a,nl)).1.length (fe E F L (ps,f,a,nl)).1.length many (k+1) (fe E F L (ps,f,a,nl)))):=by
 have ok:∀(k:Nat) (n:Int),k<=8->0<n->n<=100->E3 (a1 L a k) n=true:=fun k n hk hn hn2=>by
  have:=Hu L a k;unfold E3;simp;omega
 rw[qPc,Ac hm,ok 0 10 (by omega) (by omega) (by omega),ok 1 2 (by omega) (by omega) (by omega)];simp only[Aj];cases hd:dI L (a1 L a 1) 2==1 with
 |true=>exact kI _ h0 h1 hE hE2 hF hk hk2 hp (by unfold kH;rw[hd];rfl)
 |false=>exact kI _ h0 h1 hE hE2 hF hk hk2 hp (by unfold kH;rw[hd];rfl)
def yi(E F L:List PV):Nat->EV->EV
 |0,s=>s
 |m+1,s=>yi E F L m (fe E F L s)
def tA:LS->Bool
 |([.n n,.n l,.i many,.i k],[.l _ E,.l _ F,.l _ _,.l _ _,.i a,.l _ ps])=>PY E&&decide (n=ps.length)&&decide (l=ps.length)&&decide (E.length<=1000)&&decide (F.length<=1000)&&decide (0<=k)&&decide (k<=many)&&decide (many<=6)&&decide ((ps.length:Int)<=k)&&decide (0<=a)&&decide (a<=10+8*k)
 |_=>false
def fPc:LS->DT (PX×List PV×List Row)
 |([.n _,.n _,.i many,.i k],[.l g E,.l fb F,.l h D,.l f L,.i a,.l nl ps])=>.leaf (xPc g E fb F h D L (yi E F L (many-k).toNat (ps,f,a,nl)).1.length (yi E F L (many-k).toNat (ps,f,a,nl)).1.length (yi E F L (many-k).toNat (ps,f,a,nl)))
 |_=>.no
def mPc:LS->Nat
 |([.n _,.n _,.i many,.i k],_)=>(many-k).toNat
 |_=>0
theorem sPc:∀ s r,tA s=true->(fPc s).run=some r->r.1≠.normal/\(Db Try.prog yh 60 57 (Dg Try.f57 5) [2,5,6,7,8] [6] (Km.put s).1 (Km.put s).2=some r \/
   ∃ s',Db Try.prog yh 60 57 (Dg Try.f57 5) [2,5,6,7,8] [6] (Km.put s).1 (Km.put s).2=some (.normal,Km.put s')/\tA s'=true/\mPc s'<mPc s/\(fPc s').run=some r):=by
 intro t r hp hr;unfold tA at hp;split at hp
 ·rename_i n l many k g E fb F h D f L a nl ps;simp only[Aa,Ab]at hp;obtain⟨⟨⟨⟨⟨⟨⟨⟨⟨⟨h0,rfl⟩,rfl⟩,h1⟩,h2⟩,h3⟩,h4⟩,h5⟩,h6⟩,h7⟩,h8⟩:=hp;have hr':=(Ah hr).symm;refine⟨by rw[hr'];simp,?_⟩;rw[show Km.put ([.n ps.length,.n ps.length,.i many,.i k],[.l g E,.l fb F,.l h D,.l f L,.i a,.l nl ps])=Km.put (eK g E fb F h D L ps.length ps.length many k (ps,f,a,nl)) from rfl];by_cases hi:k<many
  ·obtain⟨j,hj⟩:∃ j,(many-k).toNat=j+1:=⟨(many-k).toNat-1,by omega⟩;have hj2:(many-(k+1)).toNat=j:=by omega
   obtain⟨b1,b2,b3⟩:=wT E F L (ps,f,a,nl);simp only at b1 b2 b3;refine .inr ⟨_,ahL hi h7 (by omega) h0 h1 h2 h3 (by omega) (by omega),?_,by simp only[mPc];omega,?_⟩
   ·simp only[tA,Aa,Ab];exact⟨⟨⟨⟨⟨⟨⟨⟨⟨⟨h0,trivial⟩,trivial⟩,h1⟩,h2⟩,by omega⟩,by omega⟩,h5⟩,by omega⟩,by omega⟩,by omega⟩
   ·rw[hr',hj];simp only[fPc,hj2,DT.run,yi]
  ·have hz:(many-k).toNat=0:=by omega
   rw[qPc,Ai hi];exact .inl (by rw[hr',hz];rfl)
 ·cases hp
def MP3:CY:=yh.Dl 57 5 [2,5,6,7,8] [true,true,false] Km tA fPc
theorem tB:CG Try.prog MP3.env:=
 acQ.Dl (n:=60) Try.func57 (show Try.f57.body=some (DY Try.f57) by kernel_rfl) (show(loops (DY Try.f57)).filter (fun b=>Ew b==5)=[Dg Try.f57 5] by kernel_rfl) [2,5,6,7,8] [6] [true,true,false] Km mPc sPc
abbrev oZ(E F L:List PV)(f:Bool):EV:=yi E F L (dI L 0 7-0).toNat ([],fI f L 0,aI L 0,true)
theorem ahN(g:Bool)(E:List PV)(fb:Bool)(F:List PV)(h:Bool)(D:List PV)(f:Bool)(L:List PV):DD Try.prog MP3 60 57 [oS g E fb F h D,.C9 f 3 L] =
 bif tA (eK g E fb F h D L 0 0 (dI L 0 7) 0 ([],fI f L 0,aI L 0,true)) then HM (oZ E F L f).1 (oZ E F L f).1.length (some (.C9 false 138 (((oZ E F L f).1.drop 0).take (oZ E F L f).1.length))) else none:=by kernel_rfl
theorem tC(g:Bool){E:List PV}(fb:Bool){F:List PV}(h:Bool)(D:List PV)(f:Bool)(L:List PV)(hE:PY E=true)(hE2:E.length<=1000)(hF:F.length<=1000):DD Try.prog MP3 60 57 [oS g E fb F h D,.C9 f 3 L]=some (.C9 false 138 (oZ E F L f).1):=by
 have d1:=I4 L 0 (n:=7) (by omega);have d2:=IF L 0 (n:=7) (by omega);have ha:=F7 L 0;have hp:tA (eK g E fb F h D L 0 0 (dI L 0 7) 0 ([],fI f L 0,aI L 0,true))=true:=by
  simp only[tA,Aa,Ab,AB];exact⟨⟨⟨⟨⟨⟨⟨⟨⟨⟨hE,trivial⟩,trivial⟩,hE2⟩,hF⟩,by omega⟩,by omega⟩,by omega⟩,by omega⟩,by omega⟩,by omega⟩
 rw[ahN,hp,Aj,DJ rfl,AF,A_]
def wU:List PV->Option (DT PV)
 | [.agg [.C9 _ 147 E,.C9 _ 106 F,.C9 _ 49 _,.val (.slice none 0 0)],.C9 f 3 L]=>some (.br (PY E&&decide (E.length<=1000)&&decide (F.length<=1000)) (.leaf (.C9 false 138 (oZ E F L f).1)) .no)
 |_=>none
theorem ahO:Hx.Dd Try.prog 57:=(Cy tB (n:=60) (tC false (E:=[]) false (F:=[]) false [] false [] rfl (by simp) (by simp))).1
theorem ahP(args:List PV)(d:DT PV)(r:PV)(h:wU args=some d)(hr:d.run=some r):Dr Try.prog 57 args r:=by
 unfold wU at h;split at h
 ·rename_i g E fb F h' D f L;cases h;obtain⟨h1,rfl⟩:=DN hr;simp only[Aa,Ab]at h1;exact(Cy tB (n:=60) (tC g fb h' D f L h1.1.1 h1.1.2 h1.2)).2
 ·cases h
def MG1:CY:=((((M7.RF 53 cMd).FX 53).DE 54 ky).DE 56 kF).DE 57 wU
theorem acS:CG Try.prog MG1.env:=((((IP.RF eMd oMd).FX 53).DE acy acz).DE acO acP).DE ahO ahP
abbrev ahQ:List PV:=[.val (.string ⟨#[102,105,101,108,100]⟩),.val (.string ⟨#[119,111,111,100]⟩),.val (.string ⟨#[108,97,107,101]⟩)]
abbrev ahR:List PV:=[.val (.string ⟨#[]⟩),.val (.string ⟨#[]⟩),.val (.string ⟨#[]⟩),.val (.string ⟨#[77,111,111,114]⟩),.val (.string ⟨#[72,111,108,109]⟩),.val (.string ⟨#[78,111,114,116,104,32,77,111,111,114]⟩)]
abbrev fE(fs:List PV)(k:Int):PV:=fs.getD (0+k.toNat) .any
abbrev fcE(c0:Int)(s1 s2:ByteArray)(c3 c4:Int):PV:=.agg [iv c0,.val (.string s1),.val (.string s2),iv c3,iv c4]
abbrev kJ(fs:List PV)(k:Int)(s:ByteArray):List PV:=fs.set (0+k.toNat) (fcE ((fE fs k).cellAt 0).DL s ((fE fs k).cellAt 2).GU ((fE fs k).cellAt 3).DL ((fE fs k).cellAt 4).DL)
abbrev o6(fs:List PV)(k:Int)(s:ByteArray):List PV:=fs.set (0+k.toNat) (fcE ((fE fs k).cellAt 0).DL ((fE fs k).cellAt 1).GU s ((fE fs k).cellAt 3).DL ((fE fs k).cellAt 4).DL)
abbrev wV(fs:List PV)(k:Int)(x:Int):List PV:=fs.set (0+k.toNat) (fcE ((fE fs k).cellAt 0).DL ((fE fs k).cellAt 1).GU ((fE fs k).cellAt 2).GU x ((fE fs k).cellAt 4).DL)
abbrev acT(fs:List PV)(k:Int)(x:Int):List PV:=fs.set (0+k.toNat) (fcE ((fE fs k).cellAt 0).DL ((fE fs k).cellAt 1).GU ((fE fs k).cellAt 2).GU ((fE fs k).cellAt 3).DL x)
abbrev kK(L:List PV)(a:Int):ByteArray:=((ahQ.getD (0+(dI L (a1 L a 0) 3).toNat) .any).cellAt 0).GU
abbrev o7(L:List PV)(a:Int):ByteArray:=((ahR.getD (0+(dI L (a1 L a 1) 6).toNat) .any).cellAt 0).GU
abbrev wW(L:List PV)(a:Int):Int:=W (1+dI L (a1 L a 2) 60)
abbrev acU(L:List PV)(a:Int):Int:=W (1+Int.tmod (W (dI L (a1 L a 3) 4*dI L (a1 L a 4) 2)) 3)
def Y0(fs:List PV)(p:Nat){α:Type}(x:Option α):Option α:=HM fs p (HM fs p (bif ((((fs.length==p)&&true)&&true)&&true) then x else none))
theorem VH{fs:List PV}{p:Nat}{α:Type}{x:Option α}(h:fs.length=p):Y0 fs p x=x:=by
 unfold Y0;rw[DJ h,DJ h,h,AS];rfl
def O6:S1:=⟨75,[(0,.C9 38),(2,.ptr 0 1 0 0),(3,.ptr 1 1 0 0),(4,.ptr 4 1 0 0),(5,Dk)],[.GJ 73 4 (.agg [.nil,.nil,.nil,.nil]),.GJ 73 4 (.agg [.sl 2,.sl 3,.nil,.nil]),.many 147 4,.many 106 5,.one 103 2 (.agg [.C9 3,Dk])]⟩
abbrev tD(u:Bool)(ls:List PV)(k:Int)(n l p q:Nat)(nl:Bool)(es:List PV)(v:Bool)(fs:List PV)(g:Bool)(L:List PV)(a:Int):LS:=([.l u ls,.i k],[.n n,.n l,.n p,.n q,.l nl es,.l v fs,.l g L,.i a])
abbrev xMk(u:Bool)(ls:List PV)(n l p q:Nat)(nl:Bool)(es:List PV)(v:Bool)(fs:List PV)(g:Bool)(L:List PV)(a:Int):PX×List PV×List Row:=
 (.exit 0,tm 75 [(0,.C9 u 38 ls),(2,.ptr 0 1 0 0),(3,.ptr 1 1 0 0)],(O6.put (tD u ls 0 n l p q nl es v fs g L a)).2)
theorem qMk(u:Bool)(ls:List PV)(k:Int)(n l p q:Nat)(nl:Bool)(es:List PV)(v:Bool)(fs:List PV)(g:Bool)(L:List PV)(a:Int):
 Db Try.prog MG1 60 31 (Dg Try.f31 5) [0,2,3,4,5] [0,2,3] (O6.put (tD u ls k n l p q nl es v fs g L a)).1 (O6.put (tD u ls k n l p q nl es v fs g L a)).2 =
 bif decide (k<(q:Int)) then Sa fs p q k (bif E3 (a1 L a 0) 3 then bif VD L (a1 L a 0) 3 then Y0 fs p (
  bif E3 (a1 L a 1) 6 then bif VD L (a1 L a 1) 6 then Y0 (kJ fs k (kK L a)) p (
  bif E3 (a1 L a 2) 60 then Y0 (o6 (kJ fs k (kK L a)) k (o7 L a)) p (
  bif E3 (a1 L a 3) 4 then bif E3 (a1 L a 4) 2 then Y0 (wV (o6 (kJ fs k (kK L a)) k (o7 L a)) k (wW L a)) p (
   some (.normal,O6.put (tD u ls (W (k+1)) n l p q nl es v (acT (wV (o6 (kJ fs k (kK L a)) k (o7 L a)) k (wW L a)) k (acU L a)) (f1 g L a 5) L (a1 L a 5)))) else none else none) else none) else none else none) else none else none)
 else some (xMk u ls n l p q nl es v fs g L a):=by kernel_rfl
abbrev FS:=List PV×Bool×Int
def fcT(fs:List PV)(k:Int)(L:List PV)(a:Int):List PV:=acT (wV (o6 (kJ fs k (kK L a)) k (o7 L a)) k (wW L a)) k (acU L a)
theorem VI(fs:List PV)(k:Int)(L:List PV)(a:Int):(fcT fs k L a).length=fs.length:=by
 unfold fcT;simp only[Bi]
def tE(L:List PV):Nat->Int->FS->FS
 |0,_,s=>s
 |m+1,k,s=>tE L m (k+1) (fcT s.1 k L s.2.2,f1 s.2.1 L s.2.2 5,a1 L s.2.2 5)
theorem cE(L:List PV):∀(m:Nat) (k:Int) (s:FS),(tE L m k s).1.length=s.1.length
 |0,_,_=>rfl
 |m+1,k,s=>by
  simp only[tE];rw[cE L m];exact VI _ _ _ _
def tF:LS->Bool
 |([.l _ _,.i k],[.n _,.n _,.n p,.n q,.l _ _,.l _ fs,.l _ _,.i a])=>decide (p=fs.length)&&decide (q=fs.length)&&decide (0<=k)&&decide (k<=(fs.length:Int))&&decide (fs.length<=1000)&&decide (0<=a)&&decide (a<=5*k)
 |_=>false
def fMk:LS->DT (PX×List PV×List Row)
 |([.l u ls,.i k],[.n n,.n l,.n p,.n q,.l nl es,.l v fs,.l g L,.i a])=>
  .leaf (xMk u ls n l p q nl es v (tE L ((fs.length:Int)-k).toNat k (fs,g,a)).1 (tE L ((fs.length:Int)-k).toNat k (fs,g,a)).2.1 L (tE L ((fs.length:Int)-k).toNat k (fs,g,a)).2.2)
 |_=>.no
def mMk:LS->Nat
 |([.l _ _,.i k],[.n _,.n _,.n _,.n q,.l _ _,.l _ _,.l _ _,.i _])=>((q:Int)-k).toNat
 |_=>0
theorem sMk:∀ s r,tF s=true->(fMk s).run=some r->r.1≠.normal/\(Db Try.prog MG1 60 31 (Dg Try.f31 5) [0,2,3,4,5] [0,2,3] (O6.put s).1 (O6.put s).2=some r \/
   ∃ s',Db Try.prog MG1 60 31 (Dg Try.f31 5) [0,2,3,4,5] [0,2,3] (O6.put s).1 (O6.put s).2=some (.normal,O6.put s')/\tF s'=true/\mMk s'<mMk s/\(fMk s').run=some r):=by
 intro t r hp hr;unfold tF at hp;split at hp
 ·rename_i u ls k n l p q nl es v fs g L a;simp only[Aa,Ab]at hp;obtain⟨⟨⟨⟨⟨⟨rfl,rfl⟩,h1⟩,h2⟩,h3⟩,h4⟩,h5⟩:=hp;have hr':=(Ah hr).symm;refine⟨by rw[hr'];simp,?_⟩;rw[show O6.put ([.l u ls,.i k],[.n n,.n l,.n fs.length,.n fs.length,.l nl es,.l v fs,.l g L,.i a])=O6.put (tD u ls k n l fs.length fs.length nl es v fs g L a) from rfl,qMk];by_cases hi:k<(fs.length:Int)
  ·obtain⟨j,hj⟩:∃ j,((fs.length:Int)-k).toNat=j+1:=⟨((fs.length:Int)-k).toNat-1,by omega⟩;have hj2:((fs.length:Int)-(k+1)).toNat=j:=by omega
   have ok:∀(i:Nat) (n:Int),i<=8->0<n->n<=100->E3 (a1 L a i) n=true:=fun i n hk hn hn2=>by
    have:=Hu L a i;unfold E3;simp;omega
   have ind:∀(i:Nat) (n:Int),0<n->VD L (a1 L a i) n=true:=fun i n hn=>by
    rw[Aa];exact⟨Ac (I4 _ _ hn),Ac (IF _ _ hn)⟩
   have ha:=Hu L a 5;rw[Ac hi,Aj,FC rfl h1 hi,ok 0 3 (by omega) (by omega) (by omega),ind 0 3 (by omega),Aj,Aj,VH rfl,ok 1 6 (by omega) (by omega) (by omega),ind 1 6 (by omega),Aj,Aj,
    VH (by simp only[Bi]),ok 2 60 (by omega) (by omega) (by omega),Aj,VH (by simp only[Bi]),ok 3 4 (by omega) (by omega) (by omega),ok 4 2 (by omega) (by omega) (by omega),Aj,Aj,VH (by simp only[Bi]),Dx (n:=k+1) (by omega) (by omega)]
   refine .inr ⟨tD u ls (k+1) n l fs.length fs.length nl es v (fcT fs k L a) (f1 g L a 5) L (a1 L a 5),rfl,?_,by simp only[mMk];omega,?_⟩
   ·simp only[tF,Aa,Ab,VI];exact⟨⟨⟨⟨⟨⟨trivial,trivial⟩,by omega⟩,by omega⟩,h3⟩,by omega⟩,by omega⟩
   ·rw[hr',hj];simp only[fMk,VI,hj2,DT.run,tE]
  ·have hz:((fs.length:Int)-k).toNat=0:=by omega
   rw[Ai hi];exact .inl (by rw[hr',hz];rfl)
 ·cases hp
def MG2:CY:=MG1.Dl 31 5 [0,2,3,4,5] [true,true,false,false,true] O6 tF fMk
theorem acV:CG Try.prog MG2.env:=
 acS.Dl (n:=60) Try.func31 (show Try.f31.body=some (DY Try.f31) by kernel_rfl) (show(loops (DY Try.f31)).filter (fun b=>Ew b==5)=[Dg Try.f31 5] by kernel_rfl) [0,2,3,4,5] [0,2,3] [true,true,false,false,true] O6 mMk sMk
def MG3:CY:=(MG2.FF 31 12 2).Iz 31 12 [4,5,6,7,8,9,10,11,12,13,14,15,16,17,18,19,20,21,22,23,24,25,26,27,28,29,30,31,32,33,34,35,36,37,38,39,40,41,42,43,44,45,46,47,48,49,50,51,52,53,54,55,56,57,58,59,60,61,62,63,64]
theorem kL:CG Try.prog MG3.env:=(acV.FF 31 12 2).Iz 31 12 [4,5,6,7,8,9,10,11,12,13,14,15,16,17,18,19,20,21,22,23,24,25,26,27,28,29,30,31,32,33,34,35,36,37,38,39,40,41,42,43,44,45,46,47,48,49,50,51,52,53,54,55,56,57,58,59,60,61,62,63,64]
abbrev Z2(ls:List PV):Int:=if (3:Int)<(ls.length:Int) then 3 else (ls.length:Int)
abbrev KA(ls:List PV):List PV:=(ls.take ((some (Z2 ls)).getD (ls.length:Int)).toNat).drop ((none:Option Int).getD 0).toNat
abbrev mkF(ls:List PV):List PV:=(tE (nth ls 3) (((Ge (KA ls)).2.length:Int)-0).toNat 0 ((Ge (KA ls)).2,false,0)).1
abbrev mkE'(ls:List PV):List PV:=((Gx (KA ls)).drop 0).take (Gx (KA ls)).length
abbrev mkF'(ls:List PV):List PV:=((mkF ls).drop 0).take (Ge (KA ls)).2.length
theorem ahT(f:Bool)(ls:List PV):DD Try.prog MG3 60 31 [.C9 f 38 ls] =
 bif true&&decide (0<=Z2 ls)&&decide (Z2 ls<=(ls.length:Int)) then bif decide ((KA ls).length<=3) then
 bif tF (tD f ls 0 (Gx (KA ls)).length (Gx (KA ls)).length (Ge (KA ls)).2.length (Ge (KA ls)).2.length (kr (KA ls)) (Gx (KA ls)) (Ge (KA ls)).1 (Ge (KA ls)).2 false (nth ls 3) 0) then
 bif ((((Gx (KA ls)).length==(Gx (KA ls)).length)&&(((mkF ls).length==(Ge (KA ls)).2.length)&&true))&&true)&&true then
 bif PY (mkE' ls)&&decide ((mkE' ls).length<=1000)&&decide ((mkF' ls).length<=1000) then
  some (.agg [.C9 false 147 (mkE' ls),.C9 false 106 (mkF' ls),.C9 false 49 (O5 false (nth ls 4)),.C9 false 138 (oZ (mkE' ls) (mkF' ls) (nth ls 5) false).1]) else none else none else none else none else none:=by kernel_rfl
theorem wX{es:List PV}(h:Me es):PY es=true:=by
 unfold PY;rw[Ao];intro e he;obtain⟨id,f,ps,lf,rt,rfl,hp⟩:=h e he;exact Ac (show ps.length<=1000 by omega)
def acW(ls:List PV):PV:=.agg [.C9 false 147 (mkE' ls),.C9 false 106 (mkF' ls),.C9 false 49 (O5 false (nth ls 4)),.C9 false 138 (oZ (mkE' ls) (mkF' ls) (nth ls 5) false).1]
theorem kM(f:Bool)(ls:List PV):DD Try.prog MG3 60 31 [.C9 f 38 ls]=some (acW ls):=by
 obtain⟨hl,he⟩:=ZV (nth (KA ls) 0) (nth (KA ls) 1) (nth (KA ls) 2);change (Gx (KA ls)).length<=21 at hl
 change Me (Gx (KA ls)) at he
 have hF:(Ge (KA ls)).2.length<=42:=by
  have h1:=ct (Gx (KA ls));have h2:=cr (Gx (KA ls));change (Ge (KA ls)).2.length=_ at h1
  omega
 have hF':(mkF ls).length=(Ge (KA ls)).2.length:=cE _ _ _ _;have hm:0<=Z2 ls/\Z2 ls<=(ls.length:Int)/\Z2 ls<=3:=by
  show 0<=(if (3:Int)<(ls.length:Int) then 3 else (ls.length:Int))/\(if (3:Int)<(ls.length:Int) then 3 else (ls.length:Int))<=(ls.length:Int)/\(if (3:Int)<(ls.length:Int) then 3 else (ls.length:Int))<=3
  split <;> omega
 have h3:(KA ls).length<=3:=by
  show((ls.take (Z2 ls).toNat).drop 0).length<=3
  rw[AF,Az];omega
 have p5:tF (tD f ls 0 (Gx (KA ls)).length (Gx (KA ls)).length (Ge (KA ls)).2.length (Ge (KA ls)).2.length (kr (KA ls)) (Gx (KA ls)) (Ge (KA ls)).1 (Ge (KA ls)).2 false (nth ls 3) 0)=true:=by
  simp only[tF,Aa,Ab];exact⟨⟨⟨⟨⟨⟨trivial,trivial⟩,by omega⟩,by omega⟩,by omega⟩,by omega⟩,by omega⟩
 have hE:mkE' ls=Gx (KA ls):=by
  show((Gx (KA ls)).drop 0).take _=_
  rw[AF,A_]
 have p6:PY (mkE' ls)=true:=by rw[hE];exact wX he
 have p7:(mkE' ls).length<=1000:=by rw[hE];omega
 have p8:(mkF' ls).length<=1000:=by
  show(((mkF ls).drop 0).take _).length<=1000
  rw[Az];omega
 rw[ahT,Ac hm.1,Ac hm.2.1,Ac h3,p5,p6,Ac p7,Ac p8,hF',AS,AS];rfl
def wY:List PV->Option (DT PV)
 | [.C9 _ 38 ls]=>some (.br true (.leaf (acW ls)) .no)
 |_=>none
theorem acX:Hx.Dd Try.prog 31:=(Cy kL (n:=60) (kM false [])).1
theorem ahU(args:List PV)(d:DT PV)(r:PV)(h:wY args=some d)(hr:d.run=some r):Dr Try.prog 31 args r:=by
 unfold wY at h;split at h
 ·rename_i f ls;cases h;obtain⟨_,rfl⟩:=DN hr;exact(Cy kL (n:=60) (kM f ls)).2
 ·cases h
def Sm(x:Int):Prop:=0<=x/\x<=400
theorem Lu{i:Int}(h0:0<=i)(h1:i<=4):Sm (HZ i):=by
 show 0<=W (55+W (80*i))/\W (55+W (80*i))<=400
 rw[Dx (n:=80*i) (by omega) (by omega),Dx (by omega) (by omega)];omega
theorem Lv{i:Int}(h0:0<=i)(h1:i<=4):Sm (H5 i):=by
 show 0<=W (65+W (70*i))/\W (65+W (70*i))<=400
 rw[Dx (n:=70*i) (by omega) (by omega),Dx (by omega) (by omega)];omega
def MX(es:List PV):Prop:=∀ k e,es[k]? = some e->∃ ax ay bx b' lv L a,e=oV ax ay bx b' lv k L a/\Sm ax/\Sm ay/\Sm bx/\Sm b'
theorem kO{ax ay bx b' lv:Int}{L:List PV}{s:EV}(h:MX s.1)(h1:Sm ax)(h2:Sm ay)(h3:Sm bx)(h4:Sm b'):MX (Uq ax ay bx b' lv L s).1:=by
 intro k e he;have he:(s.1++[oV ax ay bx b' lv s.1.length L s.2.2.1])[k]? = some e:=he;rw[AO]at he;split at he
 ·exact h k e he
 ·rename_i hk;have hk2:k=s.1.length:=by
   have:=(Ad.1 he).1;simp at this;omega
  subst hk2;rw[Dm]at he;cases he;exact⟨_,_,_,_,_,_,_,rfl,h1,h2,h3,h4⟩
theorem tG{L:List PV}{x0 y0 x1 y1:Int}{s:EV}(h:MX s.1)(h1:Sm x0)(h2:Sm y0)(h3:Sm x1)(h4:Sm y1):MX (VF L x0 y0 x1 y1 s).1:=by
 unfold VF;cases dI L s.2.2.1 2==0
 ·exact h
 ·exact kO (s:=Od L s) h h1 h2 h3 h4
theorem tH{L:List PV}{j:Int}(j0:0<=j)(j1:j<=4):∀{m:Nat} {i:Int} {s:EV},0<=i->i+m<=4->MX s.1->MX (eI L j m i s).1
 |0,_,_,_,_,h=>h
 |m+1,i,s,h0,h1,h=>by
  have:((m+1:Nat):Int)=(m:Int)+1:=by simp
  exact tH j0 j1 (m:=m) (by omega) (by omega) (tG h (Lu h0 (by omega)) (Lv j0 j1) (Lu (by omega) (by omega)) (Lv j0 j1))
theorem tI{L:List PV}:∀{m:Nat} {j:Int} {s:EV},0<=j->j+m<=4->MX s.1->MX (eJ L m j s).1
 |0,_,_,_,_,h=>h
 |m+1,j,s,h0,h1,h=>by
  have:((m+1:Nat):Int)=(m:Int)+1:=by simp
  exact tI (m:=m) (by omega) (by omega) (tH h0 (by omega) (BG 0) (by decide) h)
theorem tJ{L:List PV}:∀{m:Nat} {i:Int} {s:EV},0<=i->i+m<=4->MX s.1->MX (Z0 L m i s).1
 |0,_,_,_,_,h=>h
 |m+1,i,s,h0,h1,h=>by
  have:((m+1:Nat):Int)=(m:Int)+1:=by simp
  simp only[Z0];cases decide ((s.1.length:Int)<5)
  ·exact h
  ·exact tJ (m:=m) (by omega) (by omega) (tG h (Lu h0 (by omega)) (Lv (by omega) (by omega)) (Lu h0 (by omega)) (Lv (by omega) (by omega)))
theorem acY{L:List PV}{s:EV}(h:MX s.1):MX (Z1 L s).1:=by
 have d1:=I4 L (aI L s.2.2.1) (n:=2) (by omega);have d2:=IF L (aI L s.2.2.1) (n:=2) (by omega);unfold Z1;cases dI L s.2.2.1 3==0
 ·exact h
 ·refine kO (s:=Od L (Od L s)) h (Lu (by omega) (by omega)) (Lv (by omega) (by omega)) ?_ (Lv (by omega) (by omega));rw[Dx (n:=2+dI L (aI L s.2.2.1) 2) (by omega) (by omega)];exact Lu (by omega) (by omega)
theorem acZ{L:List PV}{s:EV}(h:MX s.1):MX (oY L s).1:=by
 unfold oY;cases dI L s.2.2.1 4==0
 ·exact h
 ·exact kO (s:=Od L s) h (Lu (by omega) (by omega)) (Lv (by omega) (by omega)) (Lu (by omega) (by omega)) (Lv (by omega) (by omega))
theorem wZ(f:Bool)(L:List PV):MX (O5 f L):=acZ (acY (tJ (BG 0) (by decide) (tI (BG 0) (by decide) (fun k e h=>by simp at h))))
theorem X5(f:Bool)(L:List PV):(O5 f L).length<=12:=by
 obtain⟨_,_,_,a4,_,_⟩:=tz L f;obtain⟨_,b2,_,_⟩:=kB L (Oe L f);have h2:(oY L (Z1 L (Oe L f))).1.length<=(Z1 L (Oe L f)).1.length+1:=by
  unfold oY;cases dI L (Z1 L (Oe L f)).2.2.1 4==0
  ·exact CD _
  ·rw[Aj,QR];exact Al _
 show(oY L (Z1 L (Oe L f))).1.length<=12
 omega
theorem kP(ax ay bx b' lv:Int)(k:Nat)(L:List PV)(a:Int):wL (oV ax ay bx b' lv k L a)=SU ax ay bx b' L a++[F0 bx b']:=rfl
theorem w0(ax ay bx b' lv:Int)(k:Nat)(L:List PV)(a:Int):2<=(wL (oV ax ay bx b' lv k L a)).length/\(wL (oV ax ay bx b' lv k L a)).length<=4:=by
 have:=ZY L a;rw[kP,Ap,Oc];simp only[As,AB];omega
theorem X6{f:Bool}{L:List PV}{e:PV}(h:e∈O5 f L):∃ ax ay bx b' lv k N a,e=oV ax ay bx b' lv k N a/\Sm ax/\Sm ay/\Sm bx/\Sm b':=by
 obtain⟨k,hk,rfl⟩:=List.getElem_of_mem h;obtain⟨ax,ay,bx,b',lv,N,a,h2⟩:=wZ f L k _ (Ae hk);exact⟨ax,ay,bx,b',lv,k,N,a,h2⟩
theorem Kn{f:Bool}{L:List PV}{e:PV}(h:e∈O5 f L):2<=(wL e).length/\(wL e).length<=4:=by
 obtain⟨ax,ay,bx,b',lv,k,N,a,rfl,_⟩:=X6 h;exact w0 ax ay bx b' lv k N a
theorem o8(f:Bool)(L:List PV):Ho (O5 f L):=⟨by have:=X5 f L;omega,fun e h=>by have:=Kn h;omega⟩
theorem eM(f:Bool)(L:List PV):Ed Ev (O5 f L):=fun e h=>by
 obtain⟨ax,ay,bx,b',lv,k,N,a,rfl,_⟩:=X6 h;rfl
def L0:CY:=x5.DE 31 wY
theorem ac0:CG Try.prog L0.env:=rM.DE acX ahU
theorem ahV(x y:Int):DD Try.prog L0 60 29 [iv x,iv y]=some (DV x y 0):=by kernel_rfl
def w7:List PV->Option PV | [.val (.int .i64 x),.val (.int .i64 y)]=>some (DV x y 0) |_=>none
theorem ahW(args:List PV)(r:PV)(h:w7 args=some r):Hx.Dd Try.prog 29/\Dr Try.prog 29 args r:=by
 unfold w7 at h;split at h
 ·rename_i x y;cases h;exact Cy ac0 (n:=60) (ahV x y)
 ·cases h
def L1:CY:=L0.EJ 29 w7
theorem ac1:CG Try.prog L1.env:=ac0.EJ ahW
abbrev exW(i x y z a l:Int)(s:Bool):PV:=Li i false [F0 x y,F0 z a] l .empty .empty s 0 0
abbrev Mh:List PV:=[exW 1 0 0 30 0 0 false,exW 2 30 0 30 40 0 false,exW 3 0 0 30 40 0 true,exW 4 30 40 60 40 0 false,exW 5 0 0 60 40 1 false]
theorem qEx:tK Try.prog L1 60 28 []=some (.C9 false 49 Mh):=by kernel_rfl
def cEx:List PV->Option PV | []=>some (.C9 false 49 Mh) |_=>none
theorem oEx(args:List PV)(r:PV)(h:cEx args=some r):Hx.Dd Try.prog 28/\Dr Try.prog 28 args r:=by
 unfold cEx at h;split at h
 ·cases h;exact X7 ac1 (n:=60) qEx
 ·cases h
def L2:CY:=L1.EJ 28 cEx
theorem Z4:CG Try.prog L2.env:=ac1.EJ oEx
abbrev kQ(fl:Bool)(x y z:Int):Option Ky:=FN Mh fl (0,0,0) (x,y,z)
theorem qPx(x y z c:Int)(fl g:Bool)(ids:List PV):DD Try.prog L2 60 30 [DV x y z,bv fl,iv c,.C9 g 3 ids] =
 bif dB (Ho Mh)&&E1 Ev Mh then
 bif decide (c<0) then bif !(kQ fl x y z).isSome then bif oC (kQ fl x y z)==0 then some (bv ((((oI (kQ fl x y z)).map iv).length:Int)==0)) else some (bv false) else some (bv false)
 else bif (kQ fl x y z).isSome then bif oC (kQ fl x y z)==c then bif decide (((oI (kQ fl x y z)).map iv).length<=1000000) then some (bv (decide (Dn ((oI (kQ fl x y z)).map iv)=Dn ids))) else none else some (bv false) else some (bv false)
 else none:=by kernel_rfl
theorem X8:Ho Mh:=⟨by decide,fun e he=>by
 simp only[AK,B8,Cu]at he;rcases he with rfl |rfl |rfl |rfl |rfl <;> decide⟩
theorem cF:Ed Ev Mh:=fun e he=>by
 simp only[AK,B8,Cu]at he;rcases he with rfl |rfl |rfl |rfl |rfl <;> rfl
theorem X9:EO Mh (0,0,0):=⟨_,AJ ..,by decide,.inl rfl⟩
theorem w8:EO Mh (30,0,0):=⟨_,AJ ..,by decide,.inr rfl⟩
theorem exF:Hy Mh false (0,0,0)=[((0,0,0),0,[]),((30,0,0),30,[1]),((30,40,0),50,[3]),((60,40,0),80,[3,4])]:=(II X9).trans (by kernel_rfl)
theorem exT:Hy Mh true (0,0,0)=[((0,0,0),0,[]),((30,0,0),30,[1]),((30,40,0),70,[1,2]),((60,40,0),100,[1,2,4])]:=(II X9).trans (by kernel_rfl)
theorem exG:Hy Mh false (30,0,0)=[((30,0,0),0,[]),((0,0,0),30,[1]),((30,40,0),40,[2]),((60,40,0),70,[2,4])]:=(II w8).trans (by kernel_rfl)
theorem tL{x y z:Int}(h:∀ k,((x,y,z),k)∉Hy Mh false (0,0,0)):kQ false x y z=none:=by
 cases hk:kQ false x y z with
 |none=>rfl
 |some k=>exact absurd ((Ig X8).2 hk) (h k)
theorem VJ:(dB (Ho Mh)&&E1 Ev Mh)=true:=by rw[Dy.2 X8,Ea.2 cF];rfl
theorem VK{x y z c:Int}{fl g:Bool}{l:List Int}(h:kQ fl x y z=some (c,l))(hc:0<=c)(hl:l.length<=1000000):DD Try.prog L2 60 30 [DV x y z,bv fl,iv c,.C9 g 3 (l.map iv)]=some (bv true):=by
 rw[qPx,VJ,h,Ai (show ¬c<0 by omega)];simp only[Cg,oC,oI,AS,Aj,Ar,AP,Ac hl,CT]
theorem cG{x y z:Int}{g:Bool}(h:kQ false x y z=none):DD Try.prog L2 60 30 [DV x y z,bv false,iv (-1),.C9 g 3 []]=some (bv true):=by
 rw[qPx,VJ,h];rfl
inductive eN:List PV->Prop
 |a {g:Bool}:eN [DV 60 40 0,bv false,iv 80,.C9 g 3 [iv 3,iv 4]]
 |b {g:Bool}:eN [DV 60 40 0,bv true,iv 100,.C9 g 3 [iv 1,iv 2,iv 4]]
 |c {g:Bool}:eN [DV 0 0 0,bv false,iv 0,.C9 g 3 []]
 |d {g:Bool}:eN [DV 1 1 0,bv false,iv (-1),.C9 g 3 []]
 |e {g:Bool}:eN [DV 60 40 1,bv false,iv (-1),.C9 g 3 []]
theorem O7{args:List PV}(h:eN args):DD Try.prog L2 60 30 args=some (bv true):=by
 cases h with
 |a=>exact VK (l:=[3,4]) ((Ig X8).1 (by rw[exF];simp)) (by decide) (by decide)
 |b=>exact VK (l:=[1,2,4]) ((Ig X8).1 (by rw[exT];simp)) (by decide) (by decide)
 |c=>exact VK (l:=[]) ((Ig X8).1 (by rw[exF];simp)) (by decide) (by decide)
 |d=>exact cG (tL fun k=>by rw[exF];simp)
 |e=>exact cG (tL fun k=>by rw[exF];simp)
theorem ePx:Hx.Dd Try.prog 30:=(Cy Z4 (n:=60) (O7 (.a (g:=false)))).1
theorem MY{P:Program}{k:FuncId}{t:TypeId}{ags:List PV}{r:PV}(h:Dr P k (ags++[.C9 false t []]) r):Dr P k (ags++[.val (.slice none 0 0)]) r:=by
 intro C hR Vs hs;refine h C hR Vs ⟨by rw[hs.1];simp,fun j c v g1 g2=>?_⟩;rw[AO]at g1;split at g1
 ·rename_i hj;exact hs.2 j c v (by rw[AO,Ak hj];exact g1) g2
 ·rename_i hj;have hj2:j-ags.length=0:=by
   have:=(Ad.1 g1).1;simp at this;omega
  rw[hj2]at g1;cases g1;have:=hs.2 j _ v (by rw[AO,Aq hj,hj2];rfl) g2;cases this;exact .C9 0 0 (fun _ _=>undef) (by simp) (fun hf=>by cases hf) (fun h0=>by simp at h0) (fun x e j p hx=>by simp at hx) (fun x e j p hx=>by simp at hx) (fun e he=>by simp at he)
def cPx:List PV->Option PV
 | [.agg [.val (.int .i64 x),.val (.int .i64 y),.val (.int .i64 z)],.val (.bool fl),.val (.int .i64 c),.C9 _ 3 [.val (.int .i64 a),.val (.int .i64 b)]]=>match x==60&&y==40&&z==0 && !fl&&c==80&&a==3&&b==4 with |true=>some (bv true) |false=>none
 | [.agg [.val (.int .i64 x),.val (.int .i64 y),.val (.int .i64 z)],.val (.bool fl),.val (.int .i64 c),.C9 _ 3 [.val (.int .i64 a),.val (.int .i64 b),.val (.int .i64 d)]]=>match x==60&&y==40&&z==0&&fl&&c==100&&a==1&&b==2&&d==4 with |true=>some (bv true) |false=>none
 | [.agg [.val (.int .i64 x),.val (.int .i64 y),.val (.int .i64 z)],.val (.bool fl),.val (.int .i64 c),.val (.slice none 0 0)]=>
  match !fl&&((x==0&&y==0&&z==0&&c==0)||(x==1&&y==1&&z==0&&c == -1)||(x==60&&y==40&&z==1&&c == -1)) with |true=>some (bv true) |false=>none
 |_=>none
theorem oPx(args:List PV)(r:PV)(h:cPx args=some r):Hx.Dd Try.prog 30/\Dr Try.prog 30 args r:=by
 refine⟨ePx,?_⟩;unfold cPx at h;split at h
 ·split at h
  ·rename_i hc;cases h;simp only[Aa,Ay,Am]at hc;obtain⟨⟨⟨⟨⟨⟨rfl,rfl⟩,rfl⟩,rfl⟩,rfl⟩,rfl⟩,rfl⟩:=hc;exact(Cy Z4 (n:=60) (O7 .a)).2
  ·cases h
 ·split at h
  ·rename_i hc;cases h;simp only[Aa,Ay]at hc;obtain⟨⟨⟨⟨⟨⟨⟨rfl,rfl⟩,rfl⟩,rfl⟩,rfl⟩,rfl⟩,rfl⟩,rfl⟩:=hc;exact(Cy Z4 (n:=60) (O7 .b)).2
  ·cases h
 ·split at h
  ·rename_i hc;cases h;simp only[Aa,A2,Ay,Am]at hc;obtain⟨rfl,(⟨⟨⟨rfl,rfl⟩,rfl⟩,rfl⟩ |⟨⟨⟨rfl,rfl⟩,rfl⟩,rfl⟩) |⟨⟨⟨rfl,rfl⟩,rfl⟩,rfl⟩⟩:=hc
   ·exact MY (ags:=[_,_,_]) (Cy Z4 (n:=60) (O7 (.c (g:=false)))).2
   ·exact MY (ags:=[_,_,_]) (Cy Z4 (n:=60) (O7 (.d (g:=false)))).2
   ·exact MY (ags:=[_,_,_]) (Cy Z4 (n:=60) (O7 (.e (g:=false)))).2
  ·cases h
 ·cases h
def L3:CY:=L2.EJ 30 cPx
theorem ac3:CG Try.prog L3.env:=Z4.EJ oPx
abbrev Hj(fl:Bool)(ids:List Int):Int×Bool:=ew Mh fl (0,0,0) (30,40,0) ids
abbrev yj:List (PV×PV):=(Hy Mh false (30,0,0)).map Kl
abbrev yk(x y:Int):Int:=((Fu (iv 0) yj (DV x y 0)).cellAt 0).DL
theorem ahZ:DD Try.prog L3 60 8 [] =
 bif decide (5<=1000)&&E1 Ev Mh&&Jz Mh then bif decide (5<=1000)&&E1 Ev Mh&&Jz Mh then
 bif dB (Ho Mh)&&E1 Ev Mh&&decide (2<=100000) then bif dB (Ho Mh)&&E1 Ev Mh&&decide (2<=100000) then bif dB (Ho Mh)&&E1 Ev Mh&&decide (1<=100000) then
 bif dB (Ho Mh)&&E1 Ev Mh then
 bif (Hj false [1,2]).2 then bif (Hj false [1,2]).1==70 then bif !(Hj false [2,1]).2 then bif !(Hj true [3]).2 then bif (yj.length:Int)==4 then bif yk 0 0==30 then bif yk 30 40==40 then some (bv (yk 60 40==70))
 else some (bv false) else some (bv false) else some (bv false) else some (bv false) else some (bv false) else some (bv false) else some (bv false)
 else none else none else none else none else none else none:=by kernel_rfl
theorem VL:yj=([((30,0,0),0,[]),((0,0,0),30,[1]),((30,40,0),40,[2]),((60,40,0),70,[2,4])]:List Rc).map Kl:=by show(Hy Mh false (30,0,0)).map Kl=_;rw[exG]
theorem ah0:Hj false [1,2]=(70,true):=(Ak X9).trans (by kernel_rfl)
theorem ah1:Hj false [2,1]=(0,false):=(Ak X9).trans (by kernel_rfl)
theorem ah2:Hj true [3]=(0,false):=(Ak X9).trans (by kernel_rfl)
theorem w9:Jz Mh=true:=by kernel_rfl
theorem ac4:DD Try.prog L3 60 8 []=some (bv true):=by
 have h1:(decide (5<=1000)&&E1 Ev Mh&&Jz Mh)=true:=by rw[Ea.2 cF,w9];rfl
 have h2:yk 0 0=30:=by show((Fu (iv 0) yj (DV 0 0 0)).cellAt 0).DL=30;rw[VL];kernel_rfl
 have h3:yk 30 40=40:=by show((Fu (iv 0) yj (DV 30 40 0)).cellAt 0).DL=40;rw[VL];kernel_rfl
 have h4:yk 60 40=70:=by show((Fu (iv 0) yj (DV 60 40 0)).cellAt 0).DL=70;rw[VL];kernel_rfl
 rw[ahZ,h1,VJ,ah0,ah1,ah2,h2,h3,h4,VL];rfl
def xb:List PV->Option PV | []=>some (bv true) |_=>none
theorem ah3(args:List PV)(r:PV)(h:xb args=some r):Hx.Dd Try.prog 8/\Dr Try.prog 8 args r:=by
 unfold xb at h;split at h
 ·cases h;exact Cy ac3 (n:=60) ac4
 ·cases h
def L4:CY:=L3.EJ 8 xb
theorem ah4:CG Try.prog L4.env:=ac3.EJ ah3
def ac5(ls:List PV):{y:List PV // y=O5 false (nth ls 4)}:=Classical.choice ⟨⟨_,rfl⟩⟩
abbrev JP(ls:List PV):List PV:=(ac5 ls).1
theorem SV(ls:List PV):JP ls=O5 false (nth ls 4):=(ac5 ls).2
def kR:List PV->Option (DT PV)
 | [.C9 _ 38 ls]=>some (.br true (.leaf (.agg [.C9 false 147 (mkE' ls),.C9 false 106 (mkF' ls),.C9 false 49 (JP ls),.C9 false 138 (oZ (mkE' ls) (mkF' ls) (nth ls 5) false).1])) .no)
 |_=>none
theorem ac6(args:List PV)(d:DT PV)(r:PV)(h:kR args=some d)(hr:d.run=some r):Dr Try.prog 31 args r:=by
 unfold kR at h;split at h
 ·rename_i f ls;cases h;obtain⟨_,rfl⟩:=DN hr;rw[SV];exact(Cy kL (n:=60) (kM f ls)).2
 ·cases h
def L5:CY:=(L4.DE 20 nr).DE 31 kR
theorem xc:CG Try.prog L5.env:=(ah4.DE zJ zK).DE acX ac6
theorem VM{ls:List PV}{e:PV}(h:e∈JP ls):e∈O5 false (nth ls 4):=by rw[<- SV];exact h
theorem VN(ls:List PV):Ho (JP ls):=by rw[SV];exact o8 _ _
theorem SW(ls:List PV):Ed Ev (JP ls):=by rw[SV];exact eM _ _
theorem VO(ls:List PV):(JP ls).length<=12:=by rw[SV];exact X5 ..
abbrev Nb(ls:List PV):List PV:=Eb (JP ls) []
def tM(ls:List PV)(n:Int):{t:T3 // t=if (Nb ls).length=0 then (0,0,0) else DA ((Nb ls).getD (n % ((Nb ls).length:Int)).toNat .any)}:=Classical.choice ⟨⟨_,rfl⟩⟩
abbrev Z5(ls:List PV)(n:Int):T3:=(tM ls n).1
theorem QS(ls:List PV)(n:Int):Z5 ls n=if (Nb ls).length=0 then (0,0,0) else DA ((Nb ls).getD (n % ((Nb ls).length:Int)).toNat .any):=(tM ls n).2
def tN(ls:List PV):{b:Bool // b = !((Nb ls).length==0)}:=Classical.choice ⟨⟨_,rfl⟩⟩
abbrev kS(ls:List PV):Bool:=(tN ls).1
theorem VP(ls:List PV):kS ls = !((Nb ls).length==0):=(tN ls).2
abbrev yl(g:Bool)(ls:List PV)(p q r fr tt:Int)(fl:Bool):PV:=.agg [.C9 g 38 ls,iv p,iv q,iv r,iv fr,iv tt,bv fl]
abbrev ym(n:Int)(m:Nat):Bool:=decide (0<=n % (m:Int))&&decide (n % (m:Int)<(m:Int))
abbrev gtM(m:Nat):Bool:=decide (0<(m:Int))&&decide ((m:Int)<=4611686018427387904)
abbrev yn(ls:List PV)(n:Int):PV:=(Nb ls).getD (n % ((Nb ls).length:Int)).toNat .any
theorem ac8(g:Bool)(ls:List PV)(p q r fr tt:Int)(fl:Bool):DD Try.prog L5 60 9 [yl g ls p q r fr tt fl] =
 bif decide ((JP ls).length<=1000)&&Jz (JP ls) then bif ((Nb ls).length:Int)==0 then some (.El [.val (.slice none 0 0),DV 0 0 0,DV 0 0 0,bv false]) else
 bif gtM (Nb ls).length then bif ym fr (Nb ls).length then bif gtM (Nb ls).length then bif ym tt (Nb ls).length then
  some (.El [.C9 false 49 (JP ls),DV (gX (yn ls fr)) (gY (yn ls fr)) (gL (yn ls fr)),DV (gX (yn ls tt)) (gY (yn ls tt)) (gL (yn ls tt)),bv true])
 else none else none else none else none else none:=by kernel_rfl
theorem Z6{P:Program}{k:FuncId}{args:List PV}{t:TypeId}{p q r:PV}(h:Dr P k args (.El [.val (.slice none 0 0),p,q,r])):Dr P k args (.El [.C9 false t [],p,q,r]):=by
 intro C hR Vs hs;refine(h C hR Vs hs).mono ?_
 rintro e w' ⟨V,h1,h2,h3⟩
 refine⟨V,h1,h2,?_⟩;cases h3 with
 |El hs h=>
  refine .El hs fun j c v g1 g2=>?_
  match j with
  |0=>
   cases g1;have h4:=h 0 _ v rfl g2;cases h4;exact .C9 0 0 (fun _ _=>undef) (by simp) (fun hf=>by cases hf) (fun h0=>by simp at h0) (fun x e j p hx=>by simp at hx) (fun x e j p hx=>by simp at hx) (fun e he=>by simp at he)
  |j+1=>exact h (j+1) c v g1 g2
theorem cH{ls:List PV}(h:(Nb ls).length=0):JP ls=[]:=by
 cases hw:JP ls with
 |nil=>rfl
 |cons e w=>
  have he:e∈JP ls:=by rw[hw];exact AJ ..
  have hl:=Kn (VM he);have:DA (eF e)∈(Nb ls).map DA:=Gs.2 ⟨e,he,by omega,.inl rfl⟩;have h0:Nb ls=[]:=List.length_eq_zero_iff.1 h;rw[h0]at this;cases this
theorem tO(g:Bool)(ls:List PV)(p q r fr tt:Int)(fl:Bool):Hx.Dd Try.prog 9/\Dr Try.prog 9 [yl g ls p q r fr tt fl] (.El [.C9 false 49 (JP ls),Hz (Z5 ls fr),Hz (Z5 ls tt),bv (kS ls)]):=by
 have h1:=(VN ls).Jz;have h2:=VO ls;have h3:=Su (JP ls) [];have hq:=ac8 g ls p q r fr tt fl;rw[Ac (show(JP ls).length<=1000 by omega),h1]at hq;by_cases h0:(Nb ls).length=0
 ·rw[show(((Nb ls).length:Int)==0)=true by simp[h0]]at hq;simp only[Bg,Aj]at hq;obtain⟨q1,q2⟩:=Cy xc hq;refine⟨q1,?_⟩;rw[cH h0,QS,QS,VP,Ak h0,Ak h0,show(!((Nb ls).length==0))=false by simp[h0]];exact Z6 q2
 ·have g0:(0:Int)<((Nb ls).length:Int):=by omega
  have g1:gtM (Nb ls).length=true:=by
   have h6:(Nb ls).length<=24:=Bc h3 (by show 0+2*(JP ls).length<=24;omega);show(decide (0<((Nb ls).length:Int))&&decide (((Nb ls).length:Int)<=4611686018427387904))=true
   rw[Ac g0,Ac (by omega)];rfl
  have g2:∀ n:Int,ym n (Nb ls).length=true:=fun n=>by
   have a1:=Cm n (show((Nb ls).length:Int)≠0 by omega);have a2:=B9 n g0;simp only[ym,Aa,Ab];exact⟨a1,a2⟩
  rw[show(((Nb ls).length:Int)==0)=false from AR.2 (by omega),g1,g2,g2]at hq;simp only[Bg,Aj,Ar]at hq;obtain⟨q1,q2⟩:=Cy xc hq;refine⟨q1,?_⟩;rw[QS,QS,VP,Aq h0,Aq h0,show(!((Nb ls).length==0))=true by simp[h0]];exact q2
def kT:List PV->Option (DT PV)
 | [.agg [.C9 _ 38 ls,.val (.int .i64 _),.val (.int .i64 _),.val (.int .i64 _),.val (.int .i64 fr),.val (.int .i64 tt),.val (.bool _)]]=>some (.br true (.leaf (.El [.C9 false 49 (JP ls),Hz (Z5 ls fr),Hz (Z5 ls tt),bv (kS ls)])) .no)
 |_=>none
theorem eMade':Hx.Dd Try.prog 9:=(tO false [] 0 0 0 0 0 false).1
theorem oMade'(args:List PV)(d:DT PV)(r:PV)(h:kT args=some d)(hr:d.run=some r):Dr Try.prog 9 args r:=by
 unfold kT at h;split at h
 ·rename_i g ls p q r0 fr tt fl;cases h;obtain⟨_,rfl⟩:=DN hr;exact(tO g ls p q r0 fr tt fl).2
 ·cases h
def L6:CY:=L5.DE 9 kT
theorem o9:CG Try.prog L6.env:=xc.DE eMade' oMade'
abbrev ac9:Y1:=.one 25 7 (.agg [.C9 38,Dk,Dk,Dk,Dk,Dk,.bool])
abbrev ah5:Y1:=.one 28 2 (.agg [Dk,Dk])
abbrev kV:Y1:=.one 30 3 aS
theorem eO{ws:List PV}{fl:Bool}{s t:T3}{k:Ky}:FN ws fl s t=some k ↔ EO ws s/\Kv (gE fl ws) s t k:=by
 by_cases hs:EO ws s
 ·rw[JJ hs,EK];simp[hs]
 ·rw[Ie hs];simp[hs]
abbrev pc(ws:List PV):Bool:=dB (Ho ws)&&E1 Ev ws
abbrev idL(o:Option Ky):List PV:=(oI o).map iv
theorem cJ{ws:List PV}(h:Ho ws)(hN:Ed Ev ws):pc ws=true:=by
 show(dB (Ho ws)&&E1 Ev ws)=true
 rw[Dy.2 h,Ea.2 hN];rfl
theorem kW{ws:List PV}(h:Ho ws){fl:Bool}{s t:T3}{k:Ky}(hk:FN ws fl s t=some k):k.2.length<=1000:=by
 have hs:=(eO.1 hk).1;have hc:=(Ig h).2 hk;rw[II hs]at hc;have hD:=Hm (Lr s (Hw (fl:=fl) h)) (AJ (a:=s) ..);have h1:=(hD.bD _ hc).1;have h2:=hD.cap;have h3:=Vm (Df (Dc fl) ws);have h4:=ED (d:=Dc fl) ws;have h5:=h.Tp;have h6:(ZL (Df (Dc fl) ws) s).length=1+(gU (Df (Dc fl) ws)).length:=by simp[Nat.add_comm]
 simp only at h1;omega
theorem pd{ws:List PV}(h:Ho ws)(fl:Bool)(s t:T3):(idL (FN ws fl s t)).length<=1000:=by
 cases hk:FN ws fl s t with
 |none=>exact AT _
 |some k=>rw[AP];exact kW h hk
abbrev SX(ws:List PV):Nat:=0+ws.length
abbrev ff(ws:List PV):List PV:=[]++ws
abbrev kZ(ws:List PV)(q:Int):Nat:=0+(q % ((SX ws:Nat):Int)).toNat
abbrev Of(ws:List PV)(q:Int):PV:=(ff ws).getD (kZ ws q) .any
abbrev Us(ws:List PV):Bool:=(ff ws).length==SX ws
abbrev odQ(p q r:Int):Row:={ es:=[.agg [iv p,iv q,iv r]],s:=3,t:=23,bv:=true }
abbrev odR(b:Bool)(es:List PV):Row:={ es,s:=8,t:=49,bv:=b }
def yo(ws:List PV)(H:List Row)(es:List PV):Option PV:=
 bif es.length==SX ws then bif eQ Try.prog 49 H ((es.drop 0).take (SX ws)) then some (.C9 false 49 (((es.drop 0).take (SX ws)).map (Qs Try.prog 49 H))) else none else none
abbrev tP(x:PV)(i L lv st:PV):PV:=.agg [i,L,lv,.val (.string (x.cellAt 3).GU),.val (.string (x.cellAt 4).GU),st,iv (x.cellAt 6).DL,iv (x.cellAt 7).DL]
abbrev odL(x:PV):PV:=.C9 false 28 (wL x)
def xd(p q r:Int)(ws:List PV)(b:Bool)(e:PV):Option PV:=
 bif Us ws then bif true&&Us ws then bif (((true&&Us ws)&&true)&&true)&&true then yo ws [odQ p q r,odR b ((ff ws).set (kZ ws q) e)] ((ff ws).set (kZ ws q) e) else none else none else none
abbrev odP(x:PV):PV:=F0 (ptX (wL x) 0) (ptY (wL x) 0)
abbrev yp(x:PV):Nat:=0+(wL x).length+1
def od5(p q r:Int)(ws:List PV)(x:PV):Option PV:=
 bif Us ws then bif true&&Us ws then bif Us ws then bif true&&decide ((0+(wL x).length)*16<=140737488355328) then bif Us ws then bif true&&Us ws then bif Us ws then bif true&&decide (0<((wL x).length:Int)) then
 bif ((true&&decide (([]++wL x).length=0+(wL x).length))&&decide (0+(wL x).length=0+(wL x).length))&&decide (yp x*16<=140737488355328) then
 bif Us ws then bif true&&Us ws then bif (((true&&Us ws)&&true)&&true)&&true then
  yo ws [odQ p q r,odR false ((ff ws).set (kZ ws q) (tP x (iv (wI x)) (.sl 2 (yp x) 0 (yp x)) (iv (Mw x)) (bv (Jv x)))),{ es:=([]++wL x)++[odP x],s:=2,t:=28,bv:=true },{ es:=[odP x],s:=2,t:=28,bv:=true }] ((ff ws).set (kZ ws q) (tP x (iv (wI x)) (.sl 2 (yp x) 0 (yp x)) (iv (Mw x)) (bv (Jv x))))
 else none else none else none else none else none else none else none else none else none else none else none else none
theorem ah7(f:Bool)(ws:List PV)(p q r:Int):kY Try.prog L6 60 11 [.C9 f 49 ws,.agg [iv p,iv q,iv r]] =
 bif true&&decide (SX ws*96<=140737488355328) then bif ((SX ws:Nat):Int)==0 then yo ws [odQ p q r,odR true (ff ws)] (ff ws) else
 bif gtM (SX ws) then bif (true&&Us ws)&&true then bif ym q (SX ws) then
 bif p % 6==0 then xd p q r ws false (tP (Of ws q) (iv (wI (Of ws q))) (.val (.slice none 0 0)) (iv (Mw (Of ws q))) (bv (Jv (Of ws q)))) else
 bif p % 6==1 then xd p q r ws true (tP (Of ws q) (iv (W (41+r % 6))) (odL (Of ws q)) (iv (Mw (Of ws q))) (bv (Jv (Of ws q)))) else
 bif p % 6==2 then bif Us ws then bif true&&Us ws then bif Us ws then xd p q r ws true (tP (Of ws q) (iv (wI (Of ws q))) (odL (Of ws q)) (iv (Mw (Of ws q))) (bv (!Jv (Of ws q)))) else none else none else none else
 bif p % 6==3 then bif Us ws then bif true&&Us ws then bif Us ws then bif true&&decide (1<=((wL (Of ws q)).length:Int)) then xd p q r ws true (tP (Of ws q) (iv (wI (Of ws q))) (.C9 false 28 (((wL (Of ws q)).take ((some (1:Int)).getD ((wL (Of ws q)).length:Int)).toNat).drop ((none:Option Int).getD 0).toNat)) (iv (Mw (Of ws q))) (bv (Jv (Of ws q)))) else none else none else none else none else
 bif p % 6==4 then xd p q r ws true (tP (Of ws q) (iv (wI (Of ws q))) (odL (Of ws q)) (iv (W (r % 3-1))) (bv (Jv (Of ws q)))) else
 bif p % 6==5 then od5 p q r ws (Of ws q) else yo ws [odQ p q r,odR true (ff ws)] (ff ws)
 else none else none else none else none:=by kernel_rfl
abbrev yq(x:PV)(i:Int)(L:List PV)(lv:Int)(st:Bool):PV:=tP x (iv i) (.C9 false 28 L) (iv lv) (bv st)
def Ya(p r:Int)(x:PV):PV:=
 bif p % 6==0 then yq x (wI x) [] (Mw x) (Jv x) else bif p % 6==1 then yq x (41+r % 6) (wL x) (Mw x) (Jv x) else bif p % 6==2 then yq x (wI x) (wL x) (Mw x) (!Jv x) else
 bif p % 6==3 then yq x (wI x) ((wL x).take 1) (Mw x) (Jv x) else bif p % 6==4 then yq x (wI x) (wL x) (r % 3-1) (Jv x) else yq x (wI x) (wL x++[odP x]) (Mw x) (Jv x)
def Tt(p q r:Int)(ws:List PV):List PV:=bif ws.length==0 then [] else ws.set (kZ ws q) (Ya p r (Of ws q))
structure k8(ws:List PV):Prop where
 ok:Ho ws
 norm:Ed Ev ws
 ne:∀ e∈ws,(wL e).length≠0
def Yb(H:List Row)(e e':PV):Prop:=((e.cells.all fun c=>mlt 0 (frz H 0 c))&&wt Try.prog 49 (Qs Try.prog 49 H e))=true/\Qs Try.prog 49 H e=e'
theorem O8(H:List Row)(i:Int)(f:Bool)(L:List PV)(lv:Int)(cs nm:ByteArray)(st:Bool)(wt' ds:Int):Yb H (Li i f L lv cs nm st wt' ds) (Li i false L lv cs nm st wt' ds):=⟨by kernel_rfl,by kernel_rfl⟩
theorem xe(H:List Row)(i:Int)(lv:Int)(cs nm:ByteArray)(st:Bool)(wt' ds:Int):Yb H (.agg [iv i,.val (.slice none 0 0),iv lv,.val (.string cs),.val (.string nm),bv st,iv wt',iv ds]) (Li i false [] lv cs nm st wt' ds):=⟨by kernel_rfl,by kernel_rfl⟩
theorem cK{H:List Row}{e:PV}(h:Ev e=e):Yb H e e:=by
 have:=O8 H (wI e) false (wL e) (Mw e) (e.cellAt 3).GU (e.cellAt 4).GU (Jv e) (e.cellAt 6).DL (e.cellAt 7).DL;change Yb H (Ev e) (Ev e) at this
 rw[h]at this;exact this
theorem k9{ws:List PV}{H:List Row}{k:Nat}{y y':PV}(hN:Ed Ev ws)(hy:Yb H y y'):yo ws H ((ff ws).set k y)=some (.C9 false 49 (ws.set k y')):=by
 have e0:ff ws=ws:=A9 ws;have e1:(((ws.set k y).drop 0).take (SX ws))=ws.set k y:=by
  rw[AF,A7 (by rw[Bi];show _<=0+ws.length;omega)]
 have h1:∀ e∈ws.set k y,∃ e',Yb H e e':=fun e he=>by
  rcases Bw he with he |rfl
  ·exact⟨e,cK (hN e he)⟩
  ·exact⟨y',hy⟩
 have h2:eQ Try.prog 49 H (ws.set k y)=true:=by
  unfold eQ;rw[Ao];intro e he;obtain⟨e',h3,_⟩:=h1 e he;exact h3
 have h3:(ws.set k y).map (Qs Try.prog 49 H)=ws.set k y':=by
  rw[List.map_set,hy.2];congr 1
  exact(Bm fun e he=>(cK (hN e he)).2).trans (List.map_id' ws)
 unfold yo;rw[e0,e1,h2,h3,Bi,show(ws.length==SX ws)=true by simp];rfl
theorem Z9(ws:List PV):Us ws=true:=by
 show(([]++ws).length==0+ws.length)=true
 rw[A9,AM,AS]
theorem SY{ws:List PV}{p q r:Int}{b:Bool}{e e':PV}(hN:Ed Ev ws)(he:∀ H,Yb H e e'):xd p q r ws b e=some (.C9 false 49 (ws.set (kZ ws q) e')):=by
 unfold xd;rw[Z9,k9 hN (he _)];rfl
theorem xf{H:List Row}{i m:Nat}{es:List PV}(h:Hx.rowAt H i=some { es,s:=2,t:=28,bv:=true })(hm:es.length=m)(id lv:Int)(cs nm:ByteArray)(st:Bool)(wt' ds:Int):
  Yb H (.agg [iv id,.sl i m 0 m,iv lv,.val (.string cs),.val (.string nm),bv st,iv wt',iv ds]) (Li id false es lv cs nm st wt' ds):=by
 have hf:frz H 0 (.sl i m 0 m)=.C9 false 28 es:=by
  unfold frz;rw[Ak (AT _),h];dsimp only;rw[Ak (by simp[hm]),AF,A7 (by omega)]
 have hE:MG H 0 (.agg [iv id,.sl i m 0 m,iv lv,.val (.string cs),.val (.string nm),bv st,iv wt',iv ds])=Li id false es lv cs nm st wt' ds:=by
  show PV.agg [frz H 0 (iv id),frz H 0 (.sl i m 0 m),frz H 0 (iv lv),frz H 0 (.val (.string cs)),frz H 0 (.val (.string nm)),frz H 0 (bv st),frz H 0 (iv wt'),frz H 0 (iv ds)]=_
  rw[hf];rfl
 have h0:=O8 H id false es lv cs nm st wt' ds;have h1:Qs Try.prog 49 H (.agg [iv id,.sl i m 0 m,iv lv,.val (.string cs),.val (.string nm),bv st,iv wt',iv ds])=Li id false es lv cs nm st wt' ds:=by
  unfold Qs;rw[hE];exact h0.2
 refine⟨?_,h1⟩;rw[h1];have h2:wt Try.prog 49 (Li id false es lv cs nm st wt' ds)=true:=by kernel_rfl
 rw[h2,Bq];show(mlt 0 (frz H 0 (iv id))&&(mlt 0 (frz H 0 (.sl i m 0 m))&&(mlt 0 (frz H 0 (iv lv))&&(mlt 0 (frz H 0 (.val (.string cs)))&&(mlt 0 (frz H 0 (.val (.string nm)))&&(mlt 0 (frz H 0 (bv st))&&(mlt 0 (frz H 0 (iv wt'))&&(mlt 0 (frz H 0 (iv ds))&&true))))))))=true
 rw[hf];rfl
theorem cL{ws:List PV}{q:Int}(h0:ws.length≠0):Of ws q∈ws/\kZ ws q<ws.length:=by
 have hc:((SX ws:Nat):Int)=(ws.length:Int):=by show((0+ws.length:Nat):Int)=_;omega
 have a1:=Cm q (show(ws.length:Int)≠0 by omega);have a2:=B9 q (show(0:Int)<(ws.length:Int) by omega);have hk:kZ ws q<ws.length:=by
  show 0+(q % ((SX ws:Nat):Int)).toNat<_
  rw[hc];omega
 refine⟨?_,hk⟩;show([]++ws).getD (kZ ws q) .any∈ws
 rw[A9,Av,Ae hk];exact By _
theorem tQ(f:Bool){ws:List PV}(p q r:Int)(h:k8 ws):kY Try.prog L6 60 11 [.C9 f 49 ws,.agg [iv p,iv q,iv r]]=some (.C9 false 49 (Tt p q r ws)):=by
 have hf:=h.ok.Tp;rw[ah7,Ac (show SX ws*96<=140737488355328 by show(0+ws.length)*96<=_;omega)];by_cases h0:ws.length=0
 ·have:ws=[]:=List.length_eq_zero_iff.1 h0;subst this;rfl
 ·obtain⟨hx,hk⟩:=cL (q:=q) h0;have hl:=h.ok.wl _ hx;have hne:=h.ne _ hx;have hc:((SX ws:Nat):Int)=(ws.length:Int):=by show((0+ws.length:Nat):Int)=_;omega
  have a1:=Cm q (show(ws.length:Int)≠0 by omega);have a2:=B9 q (show(0:Int)<(ws.length:Int) by omega);have g1:gtM (SX ws)=true:=by
   show(decide (0<((SX ws:Nat):Int))&&decide (((SX ws:Nat):Int)<=4611686018427387904))=true
   rw[hc,Ac (by omega),Ac (by omega)];rfl
  have g2:ym q (SX ws)=true:=by
   show(decide (0<=q % ((SX ws:Nat):Int))&&decide (q % ((SX ws:Nat):Int)<((SX ws:Nat):Int)))=true
   rw[hc,Ac a1,Ac a2];rfl
  have r6:=Cm r (show(6:Int)≠0 by decide);have r6':=B9 r (show(0:Int)<6 by decide);have r3:=Cm r (show(3:Int)≠0 by decide);have r3':=B9 r (show(0:Int)<3 by decide);have p6:=Cm p (show(6:Int)≠0 by decide);have p6':=B9 p (show(0:Int)<6 by decide);have hset:Tt p q r ws=ws.set (kZ ws q) (Ya p r (Of ws q)):=by
   unfold Tt;rw[show(ws.length==0)=false by simp[h0]];rfl
  rw[hset,Z9,g1,g2,show(((SX ws:Nat):Int)==0)=false from AR.2 (by rw[hc];omega)];simp only[Bg,Aj,Ar];unfold Ya;generalize Of ws q=x at hx hl hne;cases c0:p % 6==0 with
  |true=>exact SY h.norm fun H=>xe H _ _ _ _ _ _ _
  |false=>
  simp only[Ar];cases c1:p % 6==1 with
  |true=>rw[Dx (n:=41+r % 6) (by omega) (by omega)];exact SY h.norm fun H=>O8 H _ _ _ _ _ _ _ _ _
  |false=>
  simp only[Ar];cases c2:p % 6==2 with
  |true=>exact SY h.norm fun H=>O8 H _ _ _ _ _ _ _ _ _
  |false=>
  simp only[Ar];cases c3:p % 6==3 with
  |true=>
   simp only[Aj];rw[Ac (show 1<=((wL x).length:Int) by omega)];exact SY h.norm fun H=>O8 H _ _ _ _ _ _ _ _ _
  |false=>
  simp only[Ar];cases c4:p % 6==4 with
  |true=>rw[Dx (n:=r % 3-1) (by omega) (by omega)];exact SY h.norm fun H=>O8 H _ _ _ _ _ _ _ _ _
  |false=>
  simp only[Ar];have h5:(p % 6==5)=true:=by
   rw[AR]at c0 c1 c2 c3 c4;rw[Ay];omega
  rw[h5,Aj];unfold od5;rw[Z9,A9,Ac (show(0+(wL x).length)*16<=140737488355328 by omega),Ac (show 0<((wL x).length:Int) by omega),Ac (show(wL x).length=0+(wL x).length by omega),
   Ac (show 0+(wL x).length=0+(wL x).length from rfl),Ac (show yp x*16<=140737488355328 by show(0+(wL x).length+1)*16<=_;omega)]
  simp only[Bg,Aj];exact k9 h.norm (xf rfl (by rw[Ap,BW];show _=0+(wL x).length+1;omega) _ _ _ _ _ _ _)
def pj:List PV->Option (DT PV)
 | [.C9 _ 49 ws,.agg [.val (.int .i64 p),.val (.int .i64 q),.val (.int .i64 r)]]=>some (.br (dB (k8 ws)) (.leaf (.C9 false 49 (Tt p q r ws))) .no)
 |_=>none
theorem od0:k8 []:=⟨ZK,Vp,fun e h=>by cases h⟩
theorem ah8:Hx.Dd Try.prog 11:=(PZ o9 (n:=60) (tQ false 0 0 0 od0)).1
theorem ah9(args:List PV)(d:DT PV)(r:PV)(h:pj args=some d)(hr:d.run=some r):Dr Try.prog 11 args r:=by
 unfold pj at h;split at h
 ·rename_i f ws p q r0;cases h;obtain⟨h1,rfl⟩:=DN hr;exact(PZ o9 (n:=60) (tQ f p q r0 (Dy.1 h1))).2
 ·cases h
theorem cM{p r:Int}{x:PV}:(wL (Ya p r x)).length<=(wL x).length+1/\Ev (Ya p r x)=Ya p r x:=by
 unfold Ya;cases p % 6==0 with
 |true=>exact⟨AT _,rfl⟩
 |false=>
 cases p % 6==1 with
 |true=>exact⟨CD _,rfl⟩
 |false=>
 cases p % 6==2 with
 |true=>exact⟨CD _,rfl⟩
 |false=>
 cases p % 6==3 with
 |true=>exact⟨by show((wL x).take 1).length<=_;rw[Az];omega,rfl⟩
 |false=>
 cases p % 6==4 with
 |true=>exact⟨CD _,rfl⟩
 |false=>exact⟨by show(wL x++[odP x]).length<=_;rw[Ap,BW];exact Al _,rfl⟩
theorem cN{p q r:Int}{ws:List PV}{e:PV}(h:e∈Tt p q r ws):e∈ws\/∃ x∈ws,e=Ya p r x:=by
 unfold Tt at h;cases h0:ws.length==0 with
 |true=>rw[h0]at h;cases h
 |false=>
  rw[h0,Ar]at h;have h1:ws.length≠0:=by simpa using h0
  rcases Bw h with h |rfl
  ·exact .inl h
  ·exact .inr ⟨_,(cL h1).1,rfl⟩
theorem xg{p q r:Int}{ls:List PV}:Ho (Tt p q r (JP ls))/\Ed Ev (Tt p q r (JP ls)):=by
 refine⟨⟨?_,fun e he=>?_⟩,fun e he=>?_⟩
 ·have h12:=VO ls;unfold Tt;cases(JP ls).length==0
  ·rw[Ar,Bi];omega
  ·exact AT _
 ·rcases cN he with h |⟨x,hx,rfl⟩
  ·exact(VN ls).wl e h
  ·have:=(cM (p:=p) (r:=r) (x:=x)).1;have:=Kn (VM hx);omega
 ·rcases cN he with h |⟨x,hx,rfl⟩
  ·exact SW ls e h
  ·exact cM.2
theorem adb(ls:List PV):k8 (JP ls):=⟨VN ls,SW ls,fun e he=>by have:=Kn (VM he);omega⟩
def C0:CY:=(((L6.DE 11 pj).DE 13 SO).DE 22 Vr).DE 24 cRE
def C1:CY:=C0.F4 4 6 [(12,3,1)]
def ade:S1:=⟨164,[(2,.C9 3),(3,.ptr 0 1 0 0),(4,.ptr 1 1 0 0),(7,.bool),(8,.C9 49),(9,.ptr 2 1 0 0),(10,.ptr 3 1 0 0),(12,.sl 4),(45,.C9 3),(46,Dk),(47,Dk)],[ac9,ah5,kV,kV,.many 3 1]⟩
abbrev lCa(f1:Bool)(ids:List PV)(hd f:Bool)(ws:List PV)(n m:Nat)(f2:Bool)(us:List PV)(len i:Int)(g:Bool)(ls:List PV)(p0 p1 p2 p3 p4:Int)(fl:Bool)(px py x0 y0 l0 x1 y1 l1:Int)(nl:Bool)(es:List PV):LS:=([.l f1 ids,.b hd,.l f ws,.n n,.n m,.l f2 us,.i len,.i i],[.l g ls,.i p0,.i p1,.i p2,.i p3,.i p4,.b fl,.i px,.i py,.i x0,.i y0,.i l0,.i x1,.i y1,.i l1,.l nl es])
abbrev xCa(f1:Bool)(ids:List PV)(hd f:Bool)(ws:List PV)(n m:Nat)(g:Bool)(ls:List PV)(p0 p1 p2 p3 p4:Int)(fl:Bool)(px py x0 y0 l0 x1 y1 l1:Int)(nl:Bool)(es:List PV):PX×List PV×List Row:=(.exit 0,tm 164 [(2,.C9 f1 3 ids),(3,.ptr 0 1 0 0),(4,.ptr 1 1 0 0),(7,bv hd),(8,.C9 f 49 ws),(9,.ptr 2 1 0 0),(10,.ptr 3 1 0 0),(12,.sl 4 n 0 m)],(ade.put (lCa f1 ids hd f ws n m false [] 0 0 g ls p0 p1 p2 p3 p4 fl px py x0 y0 l0 x1 y1 l1 nl es)).2)
def mkId(e:PV):PV:=iv (W (41+(e.cellAt 0).DL % 6))
def pCa:LS->Bool
 |([.l _ _,.b _,.l _ _,.n n,.n m,.l _ us,.i len,.i i],.l _ _::.i _::.i _::.i _::.i _::.i _::.b _::.i _::.i _::.i _::.i _::.i _::.i _::.i _::.i _::.l _ es::[])=>dB (n=es.length/\m=n/\len=(us.length:Int)/\0<=i/\i<=len/\us.length<=1000/\es.length<=1000+i.toNat)
 |_=>false
def fCa:LS->DT (PX×List PV×List Row)
 |([.l f1 ids,.b hd,.l f ws,.n _,.n _,.l _ us,.i _,.i i],.l g ls::.i p0::.i p1::.i p2::.i p3::.i p4::.b fl::.i px::.i py::.i x0::.i y0::.i l0::.i x1::.i y1::.i l1::.l nl es::[])=>
  .leaf (xCa f1 ids hd f ws (es++(us.drop i.toNat).map mkId).length (es++(us.drop i.toNat).map mkId).length g ls p0 p1 p2 p3 p4 fl px py x0 y0 l0 x1 y1 l1 (nl&&(us.drop i.toNat).isEmpty) (es++(us.drop i.toNat).map mkId))
 |_=>.no
def C2:CY:=C1.Dl 4 6 [2,3,4,7,8,9,10,12,45,46,47] [true,true,true,true,false] ade pCa fCa
def C3:CY:=C2.FF 4 10 4
abbrev xh:Option PV:=some (bv false)
def K0:CY:=L6.F4 10 3 [(3,49,8)]
theorem aia:CG Try.prog K0.env:=o9.F4 10 3 [(3,49,8)]
abbrev aa(L:List PV):Int:=if (5:Int)<(L.length:Int) then 5 else (L.length:Int)
abbrev aib(L:List PV):List PV:=(L.take ((some (aa L)).getD (L.length:Int)).toNat).drop ((none:Option Int).getD 0).toNat
abbrev Qu(e:PV):PV:=Li (wI e) false (aib (wL e)) (Mw e) (e.cellAt 3).GU (e.cellAt 4).GU (Jv e) (e.cellAt 6).DL (e.cellAt 7).DL
def Qv:S1:=⟨33,[(0,.C9 49),(3,.sl 0),(4,Dk)],[.many 49 8]⟩
abbrev xi(f:Bool)(ws:List PV)(n m:Nat)(i:Int)(nl:Bool)(es:List PV):LS:=([.l f ws,.n n,.n m,.i i],[.l nl es])
abbrev xCu(n m:Nat)(nl:Bool)(es:List PV):PX×List PV×List Row:=(.exit 0,tm 33 [(3,.sl 0 n 0 m)],[wO nl es])
theorem qCu(f:Bool)(ws:List PV)(n m:Nat)(i:Int)(nl:Bool)(es:List PV):Db Try.prog K0 60 10 (Dg Try.f10 3) [0,3,4] [3] (Qv.put (xi f ws n m i nl es)).1 (Qv.put (xi f ws n m i nl es)).2 =
 bif decide (i<(ws.length:Int)) then bif decide (i<6) then bif F8 ws i then bif (true&&decide (0<=aa (wL (aE ws i))))&&decide (aa (wL (aE ws i))<=((wL (aE ws i)).length:Int)) then
  bif true&&decide (es.length=n)&&decide (n=m)&&decide ((n+1)*96<=140737488355328) then some (.normal,Qv.put (xi f ws (n+1) (n+1) (W (i+1)) (nl&&false) (es++[Qu (aE ws i)]))) else none else none else none
 else some (xCu n m nl es) else some (xCu n m nl es):=by kernel_rfl
def tR:LS->Bool
 |([.l _ ws,.n n,.n m,.i i],[.l _ es])=>dB (n=es.length/\m=n/\0<=i/\i<=6/\i<=(ws.length:Int)/\(es.length:Int)=i)
 |_=>false
def fCu:LS->DT (PX×List PV×List Row)
 |([.l _ ws,.n _,.n _,.i i],[.l nl es])=>.leaf (xCu (es++((ws.take 6).drop i.toNat).map Qu).length (es++((ws.take 6).drop i.toNat).map Qu).length (nl&&((ws.take 6).drop i.toNat).isEmpty) (es++((ws.take 6).drop i.toNat).map Qu))
 |_=>.no
def mCu:LS->Nat
 |([.l _ _,.n _,.n _,.i i],_)=>(6-i).toNat
 |_=>0
theorem cO(L:List PV):0<=aa L/\aa L<=(L.length:Int)/\aa L<=5:=by
 show 0<=(if (5:Int)<(L.length:Int) then 5 else (L.length:Int))/\(if (5:Int)<(L.length:Int) then 5 else (L.length:Int))<=(L.length:Int)/\(if (5:Int)<(L.length:Int) then 5 else (L.length:Int))<=5
 split <;> omega
theorem sCu:∀ s r,tR s=true->(fCu s).run=some r->r.1≠.normal/\(Db Try.prog K0 60 10 (Dg Try.f10 3) [0,3,4] [3] (Qv.put s).1 (Qv.put s).2=some r \/
   ∃ s',Db Try.prog K0 60 10 (Dg Try.f10 3) [0,3,4] [3] (Qv.put s).1 (Qv.put s).2=some (.normal,Qv.put s')/\tR s'=true/\mCu s'<mCu s/\(fCu s').run=some r):=by
 intro t r hp hr;unfold tR at hp;split at hp
 ·rename_i f ws n m i nl es;rw[Dy]at hp;obtain⟨rfl,rfl,h1,h2,h3,h4⟩:=hp;have hr':=(Ah hr).symm;refine⟨by rw[hr'];simp,?_⟩;rw[show Qv.put ([.l f ws,.n es.length,.n es.length,.i i],[.l nl es])=Qv.put (xi f ws es.length es.length i nl es) from rfl,qCu];by_cases hi:i<(ws.length:Int)/\i<6
  ·obtain⟨b1,b2,b3⟩:=cO (wL (aE ws i));have hl:(es++[Qu (aE ws i)]).length=es.length+1:=by rw[Ap];rfl
   have ht:i<((ws.take 6).length:Int):=by rw[Az];omega
   have hx:(ws.take 6).getD i.toNat .any=aE ws i:=by
    show _=ws.getD i.toNat .any
    rw[Av,Av,Au,Ak (by omega)]
   rw[Ac hi.1,Ac hi.2,DW h1 hi.1,Ac b1,Ac b2,Ac (show es.length=es.length from rfl),Ac (show(es.length+1)*96<=140737488355328 by omega),Dx (n:=i+1) (by omega) (by omega)];simp only[Bg,Aj];have e1:es++((ws.take 6).drop i.toNat).map Qu=(es++[Qu (aE ws i)])++((ws.take 6).drop (i+1).toNat).map Qu:=by rw[Ds h1 ht,hx,AV,Bu];rfl
   have e2:(nl&&((ws.take 6).drop i.toNat).isEmpty)=((nl&&false)&&((ws.take 6).drop (i+1).toNat).isEmpty):=by rw[Ds h1 ht,List.isEmpty_cons,BC,Cf]
   refine .inr ⟨xi f ws (es.length+1) (es.length+1) (i+1) (nl&&false) (es++[Qu (aE ws i)]),rfl,by unfold tR;rw[Dy];exact⟨hl.symm,rfl,by omega,by omega,by omega,by rw[hl];omega⟩,by simp only[mCu];omega,?_⟩;rw[hr',e1,e2];rfl
  ·have hd:(ws.take 6).drop i.toNat=[]:=AC (by rw[Az];omega);refine .inl ?_;rw[hr',hd];show _=some (xCu (es++[]).length (es++[]).length (nl&&true) (es++[]))
   rw[BL,Bq];by_cases h5:i<(ws.length:Int)
   ·rw[Ac h5,Ai (fun h6=>hi ⟨h5,h6⟩)];rfl
   ·rw[Ai h5];rfl
 ·cases hp
def K1:CY:=K0.Dl 10 3 [0,3,4] [false] Qv tR fCu
theorem aid:CG Try.prog K1.env:=
 aia.Dl (n:=60) Try.func10 (show Try.f10.body=some (DY Try.f10) by kernel_rfl) (show(loops (DY Try.f10)).filter (fun b=>Ew b==3)=[Dg Try.f10 3] by kernel_rfl) [0,3,4] [3] [false] Qv mCu sCu
abbrev lb(ws:List PV):List PV:=[]++((ws.take 6).drop (0:Int).toNat).map Qu
theorem aie(f:Bool)(ws:List PV):DD Try.prog K1 60 10 [.C9 f 49 ws] =
 bif tR (xi f ws 0 0 0 true []) then bif (lb ws).length==(lb ws).length then some (.C9 false 49 (((lb ws).drop 0).take (lb ws).length)) else none else none:=by kernel_rfl
def JM(ws:List PV):List PV:=(ws.take 6).map Qu
theorem adf(f:Bool)(ws:List PV):DD Try.prog K1 60 10 [.C9 f 49 ws]=some (.C9 false 49 (JM ws)):=by
 have hp:tR (xi f ws 0 0 0 true [])=true:=by
  unfold tR;rw[Dy];exact⟨rfl,rfl,BG _,by decide,by omega,rfl⟩
 have e:lb ws=JM ws:=by
  show []++((ws.take 6).drop 0).map Qu=_
  rw[A9,AF];rfl
 rw[aie,hp,e,AS,AF,A_];rfl
def xj:List PV->Option PV | [.C9 _ 49 ws]=>some (.C9 false 49 (JM ws)) |_=>none
theorem aif(args:List PV)(r:PV)(h:xj args=some r):Hx.Dd Try.prog 10/\Dr Try.prog 10 args r:=by
 unfold xj at h;split at h
 ·rename_i f ws;cases h;exact Cy aid (adf f ws)
 ·cases h
theorem xk(ws:List PV):Ho (JM ws)/\Ed Ev (JM ws)/\(JM ws).length<=6:=by
 have hl:(JM ws).length<=6:=by unfold JM;rw[AP,Az];omega
 refine⟨⟨by omega,fun e he=>?_⟩,fun e he=>?_,hl⟩
 ·obtain⟨x,_,rfl⟩:=AX.1 he;obtain⟨b1,b2,b3⟩:=cO (wL x);show(((wL x).take (aa (wL x)).toNat).drop 0).length<=1000
  rw[AF,Az];omega
 ·obtain⟨x,_,rfl⟩:=AX.1 he;rfl
def D0:CY:=((((((L6.DE 11 pj).DE 13 SO).EJ 10 xj).DE 17 vW).E7 15 wb).DE 19 ZD).FX 17
theorem aih:CG Try.prog D0.env:=((((((o9.DE ah8 ah9).DE vK vL).EJ aif).DE agu agv).E7 agF agG).DE qm qn).FX 17
def D1:CY:=(((((D0.FF 3 5 4).Iz 3 5 [42,44,46]).Ee 3 18).RR 3 5 [3,5,7,8,9,10,11,47,48,49]).RR 3 8 [3,5,7,8,9,10,11,13,47,48,49,56,57,58]).RR 3 11 [3,5,7,8,9,10,11,13,15,47,48,49,56,57,58,64,65,66]
theorem aii:CG Try.prog D1.env:=(((((aih.FF 3 5 4).Iz 3 5 [42,44,46]).Ee 3 18).RR 3 5 _).RR 3 8 _).RR 3 11 _
def Og:S1:=⟨140,[(3,.ptr 0 1 0 0),(5,.ptr 1 1 0 0),(7,.bool),(8,.C9 49),(9,.ptr 2 1 0 0),(10,.ptr 3 1 0 0),(11,.bool),(47,.C9 26),(48,Dk),(49,Dk),(118,.C9 49),(119,Dk),(120,Dk)],[ac9,kV,kV,kV,.dead,.dead,.many 30 3]⟩
abbrev tS(hd f:Bool)(ws:List PV)(ok f4:Bool)(xs:List PV)(len4 i4:Int)(f2:Bool)(us:List PV)(len i:Int)(g:Bool)(ls:List PV)(p0 p1 p2 p3 p4:Int)(fl:Bool)(sx sy sl x0 y0 l0 x1 y1 l1:Int)(tl:Bool)(ts:List PV):LS:=([.b hd,.l f ws,.b ok,.l f4 xs,.i len4,.i i4,.l f2 us,.i len,.i i],[.l g ls,.i p0,.i p1,.i p2,.i p3,.i p4,.b fl,.i sx,.i sy,.i sl,.i x0,.i y0,.i l0,.i x1,.i y1,.i l1,.l tl ts])
abbrev xGl(hd f:Bool)(ws:List PV)(ok f4:Bool)(xs:List PV)(len4 i4:Int)(g:Bool)(ls:List PV)(p0 p1 p2 p3 p4:Int)(fl:Bool)(sx sy sl x0 y0 l0 x1 y1 l1:Int)(tl:Bool)(ts:List PV):PX×List PV×List Row:=(.exit 6,tm 140 [(3,.ptr 0 1 0 0),(5,.ptr 1 1 0 0),(7,bv hd),(8,.C9 f 49 ws),(9,.ptr 2 1 0 0),(10,.ptr 3 1 0 0),(11,bv ok),(47,.C9 f4 26 xs),(48,iv len4),(49,iv i4)],(Og.put (tS hd f ws ok f4 xs len4 i4 false [] 0 0 g ls p0 p1 p2 p3 p4 fl sx sy sl x0 y0 l0 x1 y1 l1 tl ts)).2)
theorem qGl(hd f:Bool)(ws:List PV)(ok f4:Bool)(xs:List PV)(len4 i4:Int)(f2:Bool)(us:List PV)(len i:Int)(g:Bool)(ls:List PV)(p0 p1 p2 p3 p4:Int)(fl:Bool)(sx sy sl x0 y0 l0 x1 y1 l1:Int)(tl:Bool)(ts:List PV):Db Try.prog D1 60 3 (Dg Try.f3 22) [3,5,7,8,9,10,11,47,48,49,118,119,120] [3,5,6,7,8,9,10,11,47,48,49] (Og.put (tS hd f ws ok f4 xs len4 i4 f2 us len i g ls p0 p1 p2 p3 p4 fl sx sy sl x0 y0 l0 x1 y1 l1 tl ts)).1 (Og.put (tS hd f ws ok f4 xs len4 i4 f2 us len i g ls p0 p1 p2 p3 p4 fl sx sy sl x0 y0 l0 x1 y1 l1 tl ts)).2 =
 bif decide (i<len) then bif F8 us i then bif decide ((wL (aE us i)).length<=100000) then bif decide ((wL (aE us i)).length<=100000) then bif Du (wL (aE us i)) != Du (wL (aE us i)) then some (.ret,tm 140 ((6,bv false)::[(3,.ptr 0 1 0 0),(5,.ptr 1 1 0 0),(7,bv hd),(8,.C9 f 49 ws),(9,.ptr 2 1 0 0),(10,.ptr 3 1 0 0),(11,bv ok),(47,.C9 f4 26 xs),(48,iv len4),(49,iv i4)]),(Og.put (tS hd f ws ok f4 xs len4 i4 false [] 0 0 g ls p0 p1 p2 p3 p4 fl sx sy sl x0 y0 l0 x1 y1 l1 tl ts)).2) else some (.normal,Og.put (tS hd f ws ok f4 xs len4 i4 f2 us len (W (i+1)) g ls p0 p1 p2 p3 p4 fl sx sy sl x0 y0 l0 x1 y1 l1 tl ts)) else none else none else none
 else some (xGl hd f ws ok f4 xs len4 i4 g ls p0 p1 p2 p3 p4 fl sx sy sl x0 y0 l0 x1 y1 l1 tl ts):=by kernel_rfl
def tT:LS->Bool
 |([.b _,.l _ _,.b _,.l _ _,.i _,.i _,.l _ us,.i len,.i i],.l _ _::.i _::.i _::.i _::.i _::.i _::.b _::.i _::.i _::.i _::.i _::.i _::.i _::.i _::.i _::.i _::.l _ _::[])=>dB (len=(us.length:Int)/\0<=i/\i<=len/\us.length<=1000/\∀ e∈us,(wL e).length<=100000)
 |_=>false
def fGl:LS->DT (PX×List PV×List Row)
 |([.b hd,.l f ws,.b ok,.l f4 xs,.i len4,.i i4,.l _ _,.i _,.i _],.l g ls::.i p0::.i p1::.i p2::.i p3::.i p4::.b fl::.i sx::.i sy::.i sl::.i x0::.i y0::.i l0::.i x1::.i y1::.i l1::.l tl ts::[])=>.leaf (xGl hd f ws ok f4 xs len4 i4 g ls p0 p1 p2 p3 p4 fl sx sy sl x0 y0 l0 x1 y1 l1 tl ts)
 |_=>.no
def mGl:LS->Nat
 |([.b _,.l _ _,.b _,.l _ _,.i _,.i _,.l _ _,.i len,.i i],_)=>(len-i).toNat
 |_=>0
theorem sGl:∀ s r,tT s=true->(fGl s).run=some r->r.1≠.normal/\(Db Try.prog D1 60 3 (Dg Try.f3 22) [3,5,7,8,9,10,11,47,48,49,118,119,120] [3,5,6,7,8,9,10,11,47,48,49] (Og.put s).1 (Og.put s).2=some r \/
   ∃ s',Db Try.prog D1 60 3 (Dg Try.f3 22) [3,5,7,8,9,10,11,47,48,49,118,119,120] [3,5,6,7,8,9,10,11,47,48,49] (Og.put s).1 (Og.put s).2=some (.normal,Og.put s')/\tT s'=true/\mGl s'<mGl s/\(fGl s').run=some r):=by
 intro t r hp hr;unfold tT at hp;split at hp
 ·rename_i hd f ws ok f4 xs len4 i4 f2 us len i g ls p0 p1 p2 p3 p4 fl sx sy sl x0 y0 l0 x1 y1 l1 tl ts;rw[Dy]at hp;obtain⟨rfl,h1,h2,h3,h4⟩:=hp;have hr':=(Ah hr).symm;refine⟨by rw[hr'];simp,?_⟩;rw[show Og.put ([.b hd,.l f ws,.b ok,.l f4 xs,.i len4,.i i4,.l f2 us,.i (us.length:Int),.i i],[.l g ls,.i p0,.i p1,.i p2,.i p3,.i p4,.b fl,.i sx,.i sy,.i sl,.i x0,.i y0,.i l0,.i x1,.i y1,.i l1,.l tl ts])=Og.put (tS hd f ws ok f4 xs len4 i4 f2 us us.length i g ls p0 p1 p2 p3 p4 fl sx sy sl x0 y0 l0 x1 y1 l1 tl ts) from rfl,qGl];by_cases hi:i<(us.length:Int)
  ·have hm:=h4 _ (Jd h1 hi);rw[Ac hi,DW h1 hi,Ac hm,show(Du (wL (aE us i)) != Du (wL (aE us i)))=false by simp,Dx (n:=i+1) (by omega) (by omega)];exact .inr ⟨tS hd f ws ok f4 xs len4 i4 f2 us us.length (i+1) g ls p0 p1 p2 p3 p4 fl sx sy sl x0 y0 l0 x1 y1 l1 tl ts,rfl,by unfold tT;rw[Dy];exact⟨rfl,by omega,by omega,h3,h4⟩,by simp only[mGl];omega,by rw[hr'];rfl⟩
  ·rw[Ai hi];exact .inl (by rw[hr'];rfl)
 ·cases hp
def D2:CY:=D1.Dl 3 22 [3,5,7,8,9,10,11,47,48,49,118,119,120] [true,true,true,true,false,false,false] Og tT fGl
theorem aik:CG Try.prog D2.env:=
 aii.Dl (n:=60) Try.func3 (show Try.f3.body=some (DY Try.f3) by kernel_rfl) (show(loops (DY Try.f3)).filter (fun b=>Ew b==22)=[Dg Try.f3 22] by kernel_rfl) [3,5,7,8,9,10,11,47,48,49,118,119,120] [3,5,6,7,8,9,10,11,47,48,49] [true,true,true,true,false,false,false] Og mGl sGl
abbrev vT(s:T3):PV:=DV s.1 s.2.1 s.2.2
abbrev rwT(s:T3):Row:=GM s.1 s.2.1 s.2.2
abbrev sRw(l:List PV):Row:={ es:=l,s:=3,t:=30,bv:=true }
def tU(X:List PV)(fl:Bool)(F T:T3)(K:Option PV):Option PV:=
 bif pc X then bif pc X then
 bif !((FN X fl F T).isSome==(FN X fl F T).isSome) then xh else bif !(oC (FN X fl F T)==oC (FN X fl F T)) then xh else
 bif decide ((idL (FN X fl F T)).length<=1000000) then bif !decide (Dn (idL (FN X fl F T))=Dn (idL (FN X fl F T))) then xh else K else none else none else none
abbrev coC(X:List PV)(fl:Bool)(F:T3):Bool:=dB (ov ((Hy X fl F).map Kl) ((N5 X fl F).map vV))
def co2(X:List PV)(fl:Bool)(F:T3)(H:List Row)(K:Option PV):Option PV:=
 bif pc X then bif GQ H H then bif dB (Ho X) then bif coC X fl F then K else none else none else none else none
def xP(X:List PV)(fl:Bool)(F T S:T3)(H:T3->List Row)(c:Bool)(K:Option PV):Option PV:=
 tU X fl F T (tU X fl F S (co2 X fl F (H F) (tU X fl T T (tU X fl T S (co2 X fl T (H T) (tU X fl S T (tU X fl S S (co2 X fl S (H S) (bif c then K else none)))))))))
abbrev nP(W R:List PV):Nat:=0+W.length+R.length
abbrev eP(W R:List PV):List PV:=([]++W)++R
abbrev yr(W R:List PV):List PV:=((eP W R).drop 0).take (nP W R)
abbrev lP(X:List PV):PV:=.agg [.C9 false 49 X]
abbrev hP(g:Bool)(ls:List PV)(p q r fr tt:Int)(fl:Bool)(F T S Y:T3):List Row:=
 [r1 25 7 (yl g ls p q r fr tt fl),rwT S,rwT F,rwT T,Dt,Dt,sRw [vT F,vT T,vT S],rwT Y,sRw [vT T,vT S]]
abbrev pcL(g:Bool)(ls:List PV)(p q r fr tt:Int)(fl ok:Bool)(F T S:T3)(W O R X:List PV)(k:Int):Bool:=
 tT (tS true false W ok false [lP W,lP O,lP R,lP (yr W R)] 4 k false X (X.length:Int) 0 g ls p q r fr tt fl S.1 S.2.1 S.2.2 F.1 F.2.1 F.2.2 T.1 T.2.1 T.2.2 false [vT F,vT T,vT S])
def qP(g:Bool)(ls:List PV)(p q r fr tt:Int)(fl ok:Bool)(F T S:T3)(W O R:List PV):Option PV:=
 bif dB (k8 W) then bif decide ((0+W.length)*96<=140737488355328) then
 bif decide (([]++W).length=0+W.length)&&decide (0+W.length=0+W.length)&&decide (nP W R*96<=140737488355328) then
 bif (((((eP W R).length==nP W R)&&true)&&true)&&true)&&true then
 xP W fl F T S (hP g ls p q r fr tt fl F T S) (pcL g ls p q r fr tt fl ok F T S W O R W 0)
 (xP O fl F T S (hP g ls p q r fr tt fl F T S) (pcL g ls p q r fr tt fl ok F T S W O R O 1)
 (xP R fl F T S (hP g ls p q r fr tt fl F T S) (pcL g ls p q r fr tt fl ok F T S W O R R 2)
 (xP (yr W R) fl F T S (hP g ls p q r fr tt fl F T S) (pcL g ls p q r fr tt fl ok F T S W O R (yr W R) 3)
 (bif ok then some (bv true) else some (bv ((W.length:Int)==0))))))
 else none else none else none else none
theorem xl(g:Bool)(ls:List PV)(p q r fr tt:Int)(fl:Bool)(h:Bool)(raw:List PV)(sx sy sl:Int):DD Try.prog D2 60 3 [yl g ls p q r fr tt fl,.C9 h 49 raw,DV sx sy sl] =
 qP g ls p q r fr tt fl (kS ls) (Z5 ls fr) (Z5 ls tt) (sx,sy,sl) (JP ls) (Tt p q r (JP ls)) (JM raw):=by kernel_rfl
theorem xm{X:List PV}{fl:Bool}{F T:T3}{K:Option PV}(h:Ho X)(hN:Ed Ev X):tU X fl F T K=K:=by
 have hb:=pd h fl F T;unfold tU;rw[cJ h hN,AS,AS,Ac (show(idL (FN X fl F T)).length<=1000000 by omega),Ac rfl];rfl
theorem ae{X:List PV}{fl:Bool}{F:T3}{H:List Row}{K:Option PV}(h:Ho X)(hN:Ed Ev X):co2 X fl F H K=K:=by
 unfold co2;rw[cJ h hN,EM,Dy.2 h,show coC X fl F=true from Dy.2 (ey h)];rfl
theorem cP{X:List PV}{fl:Bool}{F T S:T3}{H:T3->List Row}{c:Bool}{K:Option PV}(h:Ho X)(hN:Ed Ev X)(hc:c=true):xP X fl F T S H c K=K:=by
 unfold xP;rw[hc,Aj,ae h hN,ae h hN,ae h hN];simp only[xm h hN]
theorem VQ{g:Bool}{ls:List PV}{p q r fr tt:Int}{fl ok:Bool}{F T S:T3}{W O R X:List PV}{k:Int}(h:Ho X):pcL g ls p q r fr tt fl ok F T S W O R X k=true:=by
 have:=h.Tp;show tT _=true
 unfold tT;rw[Dy];exact⟨rfl,BG _,by omega,by omega,fun e he=>by have:=h.wl e he;omega⟩
theorem xn(g:Bool)(ls:List PV)(p q r fr tt:Int)(fl:Bool)(h:Bool)(raw:List PV)(sx sy sl:Int):DD Try.prog D2 60 3 [yl g ls p q r fr tt fl,.C9 h 49 raw,DV sx sy sl]=some (bv true):=by
 obtain⟨o1,o2⟩:=xg (p:=p) (q:=q) (r:=r) (ls:=ls);obtain⟨c1,c2,c3⟩:=xk raw;have w1:=VN ls;have w2:=SW ls;have w3:=VO ls;have hA:yr (JP ls) (JM raw)=JP ls++JM raw:=by
  show((([]++JP ls)++JM raw).drop 0).take (0+(JP ls).length+(JM raw).length)=_
  rw[A9,AF,AM,<- Ap,A_]
 have a1:Ho (yr (JP ls) (JM raw)):=by
  rw[hA];refine⟨by rw[Ap];omega,fun e he=>?_⟩;rcases A3.1 he with he |he
  ·exact w1.wl e he
  ·exact c1.wl e he
 have a2:Ed Ev (yr (JP ls) (JM raw)):=by
  rw[hA];intro e he;rcases A3.1 he with he |he
  ·exact w2 e he
  ·exact c2 e he
 have hn:(eP (JP ls) (JM raw)).length=nP (JP ls) (JM raw):=by
  show(([]++JP ls)++JM raw).length=0+(JP ls).length+(JM raw).length
  rw[A9,Ap,AM]
 rw[xl];unfold qP;rw[Dy.2 (adb ls),hn,AS,Ac (show(0+(JP ls).length)*96<=140737488355328 by omega),Ac (show(([]:List PV)++JP ls).length=0+(JP ls).length by simp),Ac (show 0+(JP ls).length=0+(JP ls).length from rfl),
  Ac (show(0+(JP ls).length+(JM raw).length)*96<=140737488355328 by omega)]
 simp only[Bg,Aj];rw[cP w1 w2 (VQ w1),cP o1 o2 (VQ o1),cP c1 c2 (VQ c1),cP a1 a2 (VQ a1)];cases hk:kS ls with
 |true=>rfl
 |false=>
  rw[VP]at hk;rw[cH (by simpa using hk)];rfl
theorem ail(g:Bool)(ls:List PV)(p q r fr tt:Int)(fl:Bool)(h:Bool)(raw:List PV)(sx sy sl:Int):Hx.Dd Try.prog 3/\Dr Try.prog 3 [yl g ls p q r fr tt fl,.C9 h 49 raw,DV sx sy sl] (bv true):=
 Cy aik (xn g ls p q r fr tt fl h raw sx sy sl)
end Go.Hr
