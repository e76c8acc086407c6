import Derived.Test.YtggmhenfkidjbaaPart10
import Derived.Test.YtggmhenfkidjbaaPart5
namespace Go.Hr
open Go.Hx Go.Hg Go.Hn Go.Proofs
abbrev H5(i:Int):Int:=W (55+W (80*i))
abbrev H6(j:Int):Int:=W (65+W (70*j))
abbrev Oe(L:List PV)(s:EW):EW:=(s.1,fI s.2.1 L s.2.2.1,aI L s.2.2.1,s.2.2.2)
def VB(L:List PV)(x0 y0 x1 y1:Int)(s:EW):EW:=bif dI L s.2.2.1 2==0 then Un x0 y0 x1 y1 0 L (Oe L s) else Oe L s
theorem VC(L:List PV)(x0 y0 x1 y1:Int)(s:EW):s.1.length<=(VB L x0 y0 x1 y1 s).1.length/\(VB L x0 y0 x1 y1 s).1.length<=s.1.length+1/\s.2.2.1<=(VB L x0 y0 x1 y1 s).2.2.1/\(VB L x0 y0 x1 y1 s).2.2.1<=s.2.2.1+10:=by
 have h1:=F6 L s.2.2.1;have h2:=tf x0 y0 x1 y1 0 L (Oe L s);have h3:(Un x0 y0 x1 y1 0 L (Oe L s)).1.length=s.1.length+1:=by
  show(s.1++[_]).length=_;simp
 change aI L s.2.2.1<=_/\_<=aI L s.2.2.1+9 at h2
 unfold VB;cases dI L s.2.2.1 2==0
 ·exact⟨Al _,CG _,h1.1,by show aI L s.2.2.1<=_;omega⟩
 ·simp only[Aj];omega
def Mc:S1:=⟨71,[(3,.ptr 0 1 0 0),(4,.sl 1),(5,Dm),(6,Dm)],[.one 103 2 (.agg [.Db 3,Dm]),.many 49 8]⟩
abbrev lB(L:List PV)(n l:Nat)(j i:Int)(s:EW):LS:=([.n n,.n l,.i j,.i i],[.l s.2.1 L,.i s.2.2.1,.l s.2.2.2 s.1])
abbrev rwV(L:List PV)(s:EW):List Row:=[Ie s.2.1 L s.2.2.1,xT s.2.2.2 s.1]
noncomputable abbrev xV7(L:List PV)(n l:Nat)(j:Int)(s:EW):PX×List PV×List Row:=(.exit 2,tm 71 [(3,.ptr 0 1 0 0),(4,.sl 1 n 0 l),(5,iv j)],rwV L s)
theorem qV7(L:List PV)(n l:Nat)(j i:Int)(es:List PV)(f:Bool)(a:Int)(nl:Bool):Dc Try.prog xU 60 56 (Dh Try.f56 7) [3,4,5,6] [3,4,5] (Mc.put (lB L n l j i (es,f,a,nl))).1 (Mc.put (lB L n l j i (es,f,a,nl))).2 =
 bif decide (i<3) then bif E3 a 2 then bif dI L a 2==0 then bif es.length==n then bif VA n l es (aI L a) then
   some (.normal,Mc.put (lB L (es.length+1) (es.length+1) j (W (i+1)) (Un (H5 i) (H6 j) (H5 (W (i+1))) (H6 j) 0 L (Oe L (es,f,a,nl))))) else none else none
  else some (.normal,Mc.put (lB L n l j (W (i+1)) (Oe L (es,f,a,nl)))) else none
 else some (xV7 L n l j (es,f,a,nl)):=by kernel_rfl
def er(L:List PV)(j:Int):Nat->Int->EW->EW
 |0,_,s=>s
 |m+1,i,s=>er L j m (i+1) (VB L (H5 i) (H6 j) (H5 (i+1)) (H6 j) s)
theorem ZR(L:List PV)(j:Int):∀(m:Nat) (i:Int) (s:EW),s.1.length<=(er L j m i s).1.length/\(er L j m i s).1.length<=s.1.length+m/\s.2.2.1<=(er L j m i s).2.2.1/\(er L j m i s).2.2.1<=s.2.2.1+10*m
 |0,_,s=>by simp[er]
 |m+1,i,s=>by
  obtain⟨a1,a2,a3,a4⟩:=VC L (H5 i) (H6 j) (H5 (i+1)) (H6 j) s;obtain⟨b1,b2,b3,b4⟩:=ZR L j m (i+1) (VB L (H5 i) (H6 j) (H5 (i+1)) (H6 j) s);simp only[er];refine⟨by omega,by omega,by omega,?_⟩;have:((m+1:Nat):Int)=(m:Int)+1:=by simp
  omega
def tg:LS->Bool
 |([.n n,.n l,.i j,.i i],[.l _ _,.i a,.l _ es])=>decide (n=es.length)&&decide (l=es.length)&&decide (0<=i)&&decide (i<=3)&&decide (0<=j)&&decide (j<=2)&&decide ((es.length:Int)<=3*j+i)&&decide (0<=a)&&decide (a<=30*j+10*i)
 |_=>false
noncomputable def fV7:LS->DT (PX×List PV×List Row)
 |([.n _,.n _,.i j,.i i],[.l f L,.i a,.l nl es])=>.leaf (xV7 L (er L j (3-i).toNat i (es,f,a,nl)).1.length (er L j (3-i).toNat i (es,f,a,nl)).1.length j (er L j (3-i).toNat i (es,f,a,nl)))
 |_=>.no
def mV7:LS->Nat
 |([.n _,.n _,.i _,.i i],_)=>(3-i).toNat
 |_=>0
theorem QX{es:List PV}{a:Int}(h:es.length<=1000)(h0:0<=a)(h1:a<=1000000):VA es.length es.length es a=true:=by
 unfold VA;simp only[Aa,Ab];exact⟨⟨⟨⟨trivial,trivial⟩,h⟩,h0⟩,h1⟩
theorem ahA{L:List PV}{j i:Int}{es:List PV}{f:Bool}{a:Int}{nl:Bool}(h:i<3)(h0:0<=i)(he:es.length<=100)(ha:0<=a)(ha2:a<=10000):Dc Try.prog xU 60 56 (Dh Try.f56 7) [3,4,5,6] [3,4,5] (Mc.put (lB L es.length es.length j i (es,f,a,nl))).1 (Mc.put (lB L es.length es.length j i (es,f,a,nl))).2 =
  some (.normal,Mc.put (lB L (VB L (H5 i) (H6 j) (H5 (i+1)) (H6 j) (es,f,a,nl)).1.length (VB L (H5 i) (H6 j) (H5 (i+1)) (H6 j) (es,f,a,nl)).1.length j (i+1) (VB L (H5 i) (H6 j) (H5 (i+1)) (H6 j) (es,f,a,nl)))):=by
 have hb:=F6 L a;rw[qV7,Ac h,show E3 a 2=true by unfold E3;simp;omega,QX (by omega) (by omega) (by omega),AP,Dx (n:=i+1) (by omega) (by omega)];simp only[Aj];unfold VB;cases hd:dI L a 2==0
 ·simp only[Ap]
 ·simp only[Aj];have hl:(Un (H5 i) (H6 j) (H5 (i+1)) (H6 j) 0 L (Oe L (es,f,a,nl))).1.length=es.length+1:=by
   show(es++[_]).length=_;simp
  rw[hl]
theorem sV7:∀ s r,tg s=true->(fV7 s).run=some r->r.1≠.normal/\(Dc Try.prog xU 60 56 (Dh Try.f56 7) [3,4,5,6] [3,4,5] (Mc.put s).1 (Mc.put s).2=some r \/
   ∃ s',Dc Try.prog xU 60 56 (Dh Try.f56 7) [3,4,5,6] [3,4,5] (Mc.put s).1 (Mc.put s).2=some (.normal,Mc.put s')/\tg s'=true/\mV7 s'<mV7 s/\(fV7 s').run=some r):=by
 intro t r hp hr;unfold tg at hp;split at hp
 ·rename_i n l j i f L a nl es;simp only[Aa,Ab]at hp;obtain⟨⟨⟨⟨⟨⟨⟨⟨rfl,rfl⟩,h1⟩,h2⟩,h3⟩,h4⟩,h5⟩,h6⟩,h7⟩:=hp;have hr':=(Ah hr).symm;refine⟨by rw[hr'];simp,?_⟩;rw[show Mc.put ([.n es.length,.n es.length,.i j,.i i],[.l f L,.i a,.l nl es])=Mc.put (lB L es.length es.length j i (es,f,a,nl)) from rfl];by_cases hi:i<3
  ·obtain⟨k,hk⟩:∃ k,(3-i).toNat=k+1:=⟨(3-i).toNat-1,by omega⟩;have hk2:(3-(i+1)).toNat=k:=by omega
   obtain⟨b1,b2,b3,b4⟩:=VC L (H5 i) (H6 j) (H5 (i+1)) (H6 j) (es,f,a,nl);simp only at b1 b2 b3 b4;refine .inr ⟨_,ahA hi h1 (by omega) h6 (by omega),?_,by simp only[mV7];omega,?_⟩
   ·simp only[tg,Aa,Ab];exact⟨⟨⟨⟨⟨⟨⟨⟨trivial,trivial⟩,by omega⟩,by omega⟩,h3⟩,h4⟩,by omega⟩,by omega⟩,by omega⟩
   ·rw[hr',hk];simp only[fV7,hk2,DT.run,er]
  ·have hz:(3-i).toNat=0:=by omega
   rw[qV7,Ai hi];exact .inl (by rw[hr',hz];rfl)
 ·cases hp
noncomputable def MV2:C9:=xU.Dr 56 7 [3,4,5,6] [true,false] Mc tg fV7
theorem acr:C4 Try.prog MV2.env:=
 acp.Dr (n:=60) Try.func56 (show Try.f56.body=some (D3 Try.f56) by kernel_rfl) (show(loops (D3 Try.f56)).filter (fun b=>Ev b==7)=[Dh Try.f56 7] by kernel_rfl) [3,4,5,6] [3,4,5] [true,false] Mc mV7 sV7
def Qs:S1:=⟨71,[(3,.ptr 0 1 0 0),(4,.sl 1),(5,Dm)],[.one 103 2 (.agg [.Db 3,Dm]),.many 49 8]⟩
abbrev xV(L:List PV)(n l:Nat)(j:Int)(s:EW):LS:=([.n n,.n l,.i j],[.l s.2.1 L,.i s.2.2.1,.l s.2.2.2 s.1])
noncomputable abbrev xV4(L:List PV)(n l:Nat)(s:EW):PX×List PV×List Row:=(.exit 0,tm 71 [(3,.ptr 0 1 0 0),(4,.sl 1 n 0 l)],rwV L s)
abbrev b8(L:List PV)(j:Int)(s:EW):EW:=er L j (3-0:Int).toNat 0 s
theorem qV4(L:List PV)(n l:Nat)(j:Int)(es:List PV)(f:Bool)(a:Int)(nl:Bool):Dc Try.prog MV2 60 56 (Dh Try.f56 4) [3,4,5] [3,4] (Qs.put (xV L n l j (es,f,a,nl))).1 (Qs.put (xV L n l j (es,f,a,nl))).2 =
 bif decide (j<2) then bif tg (lB L n l j 0 (es,f,a,nl)) then some (.normal,Qs.put (xV L (b8 L j (es,f,a,nl)).1.length (b8 L j (es,f,a,nl)).1.length (W (j+1)) (b8 L j (es,f,a,nl)))) else none
 else some (xV4 L n l (es,f,a,nl)):=by kernel_rfl
def et(L:List PV):Nat->Int->EW->EW
 |0,_,s=>s
 |m+1,j,s=>et L m (j+1) (b8 L j s)
theorem kq(L:List PV):∀(m:Nat) (j:Int) (s:EW),s.1.length<=(et L m j s).1.length/\(et L m j s).1.length<=s.1.length+3*m/\s.2.2.1<=(et L m j s).2.2.1/\(et L m j s).2.2.1<=s.2.2.1+30*m
 |0,_,s=>by simp[et]
 |m+1,j,s=>by
  obtain⟨a1,a2,a3,a4⟩:=ZR L j (3-0:Int).toNat 0 s;obtain⟨b1,b2,b3,b4⟩:=kq L m (j+1) (b8 L j s);have e3:((3-0:Int)).toNat=3:=rfl;rw[e3]at a1 a2 a3 a4;simp only[et];change _<=(b8 L j s).1.length at a1
  change (b8 L j s).1.length<=_ at a2
  change _<=(b8 L j s).2.2.1 at a3
  change (b8 L j s).2.2.1<=_ at a4
  refine⟨by omega,by omega,by omega,?_⟩;have:((m+1:Nat):Int)=(m:Int)+1:=by simp
  omega
def th:LS->Bool
 |([.n n,.n l,.i j],[.l _ _,.i a,.l _ es])=>decide (n=es.length)&&decide (l=es.length)&&decide (0<=j)&&decide (j<=2)&&decide ((es.length:Int)<=3*j)&&decide (0<=a)&&decide (a<=30*j)
 |_=>false
noncomputable def fV4:LS->DT (PX×List PV×List Row)
 |([.n _,.n _,.i j],[.l f L,.i a,.l nl es])=>.leaf (xV4 L (et L (2-j).toNat j (es,f,a,nl)).1.length (et L (2-j).toNat j (es,f,a,nl)).1.length (et L (2-j).toNat j (es,f,a,nl)))
 |_=>.no
def mV4:LS->Nat
 |([.n _,.n _,.i j],_)=>(2-j).toNat
 |_=>0
theorem sV4:∀ s r,th s=true->(fV4 s).run=some r->r.1≠.normal/\(Dc Try.prog MV2 60 56 (Dh Try.f56 4) [3,4,5] [3,4] (Qs.put s).1 (Qs.put s).2=some r \/
   ∃ s',Dc Try.prog MV2 60 56 (Dh Try.f56 4) [3,4,5] [3,4] (Qs.put s).1 (Qs.put s).2=some (.normal,Qs.put s')/\th s'=true/\mV4 s'<mV4 s/\(fV4 s').run=some r):=by
 intro t r hp hr;unfold th at hp;split at hp
 ·rename_i n l j f L a nl es;simp only[Aa,Ab]at hp;obtain⟨⟨⟨⟨⟨⟨rfl,rfl⟩,h1⟩,h2⟩,h3⟩,h4⟩,h5⟩:=hp;have hr':=(Ah hr).symm;refine⟨by rw[hr'];simp,?_⟩;rw[show Qs.put ([.n es.length,.n es.length,.i j],[.l f L,.i a,.l nl es])=Qs.put (xV L es.length es.length j (es,f,a,nl)) from rfl,qV4];by_cases hi:j<2
  ·obtain⟨k,hk⟩:∃ k,(2-j).toNat=k+1:=⟨(2-j).toNat-1,by omega⟩;have hk2:(2-(j+1)).toNat=k:=by omega
   obtain⟨b1,b2,b3,b4⟩:=ZR L j (3-0:Int).toNat 0 (es,f,a,nl);have e3:((3-0:Int)).toNat=3:=rfl;rw[e3]at b1 b2 b3 b4;simp only at b1 b2 b3 b4;change _<=(b8 L j (es,f,a,nl)).1.length at b1
   change (b8 L j (es,f,a,nl)).1.length<=_ at b2
   change _<=(b8 L j (es,f,a,nl)).2.2.1 at b3
   change (b8 L j (es,f,a,nl)).2.2.1<=_ at b4
   have p7:tg (lB L es.length es.length j 0 (es,f,a,nl))=true:=by
    simp only[tg,Aa,Ab,CM];omega
   rw[Ac hi,p7,Dx (n:=j+1) (by omega) (by omega)];refine .inr ⟨_,rfl,?_,by simp only[mV4];omega,?_⟩
   ·simp only[th,Aa,Ab];exact⟨⟨⟨⟨⟨⟨trivial,trivial⟩,by omega⟩,by omega⟩,by omega⟩,by omega⟩,by omega⟩
   ·rw[hr',hk];simp only[fV4,hk2,DT.run,et]
  ·have hz:(2-j).toNat=0:=by omega
   rw[Ai hi];exact .inl (by rw[hr',hz];rfl)
 ·cases hp
noncomputable def xW:C9:=MV2.Dr 56 4 [3,4,5] [true,false] Qs th fV4
theorem acs:C4 Try.prog xW.env:=
 acr.Dr (n:=60) Try.func56 (show Try.f56.body=some (D3 Try.f56) by kernel_rfl) (show(loops (D3 Try.f56)).filter (fun b=>Ev b==4)=[Dh Try.f56 4] by kernel_rfl) [3,4,5] [3,4] [true,false] Qs mV4 sV4
def HM:S1:=⟨71,[(3,.ptr 0 1 0 0),(4,.sl 1),(7,Dm)],[.one 103 2 (.agg [.Db 3,Dm]),.many 49 8]⟩
abbrev Tn(L:List PV)(n l:Nat)(i:Int)(s:EW):LS:=([.n n,.n l,.i i],[.l s.2.1 L,.i s.2.2.1,.l s.2.2.2 s.1])
noncomputable abbrev wx(L:List PV)(n l:Nat)(s:EW):PX×List PV×List Row:=(.exit 4,tm 71 [(3,.ptr 0 1 0 0),(4,.sl 1 n 0 l)],rwV L s)
theorem wy(L:List PV)(n l:Nat)(i:Int)(es:List PV)(f:Bool)(a:Int)(nl:Bool):Dc Try.prog xW 60 56 (Dh Try.f56 12) [3,4,7] [3,4] (HM.put (Tn L n l i (es,f,a,nl))).1 (HM.put (Tn L n l i (es,f,a,nl))).2 =
 bif decide (i<4) then bif decide ((l:Int)<5) then bif E3 a 2 then bif dI L a 2==0 then bif es.length==n then bif VA n l es (aI L a) then
   some (.normal,HM.put (Tn L (es.length+1) (es.length+1) (W (i+1)) (Un (H5 i) (H6 0) (H5 i) (H6 1) 0 L (Oe L (es,f,a,nl))))) else none else none
  else some (.normal,HM.put (Tn L n l (W (i+1)) (Oe L (es,f,a,nl)))) else none
 else some (wx L n l (es,f,a,nl)) else some (wx L n l (es,f,a,nl)):=by kernel_rfl
def ZS(L:List PV):Nat->Int->EW->EW
 |0,_,s=>s
 |m+1,i,s=>bif decide ((s.1.length:Int)<5) then ZS L m (i+1) (VB L (H5 i) (H6 0) (H5 i) (H6 1) s) else s
theorem kr(L:List PV):∀(m:Nat) (i:Int) (s:EW),s.1.length<=(ZS L m i s).1.length/\(ZS L m i s).1.length<=s.1.length+m/\s.2.2.1<=(ZS L m i s).2.2.1/\(ZS L m i s).2.2.1<=s.2.2.1+10*m
 |0,_,s=>by simp[ZS]
 |m+1,i,s=>by
  obtain⟨a1,a2,a3,a4⟩:=VC L (H5 i) (H6 0) (H5 i) (H6 1) s;obtain⟨b1,b2,b3,b4⟩:=kr L m (i+1) (VB L (H5 i) (H6 0) (H5 i) (H6 1) s);have:((m+1:Nat):Int)=(m:Int)+1:=by simp
  simp only[ZS];cases decide ((s.1.length:Int)<5)
  ·simp only[Ap];exact⟨Al _,by omega,BK _,by omega⟩
  ·simp only[Aj];exact⟨by omega,by omega,by omega,by omega⟩
def XY:LS->Bool
 |([.n n,.n l,.i i],[.l _ _,.i a,.l _ es])=>decide (n=es.length)&&decide (l=es.length)&&decide (0<=i)&&decide (i<=4)&&decide ((es.length:Int)<=6+i)&&decide (0<=a)&&decide (a<=60+10*i)
 |_=>false
noncomputable def oN:LS->DT (PX×List PV×List Row)
 |([.n _,.n _,.i i],[.l f L,.i a,.l nl es])=>.leaf (wx L (ZS L (4-i).toNat i (es,f,a,nl)).1.length (ZS L (4-i).toNat i (es,f,a,nl)).1.length (ZS L (4-i).toNat i (es,f,a,nl)))
 |_=>.no
def oO:LS->Nat
 |([.n _,.n _,.i i],_)=>(4-i).toNat
 |_=>0
theorem acu{L:List PV}{i:Int}{es:List PV}{f:Bool}{a:Int}{nl:Bool}(h:i<4)(h0:0<=i)(he:(es.length:Int)<5)(ha:0<=a)(ha2:a<=10000):Dc Try.prog xW 60 56 (Dh Try.f56 12) [3,4,7] [3,4] (HM.put (Tn L es.length es.length i (es,f,a,nl))).1 (HM.put (Tn L es.length es.length i (es,f,a,nl))).2 =
  some (.normal,HM.put (Tn L (VB L (H5 i) (H6 0) (H5 i) (H6 1) (es,f,a,nl)).1.length (VB L (H5 i) (H6 0) (H5 i) (H6 1) (es,f,a,nl)).1.length (i+1) (VB L (H5 i) (H6 0) (H5 i) (H6 1) (es,f,a,nl)))):=by
 have hb:=F6 L a;rw[wy,Ac h,Ac he,show E3 a 2=true by unfold E3;simp;omega,QX (by omega) (by omega) (by omega),AP,Dx (n:=i+1) (by omega) (by omega)];simp only[Aj];unfold VB;cases hd:dI L a 2==0
 ·simp only[Ap]
 ·simp only[Aj];have hl:(Un (H5 i) (H6 0) (H5 i) (H6 1) 0 L (Oe L (es,f,a,nl))).1.length=es.length+1:=by
   show(es++[_]).length=_;simp
  rw[hl]
theorem ahB:∀ s r,XY s=true->(oN s).run=some r->r.1≠.normal/\(Dc Try.prog xW 60 56 (Dh Try.f56 12) [3,4,7] [3,4] (HM.put s).1 (HM.put s).2=some r \/
   ∃ s',Dc Try.prog xW 60 56 (Dh Try.f56 12) [3,4,7] [3,4] (HM.put s).1 (HM.put s).2=some (.normal,HM.put s')/\XY s'=true/\oO s'<oO s/\(oN s').run=some r):=by
 intro t r hp hr;unfold XY at hp;split at hp
 ·rename_i n l i f L a nl es;simp only[Aa,Ab]at hp;obtain⟨⟨⟨⟨⟨⟨rfl,rfl⟩,h1⟩,h2⟩,h5⟩,h6⟩,h7⟩:=hp;have hr':=(Ah hr).symm;refine⟨by rw[hr'];simp,?_⟩;rw[show HM.put ([.n es.length,.n es.length,.i i],[.l f L,.i a,.l nl es])=HM.put (Tn L es.length es.length i (es,f,a,nl)) from rfl];by_cases hi:i<4
  ·obtain⟨k,hk⟩:∃ k,(4-i).toNat=k+1:=⟨(4-i).toNat-1,by omega⟩;have hk2:(4-(i+1)).toNat=k:=by omega
   by_cases hl:(es.length:Int)<5
   ·obtain⟨b1,b2,b3,b4⟩:=VC L (H5 i) (H6 0) (H5 i) (H6 1) (es,f,a,nl);simp only at b1 b2 b3 b4;refine .inr ⟨_,acu hi h1 hl h6 (by omega),?_,by simp only[oO];omega,?_⟩
    ·simp only[XY,Aa,Ab];exact⟨⟨⟨⟨⟨⟨trivial,trivial⟩,by omega⟩,by omega⟩,by omega⟩,by omega⟩,by omega⟩
    ·rw[hr',hk];simp only[oN,hk2,DT.run,ZS];rw[Ac hl];rfl
   ·rw[wy,Ac hi,Ai hl];refine .inl ?_;rw[hr',hk];simp only[ZS];rw[Ai hl];rfl
  ·have hz:(4-i).toNat=0:=by omega
   rw[wy,Ai hi];exact .inl (by rw[hr',hz];rfl)
 ·cases hp
noncomputable def MV4:C9:=xW.Dr 56 12 [3,4,7] [true,false] HM XY oN
theorem ti:C4 Try.prog MV4.env:=
 acs.Dr (n:=60) Try.func56 (show Try.f56.body=some (D3 Try.f56) by kernel_rfl) (show(loops (D3 Try.f56)).filter (fun b=>Ev b==12)=[Dh Try.f56 12] by kernel_rfl) [3,4,7] [3,4] [true,false] HM oO ahB
noncomputable def wyK(s:EW)(n:Nat):Option PV:=HV s.1 n (some (.Db false 49 ((s.1.drop 0).take n)))
noncomputable def w2(L:List PV)(s:EW)(n:Nat):Option PV:=
 bif E3 s.2.2.1 4 then bif dI L s.2.2.1 4==0 then bif s.1.length==n then bif VA n n s.1 (aI L s.2.2.1) then
  wyK (Un (H5 1) (H6 1) (H5 3) (H6 0) (-1) L (Oe L s)) (s.1.length+1) else none else none else wyK (Oe L s) n else none
noncomputable def w1(L:List PV)(s:EW)(n:Nat):Option PV:=
 bif E3 s.2.2.1 3 then bif dI L s.2.2.1 3==0 then bif E3 (aI L s.2.2.1) 2 then bif s.1.length==n then bif VA n n s.1 (aI L (aI L s.2.2.1)) then
  w2 L (Un (H5 0) (H6 0) (H5 (W (2+dI L (aI L s.2.2.1) 2))) (H6 1) 1 L (Oe L (Oe L s))) (s.1.length+1) else none else none else none else w2 L (Oe L s) n else none
abbrev cu(L:List PV)(f:Bool):EW:=et L (2-0:Int).toNat 0 ([],f,0,true)
abbrev Of(L:List PV)(f:Bool):EW:=ZS L (4-0:Int).toNat 0 (cu L f)
theorem acv(f:Bool)(L:List PV):DC Try.prog MV4 60 56 [.Db f 3 L] =
 bif th (xV L 0 0 0 ([],f,0,true)) then bif XY (Tn L (cu L f).1.length (cu L f).1.length 0 (cu L f)) then w1 L (Of L f) (Of L f).1.length else none else none:=by kernel_rfl
def ZT(L:List PV)(s:EW):EW:=bif dI L s.2.2.1 3==0 then Un (H5 0) (H6 0) (H5 (W (2+dI L (aI L s.2.2.1) 2))) (H6 1) 1 L (Oe L (Oe L s)) else Oe L s
def oP(L:List PV)(s:EW):EW:=bif dI L s.2.2.1 4==0 then Un (H5 1) (H6 1) (H5 3) (H6 0) (-1) L (Oe L s) else Oe L s
def O7(f:Bool)(L:List PV):List PV:=(oP L (ZT L (Of L f))).1
theorem QY(ax ay bx b' lv:Int)(L:List PV)(s:EW):(Un ax ay bx b' lv L s).1.length=s.1.length+1:=by
 show(s.1++[_]).length=_;simp
theorem kt(L:List PV)(s:EW):s.1.length<=(ZT L s).1.length/\(ZT L s).1.length<=s.1.length+1/\s.2.2.1<=(ZT L s).2.2.1/\(ZT L s).2.2.1<=s.2.2.1+11:=by
 have h1:=F6 L s.2.2.1;have h2:=F6 L (aI L s.2.2.1);have h3:=tf (H5 0) (H6 0) (H5 (W (2+dI L (aI L s.2.2.1) 2))) (H6 1) 1 L (Oe L (Oe L s));have h4:=QY (H5 0) (H6 0) (H5 (W (2+dI L (aI L s.2.2.1) 2))) (H6 1) 1 L (Oe L (Oe L s));change aI L (aI L s.2.2.1)<=_/\_<=aI L (aI L s.2.2.1)+9 at h3
 change _=s.1.length+1 at h4
 unfold ZT;cases dI L s.2.2.1 3==0
 ·exact⟨Al _,CG _,h1.1,by show aI L s.2.2.1<=_;omega⟩
 ·simp only[Aj];omega
theorem tj(L:List PV)(f:Bool):(cu L f).1.length<=6/\0<=(cu L f).2.2.1/\(cu L f).2.2.1<=60/\(Of L f).1.length<=10/\0<=(Of L f).2.2.1/\(Of L f).2.2.1<=100:=by
 obtain⟨a1,a2,a3,a4⟩:=kq L (2-0:Int).toNat 0 ([],f,0,true);obtain⟨b1,b2,b3,b4⟩:=kr L (4-0:Int).toNat 0 (cu L f);have e2:((2-0:Int)).toNat=2:=rfl;have e4:((4-0:Int)).toNat=4:=rfl;rw[e2]at a2 a4;rw[e4]at b2 b4;simp only[AC]at a2 a3 a4;change (cu L f).1.length<=_ at a2
 change _<=(cu L f).2.2.1 at a3
 change (cu L f).2.2.1<=_ at a4
 change (Of L f).1.length<=_ at b2
 change _<=(Of L f).2.2.1 at b3
 change (Of L f).2.2.1<=_ at b4
 omega
theorem ku{s:EW}{n:Nat}(h:s.1.length=n):wyK s n=some (.Db false 49 s.1):=by
 unfold wyK;rw[DK h,AH,A7 (by omega)]
theorem acw{L:List PV}{s:EW}(h:s.1.length<=100)(h0:0<=s.2.2.1)(h1:s.2.2.1<=1000):w2 L s s.1.length=some (.Db false 49 (oP L s).1):=by
 have ha:=F6 L s.2.2.1;unfold w2 oP;rw[show E3 s.2.2.1 4=true by unfold E3;simp;omega,AP,QX (by omega) (by omega) (by omega)];cases dI L s.2.2.1 4==0
 ·exact ku (s:=Oe L s) rfl
 ·exact ku (QY _ _ _ _ _ _ _)
theorem acx{L:List PV}{s:EW}(h:s.1.length<=90)(h0:0<=s.2.2.1)(h1:s.2.2.1<=900):w1 L s s.1.length=some (.Db false 49 (oP L (ZT L s)).1):=by
 have ha:=F6 L s.2.2.1;have hb:=F6 L (aI L s.2.2.1);have hc:=kt L s;rw[<- acw (L:=L) (s:=ZT L s) (by omega) (by omega) (by omega)];unfold w1 ZT;rw[show E3 s.2.2.1 3=true by unfold E3;simp;omega,show E3 (aI L s.2.2.1) 2=true by unfold E3;simp;omega,AP,QX (by omega) (by omega) (by omega)];cases dI L s.2.2.1 3==0
 ·rfl
 ·simp only[Aj];rw[QY]
theorem kx(f:Bool)(L:List PV):DC Try.prog MV4 60 56 [.Db f 3 L]=some (.Db false 49 (O7 f L)):=by
 obtain⟨a1,a2,a3,a4,a5,a6⟩:=tj L f;have p4:th (xV L 0 0 0 ([],f,0,true))=true:=by
  simp only[th,Aa,Ab,AC,CM];omega
 have p12:XY (Tn L (cu L f).1.length (cu L f).1.length 0 (cu L f))=true:=by
  simp only[XY,Aa,Ab,CM];omega
 rw[acv,p4,p12];exact acx (by omega) a5 (by omega)
def ky:List PV->Option (DT PV)
 | [.Db f 3 L]=>some (.br true (.leaf (.Db false 49 (O7 f L))) .no)
 |_=>none
theorem acy:Hx.Df Try.prog 56:=(Cz ti (n:=60) (kx false [])).1
theorem acz(args:List PV)(d:DT PV)(r:PV)(h:ky args=some d)(hr:d.run=some r):Ds Try.prog 56 args r:=by
 unfold ky at h;split at h
 ·rename_i f L;cases h;obtain⟨_,rfl⟩:=DO hr;exact(Cz ti (n:=60) (kx f L)).2
 ·cases h
noncomputable def xX:C9:=((M7.DH 79 cAt).DH 80 wq).GH 57 5 [(6,138,7)]
theorem acA:C4 Try.prog xX.env:=((IM.DH eAt oAt).DH ahu ahv).GH 57 5 [(6,138,7)]
abbrev ahD:List PV:=[.val (.string ⟨#[116,114,101,101]⟩),.val (.string ⟨#[116,114,101,101]⟩),.val (.string ⟨#[115,104,111,112]⟩)]
abbrev ahE:List PV:=[.val (.string ⟨#[]⟩),.val (.string ⟨#[]⟩),.val (.string ⟨#[71,97,116,101]⟩),.val (.string ⟨#[79,97,107]⟩),.val (.string ⟨#[84,104,101,32,87,101,108,108]⟩)]
def Kh:S1:=⟨88,[(2,.ptr 0 1 0 0),(5,.ptr 1 1 0 0),(6,.sl 2),(7,Dm),(8,Dm)],[.Gx 73 4 (.agg [.Db 147,.Db 106,.Db 49,.nil]),.one 103 2 (.agg [.Db 3,Dm]),.many 138 7]⟩
abbrev eu(g:Bool)(E:List PV)(fb:Bool)(F:List PV)(h:Bool)(D:List PV)(L:List PV)(n l:Nat)(many k:Int)(s:EW):LS:=([.n n,.n l,.i many,.i k],[.l g E,.l fb F,.l h D,.l s.2.1 L,.i s.2.2.1,.l s.2.2.2 s.1])
noncomputable abbrev xPc(g:Bool)(E:List PV)(fb:Bool)(F:List PV)(h:Bool)(D:List PV)(L:List PV)(n l:Nat)(s:EW):PX×List PV×List Row:=
 (.exit 0,tm 88 [(6,.sl 2 n 0 l)],(Kh.put (eu g E fb F h D L n l 0 0 s)).2)
abbrev plX(L:List PV)(a sd:Int):Int:=W (W (90+W (100*dI L (a1 L a 2) 3))+sd)
abbrev kz(L:List PV)(a:Int):Int:=W (W (W (90+W (100*dI L (a1 L a 3) 2))+dI L (a1 L a 4) 51)-25)
abbrev plV(L:List PV)(a:Int)(l:Nat)(x y d:Int):PV:=.agg [iv (W (61+(l:Int))),iv x,iv y,.val (.string ((ahD.getD (0+(dI L (a1 L a 6) 3).toNat) .any).cellAt 0).Hz),.val (.string ((ahE.getD (0+(dI L (a1 L a 7) 5).toNat) .any).cellAt 0).Hz),iv (W (1+dI L (a1 L a 5) 60)),iv d]
noncomputable def plT(g:Bool)(E:List PV)(fb:Bool)(F:List PV)(h:Bool)(D:List PV)(L:List PV)(n l:Nat)(many k:Int)(s:EW)(x y:Int):Option (PX×List PV×List Row):=
 bif E3 (a1 L s.2.2.1 2) 3 then bif E3 (a1 L s.2.2.1 3) 2 then bif E3 (a1 L s.2.2.1 4) 51 then bif E3 (a1 L s.2.2.1 5) 60 then bif E3 (a1 L s.2.2.1 6) 3 then bif Vz L (a1 L s.2.2.1 6) 3 then bif E3 (a1 L s.2.2.1 7) 5 then bif Vz L (a1 L s.2.2.1 7) 5 then
 bif P0 E&&decide (E.length<=1000) then bif decide (F.length<=1000) then bif kn (Qp E) x y then bif decide (oK F (eT (Qp E) x y) > 0) then
  bif true&&decide (s.1.length=n)&&decide (n=l)&&decide ((n+1)*72<=140737488355328) then
   some (.normal,Kh.put (eu g E fb F h D L (n+1) (n+1) many (W (k+1)) (s.1++[plV L s.2.2.1 l x y (oK F (eT (Qp E) x y))],f1 s.2.1 L s.2.2.1 8,a1 L s.2.2.1 8,s.2.2.2&&false))) else none
  else some (.normal,Kh.put (eu g E fb F h D L n l many (W (k+1)) (s.1,f1 s.2.1 L s.2.2.1 8,a1 L s.2.2.1 8,s.2.2.2))) else some (.normal,Kh.put (eu g E fb F h D L n l many (W (k+1)) (s.1,f1 s.2.1 L s.2.2.1 8,a1 L s.2.2.1 8,s.2.2.2)))
 else none else none else none else none else none else none else none else none else none else none
theorem qPc(g:Bool)(E:List PV)(fb:Bool)(F:List PV)(h:Bool)(D:List PV)(L:List PV)(n l:Nat)(many k:Int)(ps:List PV)(f:Bool)(a:Int)(nl:Bool):
 Dc Try.prog xX 60 57 (Dh Try.f57 5) [2,5,6,7,8] [6] (Kh.put (eu g E fb F h D L n l many k (ps,f,a,nl))).1 (Kh.put (eu g E fb F h D L n l many k (ps,f,a,nl))).2 =
 bif decide (k<many) then bif E3 (a1 L a 0) 10 then bif E3 (a1 L a 1) 2 then
  bif dI L (a1 L a 1) 2==1 then plT g E fb F h D L n l many k (ps,f,a,nl) (plX L a (W (0-W (16+dI L (a1 L a 0) 10)))) (kz L a) else plT g E fb F h D L n l many k (ps,f,a,nl) (plX L a (W (16+dI L (a1 L a 0) 10))) (kz L a)
 else none else none else some (xPc g E fb F h D L n l (ps,f,a,nl)):=by kernel_rfl
def kA(L:List PV)(a:Int):Int:=bif dI L (a1 L a 1) 2==1 then plX L a (W (0-W (16+dI L (a1 L a 0) 10))) else plX L a (W (16+dI L (a1 L a 0) 10))
def eU(E F L:List PV)(s:EW):EW:=
 bif kn (Qp E) (kA L s.2.2.1) (kz L s.2.2.1)&&decide (oK F (eT (Qp E) (kA L s.2.2.1) (kz L s.2.2.1)) > 0) then
  (s.1++[plV L s.2.2.1 s.1.length (kA L s.2.2.1) (kz L s.2.2.1) (oK F (eT (Qp E) (kA L s.2.2.1) (kz L s.2.2.1)))],f1 s.2.1 L s.2.2.1 8,a1 L s.2.2.1 8,s.2.2.2&&false)
 else (s.1,f1 s.2.1 L s.2.2.1 8,a1 L s.2.2.1 8,s.2.2.2)
theorem wz(E F L:List PV)(s:EW):(eU E F L s).1.length<=s.1.length+1/\s.2.2.1<=(eU E F L s).2.2.1/\(eU E F L s).2.2.1<=s.2.2.1+8:=by
 have h:=Hv L s.2.2.1 8;unfold eU;cases kn (Qp E) (kA L s.2.2.1) (kz L s.2.2.1)&&decide (oK F (eT (Qp E) (kA L s.2.2.1) (kz L s.2.2.1)) > 0)
 ·exact⟨CG _,h.1,by show a1 L s.2.2.1 8<=_;omega⟩
 ·exact⟨by show(s.1++[_]).length<=_;simp,h.1,by show a1 L s.2.2.1 8<=_;omega⟩
theorem kB{g:Bool}{E:List PV}{fb:Bool}{F:List PV}{h:Bool}{D L:List PV}{many k:Int}{ps:List PV}{f:Bool}{a:Int}{nl:Bool}(x:Int)(h0:0<=a)(h1:a<=10000)(hE:P0 E=true)(hE2:E.length<=1000)(hF:F.length<=1000)(hk:0<=k)(hk2:k<=100)(hp:ps.length<=100)(hx:kA L a=x):
  plT g E fb F h D L ps.length ps.length many k (ps,f,a,nl) x (kz L a)=some (.normal,Kh.put (eu g E fb F h D L (eU E F L (ps,f,a,nl)).1.length (eU E F L (ps,f,a,nl)).1.length many (k+1) (eU E F L (ps,f,a,nl)))):=by
 have ok:∀(k:Nat) (n:Int),k<=8->0<n->n<=100->E3 (a1 L a k) n=true:=fun k n hk hn hn2=>by
  have:=Hv L a k;unfold E3;simp;omega
 have ind:∀(k:Nat) (n:Int),0<n->Vz L (a1 L a k) n=true:=fun k n hn=>by
  rw[Aa];exact⟨Ac (IZ _ _ hn),Ac (ID _ _ hn)⟩
 unfold plT;rw[ok 2 3 (by omega) (by omega) (by omega),ok 3 2 (by omega) (by omega) (by omega),ok 4 51 (by omega) (by omega) (by omega),ok 5 60 (by omega) (by omega) (by omega),ok 6 3 (by omega) (by omega) (by omega),ind 6 3 (by omega),ok 7 5 (by omega) (by omega) (by omega),ind 7 5 (by omega),hE,Ac hE2,Ac hF,Dx (n:=k+1) (by omega) (by omega),
  show(true&&decide (ps.length=ps.length)&&decide (ps.length=ps.length)&&decide ((ps.length+1)*72<=140737488355328))=true by simp;omega]
 simp only[Aj,A_];subst hx;unfold eU;simp only;generalize hA:kn (Qp E) (kA L a) (kz L a)=A;generalize hB:decide (oK F (eT (Qp E) (kA L a) (kz L a)) > 0)=B;cases A <;> cases B <;> simp only[Aj,Ap,Br,BG,A_,Ar,As,AC]
theorem ahF{g:Bool}{E:List PV}{fb:Bool}{F:List PV}{h:Bool}{D L:List PV}{many k:Int}{ps:List PV}{f:Bool}{a:Int}{nl:Bool}(hm:k<many)(h0:0<=a)(h1:a<=10000)(hE:P0 E=true)(hE2:E.length<=1000)(hF:F.length<=1000)(hk:0<=k)(hk2:k<=100)(hp:ps.length<=100):
  Dc Try.prog xX 60 57 (Dh Try.f57 5) [2,5,6,7,8] [6] (Kh.put (eu g E fb F h D L ps.length ps.length many k (ps,f,a,nl))).1 (Kh.put (eu g E fb F h D L ps.length ps.length many k (ps,f,a,nl))).2 =
  some (.normal,Kh.put (eu g E fb F h D L (eU E F L (ps,f,a,nl)).1.length (eU E F L (ps,f,a,nl)).1.length many (k+1) (eU E F L (ps,f,a,nl)))):=by
 have ok:∀(k:Nat) (n:Int),k<=8->0<n->n<=100->E3 (a1 L a k) n=true:=fun k n hk hn hn2=>by
  have:=Hv L a k;unfold E3;simp;omega
 rw[qPc,Ac hm,ok 0 10 (by omega) (by omega) (by omega),ok 1 2 (by omega) (by omega) (by omega)];simp only[Aj];cases hd:dI L (a1 L a 1) 2==1 with
 |true=>exact kB _ h0 h1 hE hE2 hF hk hk2 hp (by unfold kA;rw[hd];rfl)
 |false=>exact kB _ h0 h1 hE hE2 hF hk hk2 hp (by unfold kA;rw[hd];rfl)
def xZ(E F L:List PV):Nat->EW->EW
 |0,s=>s
 |m+1,s=>xZ E F L m (eU E F L s)
def tk:LS->Bool
 |([.n n,.n l,.i many,.i k],[.l _ E,.l _ F,.l _ _,.l _ _,.i a,.l _ ps])=>P0 E&&decide (n=ps.length)&&decide (l=ps.length)&&decide (E.length<=1000)&&decide (F.length<=1000)&&decide (0<=k)&&decide (k<=many)&&decide (many<=6)&&decide ((ps.length:Int)<=k)&&decide (0<=a)&&decide (a<=10+8*k)
 |_=>false
noncomputable def fPc:LS->DT (PX×List PV×List Row)
 |([.n _,.n _,.i many,.i k],[.l g E,.l fb F,.l h D,.l f L,.i a,.l nl ps])=>.leaf (xPc g E fb F h D L (xZ E F L (many-k).toNat (ps,f,a,nl)).1.length (xZ E F L (many-k).toNat (ps,f,a,nl)).1.length (xZ E F L (many-k).toNat (ps,f,a,nl)))
 |_=>.no
def mPc:LS->Nat
 |([.n _,.n _,.i many,.i k],_)=>(many-k).toNat
 |_=>0
theorem sPc:∀ s r,tk s=true->(fPc s).run=some r->r.1≠.normal/\(Dc Try.prog xX 60 57 (Dh Try.f57 5) [2,5,6,7,8] [6] (Kh.put s).1 (Kh.put s).2=some r \/
   ∃ s',Dc Try.prog xX 60 57 (Dh Try.f57 5) [2,5,6,7,8] [6] (Kh.put s).1 (Kh.put s).2=some (.normal,Kh.put s')/\tk s'=true/\mPc s'<mPc s/\(fPc s').run=some r):=by
 intro t r hp hr;unfold tk at hp;split at hp
 ·rename_i n l many k g E fb F h D f L a nl ps;simp only[Aa,Ab]at hp;obtain⟨⟨⟨⟨⟨⟨⟨⟨⟨⟨h0,rfl⟩,rfl⟩,h1⟩,h2⟩,h3⟩,h4⟩,h5⟩,h6⟩,h7⟩,h8⟩:=hp;have hr':=(Ah hr).symm;refine⟨by rw[hr'];simp,?_⟩;rw[show Kh.put ([.n ps.length,.n ps.length,.i many,.i k],[.l g E,.l fb F,.l h D,.l f L,.i a,.l nl ps])=Kh.put (eu g E fb F h D L ps.length ps.length many k (ps,f,a,nl)) from rfl];by_cases hi:k<many
  ·obtain⟨j,hj⟩:∃ j,(many-k).toNat=j+1:=⟨(many-k).toNat-1,by omega⟩;have hj2:(many-(k+1)).toNat=j:=by omega
   obtain⟨b1,b2,b3⟩:=wz E F L (ps,f,a,nl);simp only at b1 b2 b3;refine .inr ⟨_,ahF hi h7 (by omega) h0 h1 h2 h3 (by omega) (by omega),?_,by simp only[mPc];omega,?_⟩
   ·simp only[tk,Aa,Ab];exact⟨⟨⟨⟨⟨⟨⟨⟨⟨⟨h0,trivial⟩,trivial⟩,h1⟩,h2⟩,by omega⟩,by omega⟩,h5⟩,by omega⟩,by omega⟩,by omega⟩
   ·rw[hr',hj];simp only[fPc,hj2,DT.run,xZ]
  ·have hz:(many-k).toNat=0:=by omega
   rw[qPc,Ai hi];exact .inl (by rw[hr',hz];rfl)
 ·cases hp
noncomputable def MP3:C9:=xX.Dr 57 5 [2,5,6,7,8] [true,true,false] Kh tk fPc
theorem tn:C4 Try.prog MP3.env:=
 acA.Dr (n:=60) Try.func57 (show Try.f57.body=some (D3 Try.f57) by kernel_rfl) (show(loops (D3 Try.f57)).filter (fun b=>Ev b==5)=[Dh Try.f57 5] by kernel_rfl) [2,5,6,7,8] [6] [true,true,false] Kh mPc sPc
abbrev oQ(E F L:List PV)(f:Bool):EW:=xZ E F L (dI L 0 7-0).toNat ([],fI f L 0,aI L 0,true)
theorem ahH(g:Bool)(E:List PV)(fb:Bool)(F:List PV)(h:Bool)(D:List PV)(f:Bool)(L:List PV):DC Try.prog MP3 60 57 [oJ g E fb F h D,.Db f 3 L] =
 bif tk (eu g E fb F h D L 0 0 (dI L 0 7) 0 ([],fI f L 0,aI L 0,true)) then HV (oQ E F L f).1 (oQ E F L f).1.length (some (.Db false 138 (((oQ E F L f).1.drop 0).take (oQ E F L f).1.length))) else none:=by kernel_rfl
theorem tp(g:Bool){E:List PV}(fb:Bool){F:List PV}(h:Bool)(D:List PV)(f:Bool)(L:List PV)(hE:P0 E=true)(hE2:E.length<=1000)(hF:F.length<=1000):DC Try.prog MP3 60 57 [oJ g E fb F h D,.Db f 3 L]=some (.Db false 138 (oQ E F L f).1):=by
 have d1:=IZ L 0 (n:=7) (by omega);have d2:=ID L 0 (n:=7) (by omega);have ha:=F6 L 0;have hp:tk (eu g E fb F h D L 0 0 (dI L 0 7) 0 ([],fI f L 0,aI L 0,true))=true:=by
  simp only[tk,Aa,Ab,AC];exact⟨⟨⟨⟨⟨⟨⟨⟨⟨⟨hE,trivial⟩,trivial⟩,hE2⟩,hF⟩,by omega⟩,by omega⟩,by omega⟩,by omega⟩,by omega⟩,by omega⟩
 rw[ahH,hp,Aj,DK rfl,AH,Bi]
def wA:List PV->Option (DT PV)
 | [.agg [.Db _ 147 E,.Db _ 106 F,.Db _ 49 _,.val (.slice none 0 0)],.Db f 3 L]=>some (.br (P0 E&&decide (E.length<=1000)&&decide (F.length<=1000)) (.leaf (.Db false 138 (oQ E F L f).1)) .no)
 |_=>none
theorem ahI:Hx.Df Try.prog 57:=(Cz tn (n:=60) (tp false (E:=[]) false (F:=[]) false [] false [] rfl (by simp) (by simp))).1
theorem ahJ(args:List PV)(d:DT PV)(r:PV)(h:wA args=some d)(hr:d.run=some r):Ds Try.prog 57 args r:=by
 unfold wA at h;split at h
 ·rename_i g E fb F h' D f L;cases h;obtain⟨h1,rfl⟩:=DO hr;simp only[Aa,Ab]at h1;exact(Cz tn (n:=60) (tp g fb h' D f L h1.1.1 h1.1.2 h1.2)).2
 ·cases h
noncomputable def MG1:C9:=((((M7.RO 53 cMd).Gf 53).DH 54 kp).DH 56 ky).DH 57 wA
theorem acC:C4 Try.prog MG1.env:=((((IM.RO eMd oMd).Gf 53).DH acg ach).DH acy acz).DH ahI ahJ
abbrev ahK:List PV:=[.val (.string ⟨#[102,105,101,108,100]⟩),.val (.string ⟨#[119,111,111,100]⟩),.val (.string ⟨#[108,97,107,101]⟩)]
abbrev ahL:List PV:=[.val (.string ⟨#[]⟩),.val (.string ⟨#[]⟩),.val (.string ⟨#[]⟩),.val (.string ⟨#[77,111,111,114]⟩),.val (.string ⟨#[72,111,108,109]⟩),.val (.string ⟨#[78,111,114,116,104,32,77,111,111,114]⟩)]
abbrev fE(fs:List PV)(k:Int):PV:=fs.getD (0+k.toNat) .any
abbrev fcE(c0:Int)(s1 s2:ByteArray)(c3 c4:Int):PV:=.agg [iv c0,.val (.string s1),.val (.string s2),iv c3,iv c4]
abbrev kC(fs:List PV)(k:Int)(s:ByteArray):List PV:=fs.set (0+k.toNat) (fcE ((fE fs k).cellAt 0).DN s ((fE fs k).cellAt 2).Hz ((fE fs k).cellAt 3).DN ((fE fs k).cellAt 4).DN)
abbrev oR(fs:List PV)(k:Int)(s:ByteArray):List PV:=fs.set (0+k.toNat) (fcE ((fE fs k).cellAt 0).DN ((fE fs k).cellAt 1).Hz s ((fE fs k).cellAt 3).DN ((fE fs k).cellAt 4).DN)
abbrev wB(fs:List PV)(k:Int)(x:Int):List PV:=fs.set (0+k.toNat) (fcE ((fE fs k).cellAt 0).DN ((fE fs k).cellAt 1).Hz ((fE fs k).cellAt 2).Hz x ((fE fs k).cellAt 4).DN)
abbrev acD(fs:List PV)(k:Int)(x:Int):List PV:=fs.set (0+k.toNat) (fcE ((fE fs k).cellAt 0).DN ((fE fs k).cellAt 1).Hz ((fE fs k).cellAt 2).Hz ((fE fs k).cellAt 3).DN x)
abbrev kE(L:List PV)(a:Int):ByteArray:=((ahK.getD (0+(dI L (a1 L a 0) 3).toNat) .any).cellAt 0).Hz
abbrev oS(L:List PV)(a:Int):ByteArray:=((ahL.getD (0+(dI L (a1 L a 1) 6).toNat) .any).cellAt 0).Hz
abbrev wC(L:List PV)(a:Int):Int:=W (1+dI L (a1 L a 2) 60)
abbrev acE(L:List PV)(a:Int):Int:=W (1+Int.tmod (W (dI L (a1 L a 3) 4*dI L (a1 L a 4) 2)) 3)
def YV(fs:List PV)(p:Nat){α:Type}(x:Option α):Option α:=HV fs p (HV fs p (bif ((((fs.length==p)&&true)&&true)&&true) then x else none))
theorem VD{fs:List PV}{p:Nat}{α:Type}{x:Option α}(h:fs.length=p):YV fs p x=x:=by
 unfold YV;rw[DK h,DK h,h,AP];rfl
def O8:S1:=⟨75,[(0,.Db 38),(2,.ptr 0 1 0 0),(3,.ptr 1 1 0 0),(4,.ptr 4 1 0 0),(5,Dm)],[.Gx 73 4 (.agg [.nil,.nil,.nil,.nil]),.Gx 73 4 (.agg [.sl 2,.sl 3,.nil,.nil]),.many 147 4,.many 106 5,.one 103 2 (.agg [.Db 3,Dm])]⟩
abbrev tq(u:Bool)(ls:List PV)(k:Int)(n l p q:Nat)(nl:Bool)(es:List PV)(v:Bool)(fs:List PV)(g:Bool)(L:List PV)(a:Int):LS:=([.l u ls,.i k],[.n n,.n l,.n p,.n q,.l nl es,.l v fs,.l g L,.i a])
noncomputable abbrev xMk(u:Bool)(ls:List PV)(n l p q:Nat)(nl:Bool)(es:List PV)(v:Bool)(fs:List PV)(g:Bool)(L:List PV)(a:Int):PX×List PV×List Row:=
 (.exit 0,tm 75 [(0,.Db u 38 ls),(2,.ptr 0 1 0 0),(3,.ptr 1 1 0 0)],(O8.put (tq u ls 0 n l p q nl es v fs g L a)).2)
theorem qMk(u:Bool)(ls:List PV)(k:Int)(n l p q:Nat)(nl:Bool)(es:List PV)(v:Bool)(fs:List PV)(g:Bool)(L:List PV)(a:Int):
 Dc Try.prog MG1 60 31 (Dh Try.f31 5) [0,2,3,4,5] [0,2,3] (O8.put (tq u ls k n l p q nl es v fs g L a)).1 (O8.put (tq u ls k n l p q nl es v fs g L a)).2 =
 bif decide (k<(q:Int)) then Sj fs p q k (bif E3 (a1 L a 0) 3 then bif Vz L (a1 L a 0) 3 then YV fs p (
  bif E3 (a1 L a 1) 6 then bif Vz L (a1 L a 1) 6 then YV (kC fs k (kE L a)) p (
  bif E3 (a1 L a 2) 60 then YV (oR (kC fs k (kE L a)) k (oS L a)) p (
  bif E3 (a1 L a 3) 4 then bif E3 (a1 L a 4) 2 then YV (wB (oR (kC fs k (kE L a)) k (oS L a)) k (wC L a)) p (
   some (.normal,O8.put (tq u ls (W (k+1)) n l p q nl es v (acD (wB (oR (kC fs k (kE L a)) k (oS L a)) k (wC L a)) k (acE L a)) (f1 g L a 5) L (a1 L a 5)))) else none else none) else none) else none else none) else none else none)
 else some (xMk u ls n l p q nl es v fs g L a):=by kernel_rfl
abbrev FS:=List PV×Bool×Int
def fcT(fs:List PV)(k:Int)(L:List PV)(a:Int):List PV:=acD (wB (oR (kC fs k (kE L a)) k (oS L a)) k (wC L a)) k (acE L a)
theorem VE(fs:List PV)(k:Int)(L:List PV)(a:Int):(fcT fs k L a).length=fs.length:=by
 unfold fcT;simp only[Bh]
def tu(L:List PV):Nat->Int->FS->FS
 |0,_,s=>s
 |m+1,k,s=>tu L m (k+1) (fcT s.1 k L s.2.2,f1 s.2.1 L s.2.2 5,a1 L s.2.2 5)
theorem cw(L:List PV):∀(m:Nat) (k:Int) (s:FS),(tu L m k s).1.length=s.1.length
 |0,_,_=>rfl
 |m+1,k,s=>by
  simp only[tu];rw[cw L m];exact VE _ _ _ _
def tv:LS->Bool
 |([.l _ _,.i k],[.n _,.n _,.n p,.n q,.l _ _,.l _ fs,.l _ _,.i a])=>decide (p=fs.length)&&decide (q=fs.length)&&decide (0<=k)&&decide (k<=(fs.length:Int))&&decide (fs.length<=1000)&&decide (0<=a)&&decide (a<=5*k)
 |_=>false
noncomputable def fMk:LS->DT (PX×List PV×List Row)
 |([.l u ls,.i k],[.n n,.n l,.n p,.n q,.l nl es,.l v fs,.l g L,.i a])=>
  .leaf (xMk u ls n l p q nl es v (tu L ((fs.length:Int)-k).toNat k (fs,g,a)).1 (tu L ((fs.length:Int)-k).toNat k (fs,g,a)).2.1 L (tu L ((fs.length:Int)-k).toNat k (fs,g,a)).2.2)
 |_=>.no
def mMk:LS->Nat
 |([.l _ _,.i k],[.n _,.n _,.n _,.n q,.l _ _,.l _ _,.l _ _,.i _])=>((q:Int)-k).toNat
 |_=>0
theorem sMk:∀ s r,tv s=true->(fMk s).run=some r->r.1≠.normal/\(Dc Try.prog MG1 60 31 (Dh Try.f31 5) [0,2,3,4,5] [0,2,3] (O8.put s).1 (O8.put s).2=some r \/
   ∃ s',Dc Try.prog MG1 60 31 (Dh Try.f31 5) [0,2,3,4,5] [0,2,3] (O8.put s).1 (O8.put s).2=some (.normal,O8.put s')/\tv s'=true/\mMk s'<mMk s/\(fMk s').run=some r):=by
 intro t r hp hr;unfold tv at hp;split at hp
 ·rename_i u ls k n l p q nl es v fs g L a;simp only[Aa,Ab]at hp;obtain⟨⟨⟨⟨⟨⟨rfl,rfl⟩,h1⟩,h2⟩,h3⟩,h4⟩,h5⟩:=hp;have hr':=(Ah hr).symm;refine⟨by rw[hr'];simp,?_⟩;rw[show O8.put ([.l u ls,.i k],[.n n,.n l,.n fs.length,.n fs.length,.l nl es,.l v fs,.l g L,.i a])=O8.put (tq u ls k n l fs.length fs.length nl es v fs g L a) from rfl,qMk];by_cases hi:k<(fs.length:Int)
  ·obtain⟨j,hj⟩:∃ j,((fs.length:Int)-k).toNat=j+1:=⟨((fs.length:Int)-k).toNat-1,by omega⟩;have hj2:((fs.length:Int)-(k+1)).toNat=j:=by omega
   have ok:∀(i:Nat) (n:Int),i<=8->0<n->n<=100->E3 (a1 L a i) n=true:=fun i n hk hn hn2=>by
    have:=Hv L a i;unfold E3;simp;omega
   have ind:∀(i:Nat) (n:Int),0<n->Vz L (a1 L a i) n=true:=fun i n hn=>by
    rw[Aa];exact⟨Ac (IZ _ _ hn),Ac (ID _ _ hn)⟩
   have ha:=Hv L a 5;rw[Ac hi,Aj,FD rfl h1 hi,ok 0 3 (by omega) (by omega) (by omega),ind 0 3 (by omega),Aj,Aj,VD rfl,ok 1 6 (by omega) (by omega) (by omega),ind 1 6 (by omega),Aj,Aj,
    VD (by simp only[Bh]),ok 2 60 (by omega) (by omega) (by omega),Aj,VD (by simp only[Bh]),ok 3 4 (by omega) (by omega) (by omega),ok 4 2 (by omega) (by omega) (by omega),Aj,Aj,VD (by simp only[Bh]),Dx (n:=k+1) (by omega) (by omega)]
   refine .inr ⟨tq u ls (k+1) n l fs.length fs.length nl es v (fcT fs k L a) (f1 g L a 5) L (a1 L a 5),rfl,?_,by simp only[mMk];omega,?_⟩
   ·simp only[tv,Aa,Ab,VE];exact⟨⟨⟨⟨⟨⟨trivial,trivial⟩,by omega⟩,by omega⟩,h3⟩,by omega⟩,by omega⟩
   ·rw[hr',hj];simp only[fMk,VE,hj2,DT.run,tu]
  ·have hz:((fs.length:Int)-k).toNat=0:=by omega
   rw[Ai hi];exact .inl (by rw[hr',hz];rfl)
 ·cases hp
noncomputable def MG2:C9:=MG1.Dr 31 5 [0,2,3,4,5] [true,true,false,false,true] O8 tv fMk
theorem acF:C4 Try.prog MG2.env:=
 acC.Dr (n:=60) Try.func31 (show Try.f31.body=some (D3 Try.f31) by kernel_rfl) (show(loops (D3 Try.f31)).filter (fun b=>Ev b==5)=[Dh Try.f31 5] by kernel_rfl) [0,2,3,4,5] [0,2,3] [true,true,false,false,true] O8 mMk sMk
noncomputable def MG3:C9:=(MG2.FU 31 12 2).JP 31 12 [4,5,6,7,8,9,10,11,12,13,14,15,16,17,18,19,20,21,22,23,24,25,26,27,28,29,30,31,32,33,34,35,36,37,38,39,40,41,42,43,44,45,46,47,48,49,50,51,52,53,54,55,56,57,58,59,60,61,62,63,64]
theorem kF:C4 Try.prog MG3.env:=(acF.FU 31 12 2).JP 31 12 [4,5,6,7,8,9,10,11,12,13,14,15,16,17,18,19,20,21,22,23,24,25,26,27,28,29,30,31,32,33,34,35,36,37,38,39,40,41,42,43,44,45,46,47,48,49,50,51,52,53,54,55,56,57,58,59,60,61,62,63,64]
abbrev ZU(ls:List PV):Int:=if (3:Int)<(ls.length:Int) then 3 else (ls.length:Int)
abbrev Kv(ls:List PV):List PV:=(ls.take ((some (ZU ls)).getD (ls.length:Int)).toNat).drop ((none:Option Int).getD 0).toNat
abbrev mkF(ls:List PV):List PV:=(tu (nth ls 3) (((Gi (Kv ls)).2.length:Int)-0).toNat 0 ((Gi (Kv ls)).2,false,0)).1
abbrev mkE'(ls:List PV):List PV:=((Gy (Kv ls)).drop 0).take (Gy (Kv ls)).length
abbrev mkF'(ls:List PV):List PV:=((mkF ls).drop 0).take (Gi (Kv ls)).2.length
theorem ahN(f:Bool)(ls:List PV):DC Try.prog MG3 60 31 [.Db f 38 ls] =
 bif true&&decide (0<=ZU ls)&&decide (ZU ls<=(ls.length:Int)) then bif decide ((Kv ls).length<=3) then
 bif tv (tq f ls 0 (Gy (Kv ls)).length (Gy (Kv ls)).length (Gi (Kv ls)).2.length (Gi (Kv ls)).2.length (kl (Kv ls)) (Gy (Kv ls)) (Gi (Kv ls)).1 (Gi (Kv ls)).2 false (nth ls 3) 0) then
 bif ((((Gy (Kv ls)).length==(Gy (Kv ls)).length)&&(((mkF ls).length==(Gi (Kv ls)).2.length)&&true))&&true)&&true then
 bif P0 (mkE' ls)&&decide ((mkE' ls).length<=1000)&&decide ((mkF' ls).length<=1000) then
  some (.agg [.Db false 147 (mkE' ls),.Db false 106 (mkF' ls),.Db false 49 (O7 false (nth ls 4)),.Db false 138 (oQ (mkE' ls) (mkF' ls) (nth ls 5) false).1]) else none else none else none else none else none:=by kernel_rfl
theorem wE{es:List PV}(h:Ma es):P0 es=true:=by
 unfold P0;rw[Ao];intro e he;obtain⟨id,f,ps,lf,rt,rfl,hp⟩:=h e he;exact Ac (show ps.length<=1000 by omega)
def acG(ls:List PV):PV:=.agg [.Db false 147 (mkE' ls),.Db false 106 (mkF' ls),.Db false 49 (O7 false (nth ls 4)),.Db false 138 (oQ (mkE' ls) (mkF' ls) (nth ls 5) false).1]
theorem kG(f:Bool)(ls:List PV):DC Try.prog MG3 60 31 [.Db f 38 ls]=some (acG ls):=by
 obtain⟨hl,he⟩:=ZN (nth (Kv ls) 0) (nth (Kv ls) 1) (nth (Kv ls) 2);change (Gy (Kv ls)).length<=21 at hl
 change Ma (Gy (Kv ls)) at he
 have hF:(Gi (Kv ls)).2.length<=42:=by
  have h1:=cj (Gy (Kv ls));have h2:=cg (Gy (Kv ls));change (Gi (Kv ls)).2.length=_ at h1
  omega
 have hF':(mkF ls).length=(Gi (Kv ls)).2.length:=cw _ _ _ _;have hm:0<=ZU ls/\ZU ls<=(ls.length:Int)/\ZU ls<=3:=by
  show 0<=(if (3:Int)<(ls.length:Int) then 3 else (ls.length:Int))/\(if (3:Int)<(ls.length:Int) then 3 else (ls.length:Int))<=(ls.length:Int)/\(if (3:Int)<(ls.length:Int) then 3 else (ls.length:Int))<=3
  split <;> omega
 have h3:(Kv ls).length<=3:=by
  show((ls.take (ZU ls).toNat).drop 0).length<=3
  rw[AH,Az];omega
 have p5:tv (tq f ls 0 (Gy (Kv ls)).length (Gy (Kv ls)).length (Gi (Kv ls)).2.length (Gi (Kv ls)).2.length (kl (Kv ls)) (Gy (Kv ls)) (Gi (Kv ls)).1 (Gi (Kv ls)).2 false (nth ls 3) 0)=true:=by
  simp only[tv,Aa,Ab];exact⟨⟨⟨⟨⟨⟨trivial,trivial⟩,by omega⟩,by omega⟩,by omega⟩,by omega⟩,by omega⟩
 have hE:mkE' ls=Gy (Kv ls):=by
  show((Gy (Kv ls)).drop 0).take _=_
  rw[AH,Bi]
 have p6:P0 (mkE' ls)=true:=by rw[hE];exact wE he
 have p7:(mkE' ls).length<=1000:=by rw[hE];omega
 have p8:(mkF' ls).length<=1000:=by
  show(((mkF ls).drop 0).take _).length<=1000
  rw[Az];omega
 rw[ahN,Ac hm.1,Ac hm.2.1,Ac h3,p5,p6,Ac p7,Ac p8,hF',AP,AP];rfl
def wF:List PV->Option (DT PV)
 | [.Db _ 38 ls]=>some (.br true (.leaf (acG ls)) .no)
 |_=>none
theorem acH:Hx.Df Try.prog 31:=(Cz kF (n:=60) (kG false [])).1
theorem ahO(args:List PV)(d:DT PV)(r:PV)(h:wF args=some d)(hr:d.run=some r):Ds Try.prog 31 args r:=by
 unfold wF at h;split at h
 ·rename_i f ls;cases h;obtain⟨_,rfl⟩:=DO hr;exact(Cz kF (n:=60) (kG f ls)).2
 ·cases h
def Sm(x:Int):Prop:=0<=x/\x<=400
theorem Lo{i:Int}(h0:0<=i)(h1:i<=4):Sm (H5 i):=by
 show 0<=W (55+W (80*i))/\W (55+W (80*i))<=400
 rw[Dx (n:=80*i) (by omega) (by omega),Dx (by omega) (by omega)];omega
theorem Lp{i:Int}(h0:0<=i)(h1:i<=4):Sm (H6 i):=by
 show 0<=W (65+W (70*i))/\W (65+W (70*i))<=400
 rw[Dx (n:=70*i) (by omega) (by omega),Dx (by omega) (by omega)];omega
def MX(es:List PV):Prop:=∀ k e,es[k]? = some e->∃ ax ay bx b' lv L a,e=oM ax ay bx b' lv k L a/\Sm ax/\Sm ay/\Sm bx/\Sm b'
theorem kH{ax ay bx b' lv:Int}{L:List PV}{s:EW}(h:MX s.1)(h1:Sm ax)(h2:Sm ay)(h3:Sm bx)(h4:Sm b'):MX (Un ax ay bx b' lv L s).1:=by
 intro k e he;have he:(s.1++[oM ax ay bx b' lv s.1.length L s.2.2.1])[k]? = some e:=he;rw[AQ]at he;split at he
 ·exact h k e he
 ·rename_i hk;have hk2:k=s.1.length:=by
   have:=(Ad.1 he).1;simp at this;omega
  subst hk2;rw[Dn]at he;cases he;exact⟨_,_,_,_,_,_,_,rfl,h1,h2,h3,h4⟩
theorem tw{L:List PV}{x0 y0 x1 y1:Int}{s:EW}(h:MX s.1)(h1:Sm x0)(h2:Sm y0)(h3:Sm x1)(h4:Sm y1):MX (VB L x0 y0 x1 y1 s).1:=by
 unfold VB;cases dI L s.2.2.1 2==0
 ·exact h
 ·exact kH (s:=Oe L s) h h1 h2 h3 h4
theorem tx{L:List PV}{j:Int}(j0:0<=j)(j1:j<=4):∀{m:Nat} {i:Int} {s:EW},0<=i->i+m<=4->MX s.1->MX (er L j m i s).1
 |0,_,_,_,_,h=>h
 |m+1,i,s,h0,h1,h=>by
  have:((m+1:Nat):Int)=(m:Int)+1:=by simp
  exact tx j0 j1 (m:=m) (by omega) (by omega) (tw h (Lo h0 (by omega)) (Lp j0 j1) (Lo (by omega) (by omega)) (Lp j0 j1))
theorem tz{L:List PV}:∀{m:Nat} {j:Int} {s:EW},0<=j->j+m<=4->MX s.1->MX (et L m j s).1
 |0,_,_,_,_,h=>h
 |m+1,j,s,h0,h1,h=>by
  have:((m+1:Nat):Int)=(m:Int)+1:=by simp
  exact tz (m:=m) (by omega) (by omega) (tx h0 (by omega) (BK 0) (by decide) h)
theorem tA{L:List PV}:∀{m:Nat} {i:Int} {s:EW},0<=i->i+m<=4->MX s.1->MX (ZS L m i s).1
 |0,_,_,_,_,h=>h
 |m+1,i,s,h0,h1,h=>by
  have:((m+1:Nat):Int)=(m:Int)+1:=by simp
  simp only[ZS];cases decide ((s.1.length:Int)<5)
  ·exact h
  ·exact tA (m:=m) (by omega) (by omega) (tw h (Lo h0 (by omega)) (Lp (by omega) (by omega)) (Lo h0 (by omega)) (Lp (by omega) (by omega)))
theorem acI{L:List PV}{s:EW}(h:MX s.1):MX (ZT L s).1:=by
 have d1:=IZ L (aI L s.2.2.1) (n:=2) (by omega);have d2:=ID L (aI L s.2.2.1) (n:=2) (by omega);unfold ZT;cases dI L s.2.2.1 3==0
 ·exact h
 ·refine kH (s:=Oe L (Oe L s)) h (Lo (by omega) (by omega)) (Lp (by omega) (by omega)) ?_ (Lp (by omega) (by omega));rw[Dx (n:=2+dI L (aI L s.2.2.1) 2) (by omega) (by omega)];exact Lo (by omega) (by omega)
theorem acJ{L:List PV}{s:EW}(h:MX s.1):MX (oP L s).1:=by
 unfold oP;cases dI L s.2.2.1 4==0
 ·exact h
 ·exact kH (s:=Oe L s) h (Lo (by omega) (by omega)) (Lp (by omega) (by omega)) (Lo (by omega) (by omega)) (Lp (by omega) (by omega))
theorem wG(f:Bool)(L:List PV):MX (O7 f L):=acJ (acI (tA (BK 0) (by decide) (tz (BK 0) (by decide) (fun k e h=>by simp at h))))
theorem XZ(f:Bool)(L:List PV):(O7 f L).length<=12:=by
 obtain⟨_,_,_,a4,_,_⟩:=tj L f;obtain⟨_,b2,_,_⟩:=kt L (Of L f);have h2:(oP L (ZT L (Of L f))).1.length<=(ZT L (Of L f)).1.length+1:=by
  unfold oP;cases dI L (ZT L (Of L f)).2.2.1 4==0
  ·exact CG _
  ·rw[Aj,QY];exact Al _
 show(oP L (ZT L (Of L f))).1.length<=12
 omega
theorem kI(ax ay bx b' lv:Int)(k:Nat)(L:List PV)(a:Int):wL (oM ax ay bx b' lv k L a)=SZ ax ay bx b' L a++[FL bx b']:=rfl
theorem wH(ax ay bx b' lv:Int)(k:Nat)(L:List PV)(a:Int):2<=(wL (oM ax ay bx b' lv k L a)).length/\(wL (oM ax ay bx b' lv k L a)).length<=4:=by
 have:=ZQ L a;rw[kI,Ar,Od];simp only[As,AC];omega
theorem X0{f:Bool}{L:List PV}{e:PV}(h:e∈O7 f L):∃ ax ay bx b' lv k N a,e=oM ax ay bx b' lv k N a/\Sm ax/\Sm ay/\Sm bx/\Sm b':=by
 obtain⟨k,hk,rfl⟩:=List.getElem_of_mem h;obtain⟨ax,ay,bx,b',lv,N,a,h2⟩:=wG f L k _ (Ae hk);exact⟨ax,ay,bx,b',lv,k,N,a,h2⟩
theorem Ki{f:Bool}{L:List PV}{e:PV}(h:e∈O7 f L):2<=(wL e).length/\(wL e).length<=4:=by
 obtain⟨ax,ay,bx,b',lv,k,N,a,rfl,_⟩:=X0 h;exact wH ax ay bx b' lv k N a
theorem oT(f:Bool)(L:List PV):IF (O7 f L):=⟨by have:=XZ f L;omega,fun e h=>by have:=Ki h;omega⟩
theorem ew(f:Bool)(L:List PV):Ei Ee (O7 f L):=fun e h=>by
 obtain⟨ax,ay,bx,b',lv,k,N,a,rfl,_⟩:=X0 h;rfl
noncomputable def L0:C9:=R89.DH 31 wF
theorem acK:C4 Try.prog L0.env:=abj.DH acH ahO
theorem ahP(x y:Int):DC Try.prog L0 60 29 [iv x,iv y]=some (DU x y 0):=by kernel_rfl
def wK:List PV->Option PV | [.val (.int .i64 x),.val (.int .i64 y)]=>some (DU x y 0) |_=>none
theorem ahQ(args:List PV)(r:PV)(h:wK args=some r):Hx.Df Try.prog 29/\Ds Try.prog 29 args r:=by
 unfold wK at h;split at h
 ·rename_i x y;cases h;exact Cz acK (n:=60) (ahP x y)
 ·cases h
noncomputable def L1:C9:=L0.EM 29 wK
theorem acL:C4 Try.prog L1.env:=acK.EM ahQ
abbrev exW(i x y z a l:Int)(s:Bool):PV:=LQ i false [FL x y,FL z a] l .empty .empty s 0 0
abbrev Md:List PV:=[exW 1 0 0 30 0 0 false,exW 2 30 0 30 40 0 false,exW 3 0 0 30 40 0 true,exW 4 30 40 60 40 0 false,exW 5 0 0 60 40 1 false]
theorem qEx:tB Try.prog L1 60 28 []=some (.Db false 49 Md):=by kernel_rfl
def cEx:List PV->Option PV | []=>some (.Db false 49 Md) |_=>none
theorem oEx(args:List PV)(r:PV)(h:cEx args=some r):Hx.Df Try.prog 28/\Ds Try.prog 28 args r:=by
 unfold cEx at h;split at h
 ·cases h;exact X2 acL (n:=60) qEx
 ·cases h
noncomputable def L2:C9:=L1.EM 28 cEx
theorem ZX:C4 Try.prog L2.env:=acL.EM oEx
noncomputable abbrev kJ(fl:Bool)(x y z:Int):Option Ky:=Jz Md fl (0,0,0) (x,y,z)
theorem qPx(x y z c:Int)(fl g:Bool)(ids:List PV):DC Try.prog L2 60 30 [DU x y z,bv fl,iv c,.Db g 3 ids] =
 bif dB (IF Md)&&EL Ee Md then
 bif decide (c<0) then bif !(kJ fl x y z).isSome then bif oC (kJ fl x y z)==0 then some (bv ((((oI (kJ fl x y z)).map iv).length:Int)==0)) else some (bv false) else some (bv false)
 else bif (kJ fl x y z).isSome then bif oC (kJ fl x y z)==c then bif decide (((oI (kJ fl x y z)).map iv).length<=1000000) then some (bv (decide (Dj ((oI (kJ fl x y z)).map iv)=Dj ids))) else none else some (bv false) else some (bv false)
 else none:=by kernel_rfl
theorem X3:IF Md:=⟨by decide,fun e he=>by
 simp only[AK,B9,Cw]at he;rcases he with rfl |rfl |rfl |rfl |rfl <;> decide⟩
theorem cz:Ei Ee Md:=fun e he=>by
 simp only[AK,B9,Cw]at he;rcases he with rfl |rfl |rfl |rfl |rfl <;> rfl
theorem X4:E7 Md (0,0,0):=⟨_,AL ..,by decide,.inl rfl⟩
theorem wM:E7 Md (30,0,0):=⟨_,AL ..,by decide,.inr rfl⟩
theorem exF:Ks Md false (0,0,0)=[((0,0,0),0,[]),((30,0,0),30,[1]),((30,40,0),50,[3]),((60,40,0),80,[3,4])]:=(JC X4).trans (by kernel_rfl)
theorem exT:Ks Md true (0,0,0)=[((0,0,0),0,[]),((30,0,0),30,[1]),((30,40,0),70,[1,2]),((60,40,0),100,[1,2,4])]:=(JC X4).trans (by kernel_rfl)
theorem exG:Ks Md false (30,0,0)=[((30,0,0),0,[]),((0,0,0),30,[1]),((30,40,0),40,[2]),((60,40,0),70,[2,4])]:=(JC wM).trans (by kernel_rfl)
theorem tC{x y z:Int}(h:∀ k,((x,y,z),k)∉Ks Md false (0,0,0)):kJ false x y z=none:=by
 cases hk:kJ false x y z with
 |none=>rfl
 |some k=>exact absurd ((JD X3).2 hk) (h k)
theorem VF:(dB (IF Md)&&EL Ee Md)=true:=by rw[DB.2 X3,DX.2 cz];rfl
theorem VG{x y z c:Int}{fl g:Bool}{l:List Int}(h:kJ fl x y z=some (c,l))(hc:0<=c)(hl:l.length<=1000000):DC Try.prog L2 60 30 [DU x y z,bv fl,iv c,.Db g 3 (l.map iv)]=some (bv true):=by
 rw[qPx,VF,h,Ai (show ¬c<0 by omega)];simp only[Cg,oC,oI,AP,Aj,Ap,AV,Ac hl,CV]
theorem cA{x y z:Int}{g:Bool}(h:kJ false x y z=none):DC Try.prog L2 60 30 [DU x y z,bv false,iv (-1),.Db g 3 []]=some (bv true):=by
 rw[qPx,VF,h];rfl
inductive ey:List PV->Prop
 |a {g:Bool}:ey [DU 60 40 0,bv false,iv 80,.Db g 3 [iv 3,iv 4]]
 |b {g:Bool}:ey [DU 60 40 0,bv true,iv 100,.Db g 3 [iv 1,iv 2,iv 4]]
 |c {g:Bool}:ey [DU 0 0 0,bv false,iv 0,.Db g 3 []]
 |d {g:Bool}:ey [DU 1 1 0,bv false,iv (-1),.Db g 3 []]
 |e {g:Bool}:ey [DU 60 40 1,bv false,iv (-1),.Db g 3 []]
theorem O9{args:List PV}(h:ey args):DC Try.prog L2 60 30 args=some (bv true):=by
 cases h with
 |a=>exact VG (l:=[3,4]) ((JD X3).1 (by rw[exF];simp)) (by decide) (by decide)
 |b=>exact VG (l:=[1,2,4]) ((JD X3).1 (by rw[exT];simp)) (by decide) (by decide)
 |c=>exact VG (l:=[]) ((JD X3).1 (by rw[exF];simp)) (by decide) (by decide)
 |d=>exact cA (tC fun k=>by rw[exF];simp)
 |e=>exact cA (tC fun k=>by rw[exF];simp)
theorem ePx:Hx.Df Try.prog 30:=(Cz ZX (n:=60) (O9 (.a (g:=false)))).1
theorem MY{P:Program}{k:FuncId}{t:TypeId}{ags:List PV}{r:PV}(h:Ds P k (ags++[.Db false t []]) r):Ds P k (ags++[.val (.slice none 0 0)]) r:=by
 intro C hR Vs hs;refine h C hR Vs ⟨by rw[hs.1];simp,fun j c v g1 g2=>?_⟩;rw[AQ]at g1;split at g1
 ·rename_i hj;exact hs.2 j c v (by rw[AQ,Ak hj];exact g1) g2
 ·rename_i hj;have hj2:j-ags.length=0:=by
   have:=(Ad.1 g1).1;simp at this;omega
  rw[hj2]at g1;cases g1;have:=hs.2 j _ v (by rw[AQ,Aq hj,hj2];rfl) g2;cases this;exact .Db 0 0 (fun _ _=>undef) (by simp) (fun hf=>by cases hf) (fun h0=>by simp at h0) (fun x e j p hx=>by simp at hx) (fun x e j p hx=>by simp at hx) (fun e he=>by simp at he)
def cPx:List PV->Option PV
 | [.agg [.val (.int .i64 x),.val (.int .i64 y),.val (.int .i64 z)],.val (.bool fl),.val (.int .i64 c),.Db _ 3 [.val (.int .i64 a),.val (.int .i64 b)]]=>match x==60&&y==40&&z==0 && !fl&&c==80&&a==3&&b==4 with |true=>some (bv true) |false=>none
 | [.agg [.val (.int .i64 x),.val (.int .i64 y),.val (.int .i64 z)],.val (.bool fl),.val (.int .i64 c),.Db _ 3 [.val (.int .i64 a),.val (.int .i64 b),.val (.int .i64 d)]]=>match x==60&&y==40&&z==0&&fl&&c==100&&a==1&&b==2&&d==4 with |true=>some (bv true) |false=>none
 | [.agg [.val (.int .i64 x),.val (.int .i64 y),.val (.int .i64 z)],.val (.bool fl),.val (.int .i64 c),.val (.slice none 0 0)]=>
  match !fl&&((x==0&&y==0&&z==0&&c==0)||(x==1&&y==1&&z==0&&c == -1)||(x==60&&y==40&&z==1&&c == -1)) with |true=>some (bv true) |false=>none
 |_=>none
theorem oPx(args:List PV)(r:PV)(h:cPx args=some r):Hx.Df Try.prog 30/\Ds Try.prog 30 args r:=by
 refine⟨ePx,?_⟩;unfold cPx at h;split at h
 ·split at h
  ·rename_i hc;cases h;simp only[Aa,Av,Am]at hc;obtain⟨⟨⟨⟨⟨⟨rfl,rfl⟩,rfl⟩,rfl⟩,rfl⟩,rfl⟩,rfl⟩:=hc;exact(Cz ZX (n:=60) (O9 .a)).2
  ·cases h
 ·split at h
  ·rename_i hc;cases h;simp only[Aa,Av]at hc;obtain⟨⟨⟨⟨⟨⟨⟨rfl,rfl⟩,rfl⟩,rfl⟩,rfl⟩,rfl⟩,rfl⟩,rfl⟩:=hc;exact(Cz ZX (n:=60) (O9 .b)).2
  ·cases h
 ·split at h
  ·rename_i hc;cases h;simp only[Aa,A2,Av,Am]at hc;obtain⟨rfl,(⟨⟨⟨rfl,rfl⟩,rfl⟩,rfl⟩ |⟨⟨⟨rfl,rfl⟩,rfl⟩,rfl⟩) |⟨⟨⟨rfl,rfl⟩,rfl⟩,rfl⟩⟩:=hc
   ·exact MY (ags:=[_,_,_]) (Cz ZX (n:=60) (O9 (.c (g:=false)))).2
   ·exact MY (ags:=[_,_,_]) (Cz ZX (n:=60) (O9 (.d (g:=false)))).2
   ·exact MY (ags:=[_,_,_]) (Cz ZX (n:=60) (O9 (.e (g:=false)))).2
  ·cases h
 ·cases h
noncomputable def L3:C9:=L2.EM 30 cPx
theorem acN:C4 Try.prog L3.env:=ZX.EM oPx
noncomputable abbrev Ho(fl:Bool)(ids:List Int):Int×Bool:=O1 Md fl (0,0,0) (30,40,0) ids
noncomputable abbrev x4:List (PV×PV):=(Ks Md false (30,0,0)).map MW
noncomputable abbrev x5(x y:Int):Int:=((FV (iv 0) x4 (DU x y 0)).cellAt 0).DN
theorem ahT:DC Try.prog L3 60 8 [] =
 bif decide (5<=1000)&&EL Ee Md&&G6 Md then bif decide (5<=1000)&&EL Ee Md&&G6 Md then
 bif dB (IF Md)&&EL Ee Md&&decide (2<=100000) then bif dB (IF Md)&&EL Ee Md&&decide (2<=100000) then bif dB (IF Md)&&EL Ee Md&&decide (1<=100000) then
 bif dB (IF Md)&&EL Ee Md then
 bif (Ho false [1,2]).2 then bif (Ho false [1,2]).1==70 then bif !(Ho false [2,1]).2 then bif !(Ho true [3]).2 then bif (x4.length:Int)==4 then bif x5 0 0==30 then bif x5 30 40==40 then some (bv (x5 60 40==70))
 else some (bv false) else some (bv false) else some (bv false) else some (bv false) else some (bv false) else some (bv false) else some (bv false)
 else none else none else none else none else none else none:=by kernel_rfl
theorem VH:x4=([((30,0,0),0,[]),((0,0,0),30,[1]),((30,40,0),40,[2]),((60,40,0),70,[2,4])]:List Rc).map MW:=by show(Ks Md false (30,0,0)).map MW=_;rw[exG]
theorem ahU:Ho false [1,2]=(70,true):=(Ak X4).trans (by kernel_rfl)
theorem ahV:Ho false [2,1]=(0,false):=(Ak X4).trans (by kernel_rfl)
theorem ahW:Ho true [3]=(0,false):=(Ak X4).trans (by kernel_rfl)
theorem wO:G6 Md=true:=by kernel_rfl
theorem acO:DC Try.prog L3 60 8 []=some (bv true):=by
 have h1:(decide (5<=1000)&&EL Ee Md&&G6 Md)=true:=by rw[DX.2 cz,wO];rfl
 have h2:x5 0 0=30:=by show((FV (iv 0) x4 (DU 0 0 0)).cellAt 0).DN=30;rw[VH];kernel_rfl
 have h3:x5 30 40=40:=by show((FV (iv 0) x4 (DU 30 40 0)).cellAt 0).DN=40;rw[VH];kernel_rfl
 have h4:x5 60 40=70:=by show((FV (iv 0) x4 (DU 60 40 0)).cellAt 0).DN=70;rw[VH];kernel_rfl
 rw[ahT,h1,VF,ahU,ahV,ahW,h2,h3,h4,VH];rfl
def wP:List PV->Option PV | []=>some (bv true) |_=>none
theorem ahX(args:List PV)(r:PV)(h:wP args=some r):Hx.Df Try.prog 8/\Ds Try.prog 8 args r:=by
 unfold wP at h;split at h
 ·cases h;exact Cz acN (n:=60) acO
 ·cases h
noncomputable def L4:C9:=L3.EM 8 wP
theorem ahY:C4 Try.prog L4.env:=acN.EM ahX
noncomputable def acP(ls:List PV):{y:List PV // y=O7 false (nth ls 4)}:=Classical.choice ⟨⟨_,rfl⟩⟩
noncomputable abbrev P1(ls:List PV):List PV:=(acP ls).1
theorem S4(ls:List PV):P1 ls=O7 false (nth ls 4):=(acP ls).2
noncomputable def kK:List PV->Option (DT PV)
 | [.Db _ 38 ls]=>some (.br true (.leaf (.agg [.Db false 147 (mkE' ls),.Db false 106 (mkF' ls),.Db false 49 (P1 ls),.Db false 138 (oQ (mkE' ls) (mkF' ls) (nth ls 5) false).1])) .no)
 |_=>none
theorem acQ(args:List PV)(d:DT PV)(r:PV)(h:kK args=some d)(hr:d.run=some r):Ds Try.prog 31 args r:=by
 unfold kK at h;split at h
 ·rename_i f ls;cases h;obtain⟨_,rfl⟩:=DO hr;rw[S4];exact(Cz kF (n:=60) (kG f ls)).2
 ·cases h
noncomputable def L5:C9:=(L4.DH 20 nh).DH 31 kK
theorem wQ:C4 Try.prog L5.env:=(ahY.DH zw zx).DH acH acQ
theorem VI{ls:List PV}{e:PV}(h:e∈P1 ls):e∈O7 false (nth ls 4):=by rw[<- S4];exact h
theorem VJ(ls:List PV):IF (P1 ls):=by rw[S4];exact oT _ _
theorem S5(ls:List PV):Ei Ee (P1 ls):=by rw[S4];exact ew _ _
theorem cB(ls:List PV):(P1 ls).length<=12:=by rw[S4];exact XZ ..
noncomputable abbrev Nd(ls:List PV):List PV:=DL (P1 ls) []
noncomputable def tD(ls:List PV)(n:Int):{t:T3 // t=if (Nd ls).length=0 then (0,0,0) else DA ((Nd ls).getD (n % ((Nd ls).length:Int)).toNat .any)}:=Classical.choice ⟨⟨_,rfl⟩⟩
noncomputable abbrev MZ(ls:List PV)(n:Int):T3:=(tD ls n).1
theorem QZ(ls:List PV)(n:Int):MZ ls n=if (Nd ls).length=0 then (0,0,0) else DA ((Nd ls).getD (n % ((Nd ls).length:Int)).toNat .any):=(tD ls n).2
noncomputable def tE(ls:List PV):{b:Bool // b = !((Nd ls).length==0)}:=Classical.choice ⟨⟨_,rfl⟩⟩
noncomputable abbrev wR(ls:List PV):Bool:=(tE ls).1
theorem cC(ls:List PV):wR ls = !((Nd ls).length==0):=(tE ls).2
abbrev csV(g:Bool)(ls:List PV)(p q r fr tt:Int)(fl:Bool):PV:=.agg [.Db g 38 ls,iv p,iv q,iv r,iv fr,iv tt,bv fl]
abbrev x6(n:Int)(m:Nat):Bool:=decide (0<=n % (m:Int))&&decide (n % (m:Int)<(m:Int))
abbrev gtM(m:Nat):Bool:=decide (0<(m:Int))&&decide ((m:Int)<=4611686018427387904)
noncomputable abbrev x7(ls:List PV)(n:Int):PV:=(Nd ls).getD (n % ((Nd ls).length:Int)).toNat .any
theorem acT(g:Bool)(ls:List PV)(p q r fr tt:Int)(fl:Bool):DC Try.prog L5 60 9 [csV g ls p q r fr tt fl] =
 bif decide ((P1 ls).length<=1000)&&G6 (P1 ls) then bif ((Nd ls).length:Int)==0 then some (.D8 [.val (.slice none 0 0),DU 0 0 0,DU 0 0 0,bv false]) else
 bif gtM (Nd ls).length then bif x6 fr (Nd ls).length then bif gtM (Nd ls).length then bif x6 tt (Nd ls).length then
  some (.D8 [.Db false 49 (P1 ls),DU (gX (x7 ls fr)) (gY (x7 ls fr)) (gL (x7 ls fr)),DU (gX (x7 ls tt)) (gY (x7 ls tt)) (gL (x7 ls tt)),bv true])
 else none else none else none else none else none:=by kernel_rfl
theorem ZY{P:Program}{k:FuncId}{args:List PV}{t:TypeId}{p q r:PV}(h:Ds P k args (.D8 [.val (.slice none 0 0),p,q,r])):Ds P k args (.D8 [.Db false t [],p,q,r]):=by
 intro C hR Vs hs;refine(h C hR Vs hs).mono ?_
 rintro e w' ⟨V,h1,h2,h3⟩
 refine⟨V,h1,h2,?_⟩;cases h3 with
 |D8 hs h=>
  refine .D8 hs fun j c v g1 g2=>?_
  match j with
  |0=>
   cases g1;have h4:=h 0 _ v rfl g2;cases h4;exact .Db 0 0 (fun _ _=>undef) (by simp) (fun hf=>by cases hf) (fun h0=>by simp at h0) (fun x e j p hx=>by simp at hx) (fun x e j p hx=>by simp at hx) (fun e he=>by simp at he)
  |j+1=>exact h (j+1) c v g1 g2
theorem oU{ls:List PV}(h:(Nd ls).length=0):P1 ls=[]:=by
 cases hw:P1 ls with
 |nil=>rfl
 |cons e w=>
  have he:e∈P1 ls:=by rw[hw];exact AL ..
  have hl:=Ki (VI he);have:DA (eF e)∈(Nd ls).map DA:=FW.2 ⟨e,he,by omega,.inl rfl⟩;have h0:Nd ls=[]:=List.length_eq_zero_iff.1 h;rw[h0]at this;cases this
theorem tF(g:Bool)(ls:List PV)(p q r fr tt:Int)(fl:Bool):Hx.Df Try.prog 9/\Ds Try.prog 9 [csV g ls p q r fr tt fl] (.D8 [.Db false 49 (P1 ls),IL (MZ ls fr),IL (MZ ls tt),bv (wR ls)]):=by
 have h1:=(VJ ls).G6;have h2:=cB ls;have h3:=NZ (P1 ls) [];have hq:=acT g ls p q r fr tt fl;rw[Ac (show(P1 ls).length<=1000 by omega),h1]at hq;by_cases h0:(Nd ls).length=0
 ·rw[show(((Nd ls).length:Int)==0)=true by simp[h0]]at hq;simp only[A_,Aj]at hq;obtain⟨q1,q2⟩:=Cz wQ hq;refine⟨q1,?_⟩;rw[oU h0,QZ,QZ,cC,Ak h0,Ak h0,show(!((Nd ls).length==0))=false by simp[h0]];exact ZY q2
 ·have g0:(0:Int)<((Nd ls).length:Int):=by omega
  have g1:gtM (Nd ls).length=true:=by
   have h6:(Nd ls).length<=24:=Bb h3 (by show 0+2*(P1 ls).length<=24;omega);show(decide (0<((Nd ls).length:Int))&&decide (((Nd ls).length:Int)<=4611686018427387904))=true
   rw[Ac g0,Ac (by omega)];rfl
  have g2:∀ n:Int,x6 n (Nd ls).length=true:=fun n=>by
   have a1:=Cm n (show((Nd ls).length:Int)≠0 by omega);have a2:=Ca n g0;simp only[x6,Aa,Ab];exact⟨a1,a2⟩
  rw[show(((Nd ls).length:Int)==0)=false from AM.2 (by omega),g1,g2,g2]at hq;simp only[A_,Aj,Ap]at hq;obtain⟨q1,q2⟩:=Cz wQ hq;refine⟨q1,?_⟩;rw[QZ,QZ,cC,Aq h0,Aq h0,show(!((Nd ls).length==0))=true by simp[h0]];exact q2
noncomputable def kL:List PV->Option (DT PV)
 | [.agg [.Db _ 38 ls,.val (.int .i64 _),.val (.int .i64 _),.val (.int .i64 _),.val (.int .i64 fr),.val (.int .i64 tt),.val (.bool _)]]=>some (.br true (.leaf (.D8 [.Db false 49 (P1 ls),IL (MZ ls fr),IL (MZ ls tt),bv (wR ls)])) .no)
 |_=>none
theorem eMade':Hx.Df Try.prog 9:=(tF false [] 0 0 0 0 0 false).1
theorem oMade'(args:List PV)(d:DT PV)(r:PV)(h:kL args=some d)(hr:d.run=some r):Ds Try.prog 9 args r:=by
 unfold kL at h;split at h
 ·rename_i g ls p q r0 fr tt fl;cases h;obtain⟨_,rfl⟩:=DO hr;exact(tF g ls p q r0 fr tt fl).2
 ·cases h
noncomputable def L6:C9:=L5.DH 9 kL
theorem wS:C4 Try.prog L6.env:=wQ.DH eMade' oMade'
abbrev ahZ:Y1:=.one 25 7 (.agg [.Db 38,Dm,Dm,Dm,Dm,Dm,.bool])
abbrev ah0:Y1:=.one 28 2 (.agg [Dm,Dm])
abbrev acU:Y1:=.one 30 3 aS
noncomputable def enB(ws:List PV):Bool:=decide (ws.length<=1000)&&EL Ee ws&&G6 ws


theorem eA{ws:List PV}{fl:Bool}{s t:T3}{k:Ky}:Jz ws fl s t=some k ↔ E7 ws s/\Kq (gE fl ws) s t k:=by
 by_cases hs:E7 ws s
 ·rw[N6 hs,EO];simp[hs]
 ·rw[LI hs];simp[hs]

noncomputable abbrev acV(ws:List PV):Bool:=dB (IF ws)&&EL Ee ws
abbrev idL(o:Option Ky):List PV:=(oI o).map iv
theorem oV{ws:List PV}(h:IF ws)(hN:Ei Ee ws):acV ws=true:=by
 show(dB (IF ws)&&EL Ee ws)=true
 rw[DB.2 h,DX.2 hN];rfl
theorem kM{ws:List PV}(h:IF ws){fl:Bool}{s t:T3}{k:Ky}(hk:Jz ws fl s t=some k):k.2.length<=1000:=by
 have hs:=(eA.1 hk).1;have hc:=(JD h).2 hk;rw[JC hs]at hc;have hD:=HZ (Mu s (GM (fl:=fl) h)) (AL (a:=s) ..);have h1:=(hD.bD _ hc).1;have h2:=hD.cap;have h3:=Vi (Dg (Dd fl) ws);have h4:=EE (d:=Dd fl) ws;have h5:=h.SO;have h6:(ZE (Dg (Dd fl) ws) s).length=1+(gU (Dg (Dd fl) ws)).length:=by simp[Nat.add_comm]
 simp only at h1;omega
theorem oW{ws:List PV}(h:IF ws)(fl:Bool)(s t:T3):(idL (Jz ws fl s t)).length<=1000:=by
 cases hk:Jz ws fl s t with
 |none=>exact AR _
 |some k=>rw[AV];exact kM h hk
abbrev S6(ws:List PV):Nat:=0+ws.length
abbrev eV(ws:List PV):List PV:=[]++ws
abbrev kQ(ws:List PV)(q:Int):Nat:=0+(q % ((S6 ws:Nat):Int)).toNat
abbrev Og(ws:List PV)(q:Int):PV:=(eV ws).getD (kQ ws q) .any
abbrev Up(ws:List PV):Bool:=(eV ws).length==S6 ws
abbrev odQ(p q r:Int):Row:={ es:=[.agg [iv p,iv q,iv r]],s:=3,t:=23,bv:=true }
abbrev odR(b:Bool)(es:List PV):Row:={ es,s:=8,t:=49,bv:=b }
noncomputable def x8(ws:List PV)(H:List Row)(es:List PV):Option PV:=
 bif es.length==S6 ws then bif eB Try.prog 49 H ((es.drop 0).take (S6 ws)) then some (.Db false 49 (((es.drop 0).take (S6 ws)).map (Qu Try.prog 49 H))) else none else none
abbrev tG(x:PV)(i L lv st:PV):PV:=.agg [i,L,lv,.val (.string (x.cellAt 3).Hz),.val (.string (x.cellAt 4).Hz),st,iv (x.cellAt 6).DN,iv (x.cellAt 7).DN]
abbrev odL(x:PV):PV:=.Db false 28 (wL x)
noncomputable def wT(p q r:Int)(ws:List PV)(b:Bool)(e:PV):Option PV:=
 bif Up ws then bif true&&Up ws then bif (((true&&Up ws)&&true)&&true)&&true then x8 ws [odQ p q r,odR b ((eV ws).set (kQ ws q) e)] ((eV ws).set (kQ ws q) e) else none else none else none
abbrev odP(x:PV):PV:=FL (ptX (wL x) 0) (ptY (wL x) 0)
abbrev x9(x:PV):Nat:=0+(wL x).length+1
noncomputable def od5(p q r:Int)(ws:List PV)(x:PV):Option PV:=
 bif Up ws then bif true&&Up ws then bif Up ws then bif true&&decide ((0+(wL x).length)*16<=140737488355328) then bif Up ws then bif true&&Up ws then bif Up ws then bif true&&decide (0<((wL x).length:Int)) then
 bif ((true&&decide (([]++wL x).length=0+(wL x).length))&&decide (0+(wL x).length=0+(wL x).length))&&decide (x9 x*16<=140737488355328) then
 bif Up ws then bif true&&Up ws then bif (((true&&Up ws)&&true)&&true)&&true then
  x8 ws [odQ p q r,odR false ((eV ws).set (kQ ws q) (tG x (iv (wI x)) (.sl 2 (x9 x) 0 (x9 x)) (iv (MQ x)) (bv (IX x)))),{ es:=([]++wL x)++[odP x],s:=2,t:=28,bv:=true },{ es:=[odP x],s:=2,t:=28,bv:=true }] ((eV ws).set (kQ ws q) (tG x (iv (wI x)) (.sl 2 (x9 x) 0 (x9 x)) (iv (MQ x)) (bv (IX x))))
 else none else none else none else none else none else none else none else none else none else none else none else none
theorem ah3(f:Bool)(ws:List PV)(p q r:Int):kP Try.prog L6 60 11 [.Db f 49 ws,.agg [iv p,iv q,iv r]] =
 bif true&&decide (S6 ws*96<=140737488355328) then bif ((S6 ws:Nat):Int)==0 then x8 ws [odQ p q r,odR true (eV ws)] (eV ws) else
 bif gtM (S6 ws) then bif (true&&Up ws)&&true then bif x6 q (S6 ws) then
 bif p % 6==0 then wT p q r ws false (tG (Og ws q) (iv (wI (Og ws q))) (.val (.slice none 0 0)) (iv (MQ (Og ws q))) (bv (IX (Og ws q)))) else
 bif p % 6==1 then wT p q r ws true (tG (Og ws q) (iv (W (41+r % 6))) (odL (Og ws q)) (iv (MQ (Og ws q))) (bv (IX (Og ws q)))) else
 bif p % 6==2 then bif Up ws then bif true&&Up ws then bif Up ws then wT p q r ws true (tG (Og ws q) (iv (wI (Og ws q))) (odL (Og ws q)) (iv (MQ (Og ws q))) (bv (!IX (Og ws q)))) else none else none else none else
 bif p % 6==3 then bif Up ws then bif true&&Up ws then bif Up ws then bif true&&decide (1<=((wL (Og ws q)).length:Int)) then wT p q r ws true (tG (Og ws q) (iv (wI (Og ws q))) (.Db false 28 (((wL (Og ws q)).take ((some (1:Int)).getD ((wL (Og ws q)).length:Int)).toNat).drop ((none:Option Int).getD 0).toNat)) (iv (MQ (Og ws q))) (bv (IX (Og ws q)))) else none else none else none else none else
 bif p % 6==4 then wT p q r ws true (tG (Og ws q) (iv (wI (Og ws q))) (odL (Og ws q)) (iv (W (r % 3-1))) (bv (IX (Og ws q)))) else
 bif p % 6==5 then od5 p q r ws (Og ws q) else x8 ws [odQ p q r,odR true (eV ws)] (eV ws)
 else none else none else none else none:=by kernel_rfl
abbrev ya(x:PV)(i:Int)(L:List PV)(lv:Int)(st:Bool):PV:=tG x (iv i) (.Db false 28 L) (iv lv) (bv st)
def X5(p r:Int)(x:PV):PV:=
 bif p % 6==0 then ya x (wI x) [] (MQ x) (IX x) else bif p % 6==1 then ya x (41+r % 6) (wL x) (MQ x) (IX x) else bif p % 6==2 then ya x (wI x) (wL x) (MQ x) (!IX x) else
 bif p % 6==3 then ya x (wI x) ((wL x).take 1) (MQ x) (IX x) else bif p % 6==4 then ya x (wI x) (wL x) (r % 3-1) (IX x) else ya x (wI x) (wL x++[odP x]) (MQ x) (IX x)
def To(p q r:Int)(ws:List PV):List PV:=bif ws.length==0 then [] else ws.set (kQ ws q) (X5 p r (Og ws q))
structure kR(ws:List PV):Prop where
 ok:IF ws
 norm:Ei Ee ws
 ne:∀ e∈ws,(wL e).length≠0
def X6(H:List Row)(e e':PV):Prop:=((e.cells.all fun c=>mlt 0 (frz H 0 c))&&wt Try.prog 49 (Qu Try.prog 49 H e))=true/\Qu Try.prog 49 H e=e'
theorem Pa(H:List Row)(i:Int)(f:Bool)(L:List PV)(lv:Int)(cs nm:ByteArray)(st:Bool)(wt' ds:Int):X6 H (LQ i f L lv cs nm st wt' ds) (LQ i false L lv cs nm st wt' ds):=⟨by kernel_rfl,by kernel_rfl⟩
theorem wU(H:List Row)(i:Int)(lv:Int)(cs nm:ByteArray)(st:Bool)(wt' ds:Int):X6 H (.agg [iv i,.val (.slice none 0 0),iv lv,.val (.string cs),.val (.string nm),bv st,iv wt',iv ds]) (LQ i false [] lv cs nm st wt' ds):=⟨by kernel_rfl,by kernel_rfl⟩
theorem cD{H:List Row}{e:PV}(h:Ee e=e):X6 H e e:=by
 have:=Pa H (wI e) false (wL e) (MQ e) (e.cellAt 3).Hz (e.cellAt 4).Hz (IX e) (e.cellAt 6).DN (e.cellAt 7).DN;change X6 H (Ee e) (Ee e) at this
 rw[h]at this;exact this
theorem kS{ws:List PV}{H:List Row}{k:Nat}{y y':PV}(hN:Ei Ee ws)(hy:X6 H y y'):x8 ws H ((eV ws).set k y)=some (.Db false 49 (ws.set k y')):=by
 have e0:eV ws=ws:=Bc ws;have e1:(((ws.set k y).drop 0).take (S6 ws))=ws.set k y:=by
  rw[AH,A7 (by rw[Bh];show _<=0+ws.length;omega)]
 have h1:∀ e∈ws.set k y,∃ e',X6 H e e':=fun e he=>by
  rcases Bu he with he |rfl
  ·exact⟨e,cD (hN e he)⟩
  ·exact⟨y',hy⟩
 have h2:eB Try.prog 49 H (ws.set k y)=true:=by
  unfold eB;rw[Ao];intro e he;obtain⟨e',h3,_⟩:=h1 e he;exact h3
 have h3:(ws.set k y).map (Qu Try.prog 49 H)=ws.set k y':=by
  rw[List.map_set,hy.2];congr 1
  exact(Bt fun e he=>(cD (hN e he)).2).trans (List.map_id' ws)
 unfold x8;rw[e0,e1,h2,h3,Bh,show(ws.length==S6 ws)=true by simp];rfl
theorem Z1(ws:List PV):Up ws=true:=by
 show(([]++ws).length==0+ws.length)=true
 rw[Bc,AN,AP]
theorem S7{ws:List PV}{p q r:Int}{b:Bool}{e e':PV}(hN:Ei Ee ws)(he:∀ H,X6 H e e'):wT p q r ws b e=some (.Db false 49 (ws.set (kQ ws q) e')):=by
 unfold wT;rw[Z1,kS hN (he _)];rfl
theorem wV{H:List Row}{i m:Nat}{es:List PV}(h:Hx.rowAt H i=some { es,s:=2,t:=28,bv:=true })(hm:es.length=m)(id lv:Int)(cs nm:ByteArray)(st:Bool)(wt' ds:Int):
  X6 H (.agg [iv id,.sl i m 0 m,iv lv,.val (.string cs),.val (.string nm),bv st,iv wt',iv ds]) (LQ id false es lv cs nm st wt' ds):=by
 have hf:frz H 0 (.sl i m 0 m)=.Db false 28 es:=by
  unfold frz;rw[Ak (AR _),h];dsimp only;rw[Ak (by simp[hm]),AH,A7 (by omega)]
 have hE:Rp H 0 (.agg [iv id,.sl i m 0 m,iv lv,.val (.string cs),.val (.string nm),bv st,iv wt',iv ds])=LQ id false es lv cs nm st wt' ds:=by
  show PV.agg [frz H 0 (iv id),frz H 0 (.sl i m 0 m),frz H 0 (iv lv),frz H 0 (.val (.string cs)),frz H 0 (.val (.string nm)),frz H 0 (bv st),frz H 0 (iv wt'),frz H 0 (iv ds)]=_
  rw[hf];rfl
 have h0:=Pa H id false es lv cs nm st wt' ds;have h1:Qu Try.prog 49 H (.agg [iv id,.sl i m 0 m,iv lv,.val (.string cs),.val (.string nm),bv st,iv wt',iv ds])=LQ id false es lv cs nm st wt' ds:=by
  unfold Qu;rw[hE];exact h0.2
 refine⟨?_,h1⟩;rw[h1];have h2:wt Try.prog 49 (LQ id false es lv cs nm st wt' ds)=true:=by kernel_rfl
 rw[h2,Br];show(mlt 0 (frz H 0 (iv id))&&(mlt 0 (frz H 0 (.sl i m 0 m))&&(mlt 0 (frz H 0 (iv lv))&&(mlt 0 (frz H 0 (.val (.string cs)))&&(mlt 0 (frz H 0 (.val (.string nm)))&&(mlt 0 (frz H 0 (bv st))&&(mlt 0 (frz H 0 (iv wt'))&&(mlt 0 (frz H 0 (iv ds))&&true))))))))=true
 rw[hf];rfl
theorem cE{ws:List PV}{q:Int}(h0:ws.length≠0):Og ws q∈ws/\kQ ws q<ws.length:=by
 have hc:((S6 ws:Nat):Int)=(ws.length:Int):=by show((0+ws.length:Nat):Int)=_;omega
 have a1:=Cm q (show(ws.length:Int)≠0 by omega);have a2:=Ca q (show(0:Int)<(ws.length:Int) by omega);have hk:kQ ws q<ws.length:=by
  show 0+(q % ((S6 ws:Nat):Int)).toNat<_
  rw[hc];omega
 refine⟨?_,hk⟩;show([]++ws).getD (kQ ws q) .any∈ws
 rw[Bc,Ay,Ae hk];exact Bw _
theorem tH(f:Bool){ws:List PV}(p q r:Int)(h:kR ws):kP Try.prog L6 60 11 [.Db f 49 ws,.agg [iv p,iv q,iv r]]=some (.Db false 49 (To p q r ws)):=by
 have hf:=h.ok.SO;rw[ah3,Ac (show S6 ws*96<=140737488355328 by show(0+ws.length)*96<=_;omega)];by_cases h0:ws.length=0
 ·have:ws=[]:=List.length_eq_zero_iff.1 h0;subst this;rfl
 ·obtain⟨hx,hk⟩:=cE (q:=q) h0;have hl:=h.ok.wl _ hx;have hne:=h.ne _ hx;have hc:((S6 ws:Nat):Int)=(ws.length:Int):=by show((0+ws.length:Nat):Int)=_;omega
  have a1:=Cm q (show(ws.length:Int)≠0 by omega);have a2:=Ca q (show(0:Int)<(ws.length:Int) by omega);have g1:gtM (S6 ws)=true:=by
   show(decide (0<((S6 ws:Nat):Int))&&decide (((S6 ws:Nat):Int)<=4611686018427387904))=true
   rw[hc,Ac (by omega),Ac (by omega)];rfl
  have g2:x6 q (S6 ws)=true:=by
   show(decide (0<=q % ((S6 ws:Nat):Int))&&decide (q % ((S6 ws:Nat):Int)<((S6 ws:Nat):Int)))=true
   rw[hc,Ac a1,Ac a2];rfl
  have r6:=Cm r (show(6:Int)≠0 by decide);have r6':=Ca r (show(0:Int)<6 by decide);have r3:=Cm r (show(3:Int)≠0 by decide);have r3':=Ca r (show(0:Int)<3 by decide);have p6:=Cm p (show(6:Int)≠0 by decide);have p6':=Ca p (show(0:Int)<6 by decide);have hset:To p q r ws=ws.set (kQ ws q) (X5 p r (Og ws q)):=by
   unfold To;rw[show(ws.length==0)=false by simp[h0]];rfl
  rw[hset,Z1,g1,g2,show(((S6 ws:Nat):Int)==0)=false from AM.2 (by rw[hc];omega)];simp only[A_,Aj,Ap];unfold X5;generalize Og ws q=x at hx hl hne;cases c0:p % 6==0 with
  |true=>exact S7 h.norm fun H=>wU H _ _ _ _ _ _ _
  |false=>
  simp only[Ap];cases c1:p % 6==1 with
  |true=>rw[Dx (n:=41+r % 6) (by omega) (by omega)];exact S7 h.norm fun H=>Pa H _ _ _ _ _ _ _ _ _
  |false=>
  simp only[Ap];cases c2:p % 6==2 with
  |true=>exact S7 h.norm fun H=>Pa H _ _ _ _ _ _ _ _ _
  |false=>
  simp only[Ap];cases c3:p % 6==3 with
  |true=>
   simp only[Aj];rw[Ac (show 1<=((wL x).length:Int) by omega)];exact S7 h.norm fun H=>Pa H _ _ _ _ _ _ _ _ _
  |false=>
  simp only[Ap];cases c4:p % 6==4 with
  |true=>rw[Dx (n:=r % 3-1) (by omega) (by omega)];exact S7 h.norm fun H=>Pa H _ _ _ _ _ _ _ _ _
  |false=>
  simp only[Ap];have h5:(p % 6==5)=true:=by
   rw[AM]at c0 c1 c2 c3 c4;rw[Av];omega
  rw[h5,Aj];unfold od5;rw[Z1,Bc,Ac (show(0+(wL x).length)*16<=140737488355328 by omega),Ac (show 0<((wL x).length:Int) by omega),Ac (show(wL x).length=0+(wL x).length by omega),
   Ac (show 0+(wL x).length=0+(wL x).length from rfl),Ac (show x9 x*16<=140737488355328 by show(0+(wL x).length+1)*16<=_;omega)]
  simp only[A_,Aj];exact kS h.norm (wV rfl (by rw[Ar,BY];show _=0+(wL x).length+1;omega) _ _ _ _ _ _ _)
noncomputable def wW:List PV->Option (DT PV)
 | [.Db _ 49 ws,.agg [.val (.int .i64 p),.val (.int .i64 q),.val (.int .i64 r)]]=>some (.br (dB (kR ws)) (.leaf (.Db false 49 (To p q r ws))) .no)
 |_=>none
theorem od0:kR []:=⟨ZD,Vl,fun e h=>by cases h⟩
theorem ah4:Hx.Df Try.prog 11:=(P2 wS (n:=60) (tH false 0 0 0 od0)).1
theorem ah5(args:List PV)(d:DT PV)(r:PV)(h:wW args=some d)(hr:d.run=some r):Ds Try.prog 11 args r:=by
 unfold wW at h;split at h
 ·rename_i f ws p q r0;cases h;obtain⟨h1,rfl⟩:=DO hr;exact(P2 wS (n:=60) (tH f p q r0 (DB.1 h1))).2
 ·cases h
theorem cF{p r:Int}{x:PV}:(wL (X5 p r x)).length<=(wL x).length+1/\Ee (X5 p r x)=X5 p r x:=by
 unfold X5;cases p % 6==0 with
 |true=>exact⟨AR _,rfl⟩
 |false=>
 cases p % 6==1 with
 |true=>exact⟨CG _,rfl⟩
 |false=>
 cases p % 6==2 with
 |true=>exact⟨CG _,rfl⟩
 |false=>
 cases p % 6==3 with
 |true=>exact⟨by show((wL x).take 1).length<=_;rw[Az];omega,rfl⟩
 |false=>
 cases p % 6==4 with
 |true=>exact⟨CG _,rfl⟩
 |false=>exact⟨by show(wL x++[odP x]).length<=_;rw[Ar,BY];exact Al _,rfl⟩
theorem cG{p q r:Int}{ws:List PV}{e:PV}(h:e∈To p q r ws):e∈ws\/∃ x∈ws,e=X5 p r x:=by
 unfold To at h;cases h0:ws.length==0 with
 |true=>rw[h0]at h;cases h
 |false=>
  rw[h0,Ap]at h;have h1:ws.length≠0:=by simpa using h0
  rcases Bu h with h |rfl
  ·exact .inl h
  ·exact .inr ⟨_,(cE h1).1,rfl⟩
theorem wX{p q r:Int}{ls:List PV}:IF (To p q r (P1 ls))/\Ei Ee (To p q r (P1 ls)):=by
 refine⟨⟨?_,fun e he=>?_⟩,fun e he=>?_⟩
 ·have h12:=cB ls;unfold To;cases(P1 ls).length==0
  ·rw[Ap,Bh];omega
  ·exact AR _
 ·rcases cG he with h |⟨x,hx,rfl⟩
  ·exact(VJ ls).wl e h
  ·have:=(cF (p:=p) (r:=r) (x:=x)).1;have:=Ki (VI hx);omega
 ·rcases cG he with h |⟨x,hx,rfl⟩
  ·exact S5 ls e h
  ·exact cF.2
theorem acW(ls:List PV):kR (P1 ls):=⟨VJ ls,S5 ls,fun e he=>by have:=Ki (VI he);omega⟩
noncomputable def C0:C9:=(((L6.DH 11 wW).DH 13 Uj).DH 22 O2).DH 24 cRE
theorem ah6:C4 Try.prog C0.env:=(((wS.DH ah4 ah5).DH vA vB).DH agy agz).DH eRE oRE
noncomputable def C1:C9:=C0.GH 4 6 [(12,3,1)]
theorem ah7:C4 Try.prog C1.env:=ah6.GH 4 6 [(12,3,1)]
def Pb:S1:=⟨164,[(2,.Db 3),(3,.ptr 0 1 0 0),(4,.ptr 1 1 0 0),(7,.bool),(8,.Db 49),(9,.ptr 2 1 0 0),(10,.ptr 3 1 0 0),(12,.sl 4),(45,.Db 3),(46,Dm),(47,Dm)],[ahZ,ah0,acU,acU,.many 3 1]⟩
abbrev wY(f1:Bool)(ids:List PV)(hd f:Bool)(ws:List PV)(n m:Nat)(f2:Bool)(us:List PV)(len i:Int)(g:Bool)(ls:List PV)(p0 p1 p2 p3 p4:Int)(fl:Bool)(px py x0 y0 l0 x1 y1 l1:Int)(nl:Bool)(es:List PV):LS:=([.l f1 ids,.b hd,.l f ws,.n n,.n m,.l f2 us,.i len,.i i],[.l g ls,.i p0,.i p1,.i p2,.i p3,.i p4,.b fl,.i px,.i py,.i x0,.i y0,.i l0,.i x1,.i y1,.i l1,.l nl es])
noncomputable abbrev xCa(f1:Bool)(ids:List PV)(hd f:Bool)(ws:List PV)(n m:Nat)(g:Bool)(ls:List PV)(p0 p1 p2 p3 p4:Int)(fl:Bool)(px py x0 y0 l0 x1 y1 l1:Int)(nl:Bool)(es:List PV):PX×List PV×List Row:=(.exit 0,tm 164 [(2,.Db f1 3 ids),(3,.ptr 0 1 0 0),(4,.ptr 1 1 0 0),(7,bv hd),(8,.Db f 49 ws),(9,.ptr 2 1 0 0),(10,.ptr 3 1 0 0),(12,.sl 4 n 0 m)],(Pb.put (wY f1 ids hd f ws n m false [] 0 0 g ls p0 p1 p2 p3 p4 fl px py x0 y0 l0 x1 y1 l1 nl es)).2)
def mkId(e:PV):PV:=iv (W (41+(e.cellAt 0).DN % 6))
theorem qCa(f1:Bool)(ids:List PV)(hd f:Bool)(ws:List PV)(n m:Nat)(f2:Bool)(us:List PV)(len i:Int)(g:Bool)(ls:List PV)(p0 p1 p2 p3 p4:Int)(fl:Bool)(px py x0 y0 l0 x1 y1 l1:Int)(nl:Bool)(es:List PV):Dc Try.prog C1 60 4 (Dh Try.f4 6) [2,3,4,7,8,9,10,12,45,46,47] [2,3,4,7,8,9,10,12] (Pb.put (wY f1 ids hd f ws n m f2 us len i g ls p0 p1 p2 p3 p4 fl px py x0 y0 l0 x1 y1 l1 nl es)).1 (Pb.put (wY f1 ids hd f ws n m f2 us len i g ls p0 p1 p2 p3 p4 fl px py x0 y0 l0 x1 y1 l1 nl es)).2 =
 bif decide (i<len) then bif F7 us i then bif true&&decide (es.length=n)&&decide (n=m)&&decide ((n+1)*8<=140737488355328) then
  some (.normal,Pb.put (wY f1 ids hd f ws (n+1) (n+1) f2 us len (W (i+1)) g ls p0 p1 p2 p3 p4 fl px py x0 y0 l0 x1 y1 l1 (nl&&false) (es++[mkId (aE us i)]))) else none else none
 else some (xCa f1 ids hd f ws n m g ls p0 p1 p2 p3 p4 fl px py x0 y0 l0 x1 y1 l1 nl es):=by kernel_rfl
noncomputable def tI:LS->Bool
 |([.l _ _,.b _,.l _ _,.n n,.n m,.l _ us,.i len,.i i],.l _ _::.i _::.i _::.i _::.i _::.i _::.b _::.i _::.i _::.i _::.i _::.i _::.i _::.i _::.i _::.l _ es::[])=>dB (n=es.length/\m=n/\len=(us.length:Int)/\0<=i/\i<=len/\us.length<=1000/\es.length<=1000+i.toNat)
 |_=>false
noncomputable def fCa:LS->DT (PX×List PV×List Row)
 |([.l f1 ids,.b hd,.l f ws,.n _,.n _,.l _ us,.i _,.i i],.l g ls::.i p0::.i p1::.i p2::.i p3::.i p4::.b fl::.i px::.i py::.i x0::.i y0::.i l0::.i x1::.i y1::.i l1::.l nl es::[])=>
  .leaf (xCa f1 ids hd f ws (es++(us.drop i.toNat).map mkId).length (es++(us.drop i.toNat).map mkId).length g ls p0 p1 p2 p3 p4 fl px py x0 y0 l0 x1 y1 l1 (nl&&(us.drop i.toNat).isEmpty) (es++(us.drop i.toNat).map mkId))
 |_=>.no
def mCa:LS->Nat
 |([.l _ _,.b _,.l _ _,.n _,.n _,.l _ _,.i len,.i i],_)=>(len-i).toNat
 |_=>0
theorem sCa:∀ s r,tI s=true->(fCa s).run=some r->r.1≠.normal/\(Dc Try.prog C1 60 4 (Dh Try.f4 6) [2,3,4,7,8,9,10,12,45,46,47] [2,3,4,7,8,9,10,12] (Pb.put s).1 (Pb.put s).2=some r \/
   ∃ s',Dc Try.prog C1 60 4 (Dh Try.f4 6) [2,3,4,7,8,9,10,12,45,46,47] [2,3,4,7,8,9,10,12] (Pb.put s).1 (Pb.put s).2=some (.normal,Pb.put s')/\tI s'=true/\mCa s'<mCa s/\(fCa s').run=some r):=by
 intro t r hp hr;unfold tI at hp;split at hp
 ·rename_i f1 ids hd f ws n m f2 us len i g ls p0 p1 p2 p3 p4 fl px py x0 y0 l0 x1 y1 l1 nl es;rw[DB]at hp;obtain⟨rfl,rfl,rfl,h1,h2,h3,h4⟩:=hp;have hr':=(Ah hr).symm;refine⟨by rw[hr'];simp,?_⟩;rw[show Pb.put ([.l f1 ids,.b hd,.l f ws,.n es.length,.n es.length,.l f2 us,.i (us.length:Int),.i i],[.l g ls,.i p0,.i p1,.i p2,.i p3,.i p4,.b fl,.i px,.i py,.i x0,.i y0,.i l0,.i x1,.i y1,.i l1,.l nl es])=Pb.put (wY f1 ids hd f ws es.length es.length f2 us us.length i g ls p0 p1 p2 p3 p4 fl px py x0 y0 l0 x1 y1 l1 nl es) from rfl,qCa];by_cases hi:i<(us.length:Int)
  ·have hl:(es++[mkId (aE us i)]).length=es.length+1:=by rw[Ar];rfl
   rw[Ac hi,D1 h1 hi,Ac (show es.length=es.length from rfl),Ac (show(es.length+1)*8<=140737488355328 by omega),Dx (n:=i+1) (by omega) (by omega)];simp only[A_,Aj];refine .inr ⟨wY f1 ids hd f ws (es.length+1) (es.length+1) f2 us us.length (i+1) g ls p0 p1 p2 p3 p4 fl px py x0 y0 l0 x1 y1 l1 (nl&&false) (es++[mkId (aE us i)]),rfl,by unfold tI;rw[DB];exact⟨hl.symm,rfl,rfl,by omega,by omega,h3,by omega⟩,by simp only[mCa];omega,?_⟩;have e1:es++(us.drop i.toNat).map mkId=(es++[mkId (aE us i)])++(us.drop (i+1).toNat).map mkId:=by rw[Dt h1 hi,AW,BA];rfl
   have e2:(nl&&(us.drop i.toNat).isEmpty)=((nl&&false)&&(us.drop (i+1).toNat).isEmpty):=by rw[Dt h1 hi,List.isEmpty_cons,BG,Cf]
   rw[hr',e1,e2];rfl
  ·rw[Ai hi];rw[AB (by omega)]at hr';refine .inl ?_;rw[hr'];show some (xCa f1 ids hd f ws es.length es.length g ls p0 p1 p2 p3 p4 fl px py x0 y0 l0 x1 y1 l1 nl es)=some (xCa f1 ids hd f ws (es++[]).length (es++[]).length g ls p0 p1 p2 p3 p4 fl px py x0 y0 l0 x1 y1 l1 (nl&&true) (es++[]))
   rw[BV,Br]
 ·cases hp
noncomputable def C2:C9:=C1.Dr 4 6 [2,3,4,7,8,9,10,12,45,46,47] [true,true,true,true,false] Pb tI fCa
theorem ah9:C4 Try.prog C2.env:=
 ah7.Dr (n:=60) Try.func4 (show Try.f4.body=some (D3 Try.f4) by kernel_rfl) (show(loops (D3 Try.f4)).filter (fun b=>Ev b==6)=[Dh Try.f4 6] by kernel_rfl) [2,3,4,7,8,9,10,12,45,46,47] [2,3,4,7,8,9,10,12] [true,true,true,true,false] Pb mCa sCa
noncomputable def C3:C9:=C2.FU 4 10 4
theorem aia:C4 Try.prog C3.env:=ah9.FU 4 10 4
abbrev Z2(ids:List PV):Int:=if (8:Int)<(ids.length:Int) then 8 else (ids.length:Int)
abbrev VK(ids:List PV):List PV:=(ids.take ((some (Z2 ids)).getD (ids.length:Int)).toNat).drop ((none:Option Int).getD 0).toNat
abbrev wZ(ids:List PV):List PV:=[]++((VK ids).drop (0:Int).toNat).map mkId
abbrev mdB(ids:List PV):List PV:=((wZ ids).drop 0).take (wZ ids).length
noncomputable abbrev w0(X L:List PV):Bool:=dB (IF X)&&EL Ee X&&decide (L.length<=100000)
abbrev oX:Option PV:=some (bv false)
noncomputable def w6(X:List PV)(fl:Bool)(F T:T3)(L:List PV)(b:Bool)(K:Option PV):Option PV:=
 (bif b then bif w0 X L then bif b then bif w0 X L then bif !((O1 X fl F T (Dj L)).1==(O1 X fl F T (Dj L)).1) then oX else bif !((O1 X fl F T (Dj L)).2==(O1 X fl F T (Dj L)).2) then oX else K else none else none else none else none)
noncomputable def en2(X:List PV)(x y:Int)(K:Option PV):Option PV:=
 bif enB X then bif decide (X.length<=1000)&&G6 X then
 bif !(MS (EF x y true (0,0,0) (I6 X)).1 (EF x y true (0,0,0) (I6 X)).2.1 (EF x y true (0,0,0) (I6 X)).2.2 (EF x y true (0,0,0) (DL X [])).1 (EF x y true (0,0,0) (DL X [])).2.1 (EF x y true (0,0,0) (DL X [])).2.2) then oX else
 bif !(decide (((I6 X).length:Int) > 0)==decide (((DL X []).length:Int) > 0)) then oX else K else none else none
noncomputable def rdC(X:List PV)(fl:Bool)(F T:T3)(ids:List PV)(x y:Int)(K:Option PV):Option PV:=
 bif acV X then (fun(b md:List PV)=>
  bif true&&decide ((0+b.length)*8<=140737488355328) then
  bif ((true&&decide (([]++b).length=0+b.length))&&decide (0+b.length=0+b.length))&&decide ((0+b.length+md.length)*8<=140737488355328) then
  bif (true&&decide (0<=W (Int.tdiv (b.length:Int) 2)))&&decide (W (Int.tdiv (b.length:Int) 2)<=(b.length:Int)) then
   w6 X fl F T b true (w6 X fl F T md true (w6 X fl F T (VK ids) true
   (w6 X fl F T (((([]++b)++md).drop 0).take (0+b.length+md.length)) ((([]++b)++md).length==0+b.length+md.length)
   (w6 X fl F T ((b.take (W (Int.tdiv (b.length:Int) 2)).toNat).drop ((none:Option Int).getD 0).toNat) true
   (en2 X x y (en2 X (x % 400) (y % 200) K))))))
  else none else none else none) (idL (Jz X fl F T)) (mdB ids) else none
noncomputable abbrev ch0(g:Bool)(ls:List PV)(p q r fr tt:Int)(fl:Bool)(x y:Int)(f:Bool)(ids:List PV):LS:=wY (f&&false) (VK ids) true false (P1 ls) 0 0 (f&&false) (VK ids) ((VK ids).length:Int) 0 g ls p q r fr tt fl x y (MZ ls fr).1 (MZ ls fr).2.1 (MZ ls fr).2.2 (MZ ls tt).1 (MZ ls tt).2.1 (MZ ls tt).2.2 true []
theorem oY(g:Bool)(ls:List PV)(p q r fr tt:Int)(fl:Bool)(x y:Int)(f:Bool)(ids:List PV):DC Try.prog C3 60 4 [csV g ls p q r fr tt fl,FL x y,.Db f 3 ids] =
 bif (true&&decide (0<=Z2 ids))&&decide (Z2 ids<=(ids.length:Int)) then bif tI (ch0 g ls p q r fr tt fl x y f ids) then
 bif ((wZ ids).length==(wZ ids).length&&true)&&true then
 bif dB (kR (P1 ls)) then
  rdC (P1 ls) fl (MZ ls fr) (MZ ls tt) ids x y (rdC (To p q r (P1 ls)) fl (MZ ls fr) (MZ ls tt) ids x y (some (bv true)))
 else none else none else none else none:=by kernel_rfl
theorem S8{X L:List PV}{fl:Bool}{F T:T3}{K:Option PV}{b:Bool}(h:IF X)(hN:Ei Ee X)(hl:L.length<=100000)(hb:b=true):w6 X fl F T L b K=K:=by
 unfold w6;rw[hb,show w0 X L=true by show(dB (IF X)&&EL Ee X&&decide (L.length<=100000))=true;rw[DB.2 h,DX.2 hN,Ac hl];rfl,AP,AP];rfl
theorem kT(X:List PV)(x y:Int):EF x y true (0,0,0) (I6 X)=EF x y true (0,0,0) (DL X [])/\decide (((I6 X).length:Int) > 0)=decide (((DL X []).length:Int) > 0):=by
 have h:=entry_eq x y X;simp only[J4,PV.D8.injEq,List.cons.injEq,PV.agg.injEq,PV.val.injEq,Value.int.injEq,Value.bool.injEq,CM,Dk]at h;obtain⟨⟨h1,h2,h3⟩,h4⟩:=h;exact⟨Prod.ext h1 (Prod.ext h2 h3),h4⟩
theorem kV{X:List PV}{x y:Int}{K:Option PV}(h:IF X)(hN:Ei Ee X):en2 X x y K=K:=by
 have hf:=h.SO;obtain⟨h1,h2⟩:=kT X x y;unfold en2 enB;rw[h1,h2,Ac (show X.length<=1000 by omega),DX.2 hN,h.G6,AP];show(bif !(((_==_)&&((_==_)&&true))&&((_==_)&&true)) then _ else _)=K
 rw[AP,AP,AP];rfl
theorem kW{X:List PV}{fl:Bool}{F T:T3}{ids:List PV}{x y:Int}{K:Option PV}(h:IF X)(hN:Ei Ee X)(h8:(VK ids).length<=8):rdC X fl F T ids x y K=K:=by
 have hb:=oW h fl F T;have hm:(mdB ids).length<=8:=by
  show(((wZ ids).drop 0).take (wZ ids).length).length<=8
  rw[Az,BL];have:(wZ ids).length=(VK ids).length:=by
   show([]++((VK ids).drop 0).map mkId).length=_
   rw[Bc,AV,AH]
  omega
 unfold rdC;rw[oV h hN,Aj];dsimp only;generalize idL (Jz X fl F T)=b at hb;generalize mdB ids=md at hm;have q0:(0:Int)<=Int.tdiv (b.length:Int) 2:=Int.tdiv_nonneg (by omega) (by decide);have q1:Int.tdiv (b.length:Int) 2<=(b.length:Int):=by rw[Int.tdiv_eq_ediv_of_nonneg (by omega)];omega
 have q2:W (Int.tdiv (b.length:Int) 2)=Int.tdiv (b.length:Int) 2:=Dx (by omega) (by omega);rw[Bc,q2,Ac q0,Ac q1,Ac (show(0+b.length)*8<=140737488355328 by omega),Ac (show b.length=0+b.length by omega),Ac (show 0+b.length=0+b.length from rfl),Ac (show(0+b.length+md.length)*8<=140737488355328 by omega)];simp only[A_,Aj];rw[S8 h hN (by omega) rfl,S8 h hN (by omega) rfl,S8 h hN (by omega) rfl,S8 h hN (by rw[Az,BL,Ar];omega) (by rw[Ar];simp),S8 h hN (by rw[BL,Az];omega) rfl,kV h hN,kV h hN]
theorem oZ(g:Bool)(ls:List PV)(p q r fr tt:Int)(fl:Bool)(x y:Int)(f:Bool)(ids:List PV):DC Try.prog C3 60 4 [csV g ls p q r fr tt fl,FL x y,.Db f 3 ids]=some (bv true):=by
 have h0:0<=Z2 ids/\Z2 ids<=(ids.length:Int)/\Z2 ids<=8:=by
  show 0<=(if (8:Int)<(ids.length:Int) then 8 else (ids.length:Int))/\(if (8:Int)<(ids.length:Int) then 8 else (ids.length:Int))<=(ids.length:Int)/\(if (8:Int)<(ids.length:Int) then 8 else (ids.length:Int))<=8
  split <;> omega
 have h8:(VK ids).length<=8:=by
  show((ids.take (Z2 ids).toNat).drop 0).length<=8
  rw[AH,Az];omega
 have hp:tI (ch0 g ls p q r fr tt fl x y f ids)=true:=by
  unfold tI;rw[DB];exact⟨rfl,rfl,rfl,BK _,by omega,by omega,AR _⟩
 obtain⟨o1,o2⟩:=wX (p:=p) (q:=q) (r:=r) (ls:=ls);rw[oY,Ac h0.1,Ac h0.2.1,hp,AP,DB.2 (acW ls),kW (VJ ls) (S5 ls) h8,kW o1 o2 h8];rfl
theorem aic(g:Bool)(ls:List PV)(p q r fr tt:Int)(fl:Bool)(x y:Int)(f:Bool)(ids:List PV):Hx.Df Try.prog 4/\Ds Try.prog 4 [csV g ls p q r fr tt fl,FL x y,.Db f 3 ids] (bv true):=Cz aia (oZ g ls p q r fr tt fl x y f ids)
end Go.Hr
