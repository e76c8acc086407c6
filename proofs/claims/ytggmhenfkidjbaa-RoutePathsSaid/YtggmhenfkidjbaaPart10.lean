import Derived.Test.YtggmhenfkidjbaaPart9
import Derived.Test.YtggmhenfkidjbaaPart8
import Derived.Test.YtggmhenfkidjbaaPart5
noncomputable section
namespace Go.Hr
open Go.Hx Go.Hg Go.Hn Go.Proofs
def R75:CY:=(xW.DE 34 nT).F4 17 4 [(7,83,6)]
theorem abm:CG Try.prog R75.env:=(rB.DE aau aav).F4 17 4 [(7,83,6)]
def N4:S1:=⟨33,[(7,.sl 1),(8,.C9 83),(9,Dk)],[.one 30 3 aS,.many 83 6]⟩
abbrev lB(n k:Nat)(f:Bool)(l:List PV)(i x y z:Int)(nl:Bool)(es:List PV):LS:=([.n n,.n k,.l f l,.i i],[.i x,.i y,.i z,.l nl es])
abbrev xRc(n k:Nat)(x y z:Int)(nl:Bool)(es:List PV):PX×List PV×List Row:=(.exit 0,tm 33 [(7,.sl 1 n 0 k)],(N4.put (lB n k false [] 0 x y z nl es)).2)
abbrev lC(e:PV):PV:=Vf (gX e) (gY e) (gL e) false (rP e) (rC e) (rS e)
theorem qRc(n k:Nat)(f:Bool)(l:List PV)(i x y z:Int)(nl:Bool)(es:List PV):Db Try.prog R75 60 17 (Dg Try.f17 4) [7,8,9] [7] (N4.put (lB n k f l i x y z nl es)).1 (N4.put (lB n k f l i x y z nl es)).2 =
 bif decide (i<(l.length:Int)) then bif F8 l i then bif rS (aE l i) then bif F8 l i then bif true&&decide (es.length=n)&&decide (n=k)&&decide ((n+1)*64<=140737488355328) then
  some (.normal,N4.put (lB (n+1) (n+1) f l (W (i+1)) x y z (nl&&false) (es++[lC (aE l i)]))) else none else none
  else some (.normal,N4.put (lB n k f l (W (i+1)) x y z nl es)) else none else some (xRc n k x y z nl es):=by kernel_rfl
def Ls(l:List PV):List PV:=(l.filter rS).map lC
def oq:LS->Bool
 |([.n n,.n k,.l _ l,.i i],[.i _,.i _,.i _,.l _ es])=>decide (n=es.length)&&decide (k=es.length)&&decide (0<=i)&&decide (i<=(l.length:Int))&&decide (l.length<=10000)&&decide ((es.length:Int)<=i)
 |_=>false
def fRc:LS->DT (PX×List PV×List Row)
 |([.n _,.n _,.l _ l,.i i],[.i x,.i y,.i z,.l nl es])=>.leaf (xRc (es++Ls (l.drop i.toNat)).length (es++Ls (l.drop i.toNat)).length x y z (nl&&(Ls (l.drop i.toNat)).isEmpty) (es++Ls (l.drop i.toNat)))
 |_=>.no
def mRc:LS->Nat
 |([.n _,.n _,.l _ l,.i i],_)=>((l.length:Int)-i).toNat
 |_=>0
theorem sRc:∀ s r,oq s=true->(fRc s).run=some r->r.1≠.normal/\(Db Try.prog R75 60 17 (Dg Try.f17 4) [7,8,9] [7] (N4.put s).1 (N4.put s).2=some r \/
   ∃ s',Db Try.prog R75 60 17 (Dg Try.f17 4) [7,8,9] [7] (N4.put s).1 (N4.put s).2=some (.normal,N4.put s')/\oq s'=true/\mRc s'<mRc s/\(fRc s').run=some r):=by
 intro t r hp hr;unfold oq at hp;split at hp
 ·rename_i n k f l i x y z nl es;simp only[Aa,Ab]at hp;obtain⟨⟨⟨⟨⟨rfl,rfl⟩,h2⟩,h3⟩,h4⟩,h5⟩:=hp;have hr':=(Ah hr).symm;refine⟨by rw[hr'];simp,?_⟩;rw[show N4.put ([.n es.length,.n es.length,.l f l,.i i],[.i x,.i y,.i z,.l nl es])=N4.put (lB es.length es.length f l i x y z nl es) from rfl,qRc];by_cases hi:i<(l.length:Int)
  ·rw[Ac hi,DW h2 hi,Dx (by omega) (by omega),show(true&&decide (es.length=es.length)&&decide (es.length=es.length)&&decide ((es.length+1)*64<=140737488355328))=true by simp;omega];simp only[Aj];rw[Ds h2 hi]at hr';have hcons:∀ L,Ls (aE l i::L)=bif rS (aE l i) then lC (aE l i)::Ls L else Ls L:=fun L=>by
    unfold Ls;rw[BU];cases rS (aE l i) <;> rfl
   rw[show l.getD i.toNat .any=aE l i from rfl,hcons]at hr';cases h1:rS (aE l i) with
   |true=>
    rw[h1,Aj]at hr';refine .inr ⟨lB (es++[lC (aE l i)]).length (es++[lC (aE l i)]).length f l (i+1) x y z (nl&&false) (es++[lC (aE l i)]),by rw[Aj,Ap];rfl,?_,by simp only[mRc];omega,?_⟩
    ·simp only[oq,Aa,Ab,Ap,As,AB];exact⟨⟨⟨⟨⟨trivial,trivial⟩,by omega⟩,by omega⟩,h4⟩,by omega⟩
    ·rw[hr'];show some (xRc ((es++[lC (aE l i)])++Ls (l.drop (i+1).toNat)).length _ x y z (nl&&false&&_) _)=_
     rw[Bu,BC,Cf];have:(nl&&(lC (aE l i)::Ls (l.drop (i+1).toNat)).isEmpty)=false:=by simp
     rw[this];rfl
   |false=>
    rw[h1,Ar]at hr';refine .inr ⟨lB es.length es.length f l (i+1) x y z nl es,rfl,?_,by simp only[mRc];omega,?_⟩
    ·simp only[oq,Aa,Ab];exact⟨⟨⟨⟨⟨trivial,trivial⟩,by omega⟩,by omega⟩,h4⟩,by omega⟩
    ·rw[hr'];rfl
  ·rw[Ai hi,AC (by omega)] at *;refine .inl ?_;rw[hr'];show some (xRc _ _ _ _ _ _ _)=some (xRc (es++[]).length (es++[]).length x y z (nl&&true) (es++[]))
   rw[BL,Bq]
 ·cases hp
def R76:CY:=R75.Dl 17 4 [7,8,9] [false,true] N4 oq fRc
theorem rD:CG Try.prog R76.env:=
 abm.Dl (n:=60) Try.func17 (show Try.f17.body=some (DY Try.f17) by kernel_rfl) (show(loops (DY Try.f17)).filter (fun b=>Ew b==4)=[Dg Try.f17 4] by kernel_rfl) [7,8,9] [7] [false,true] N4 mRc sRc
theorem agt(f:Bool)(ws:List PV)(x y z:Int)(fl:Bool):DD Try.prog R76 60 17 [.C9 f 49 ws,DV x y z,bv fl] =
 bif dB (Ho ws) then bif decide (DI x y z 0 (Eb ws [])<0) then some (.C9 false 83 []) else
  bif oq (lB 0 0 false (KE ws fl x y z) 0 x y z true []) then
   HM ([]++Ls ((KE ws fl x y z).drop (0:Int).toNat)) ([]++Ls ((KE ws fl x y z).drop (0:Int).toNat)).length (some (.C9 false 83 ((([]++Ls ((KE ws fl x y z).drop (0:Int).toNat)).drop 0).take ([]++Ls ((KE ws fl x y z).drop (0:Int).toNat)).length)))
  else none else none:=by kernel_rfl
abbrev vV(r:Rc):PV:=Vf r.1.1 r.1.2.1 r.1.2.2 false (r.2.2.map iv) r.2.1 true
def N5(ws:List PV)(fl:Bool)(s:T3):List Rc:=(Eb ws []).filterMap fun e=>(FN ws fl s (DA e)).map fun k=>(DA e,k)
theorem cd{f:OF}:∀ l:List PV,Ls (Ff l f)=(l.filterMap fun e=>(f (DA e)).map fun k=>(DA e,k)).map vV
 | []=>rfl
 |e::l=>by
  have ih:=cd (f:=f) l;unfold Ls at ih ⊢;show((Ke (DA e) (f (DA e))::Ff l f).filter rS).map lC=_
  rw[BU,ZI,CK];cases f (DA e) with
  |none=>exact ih
  |some k=>
   show lC (Ke (DA e) (some k))::_=vV (DA e,k)::_
   rw[ih];rfl
theorem XR{ws:List PV}{fl:Bool}{s v:T3}{k:Ky}(h:Ho ws):(v,k)∈N5 ws fl s ↔ FN ws fl s v=some k:=by
 unfold N5;rw[BZ];constructor
 ·rintro⟨e,_,he⟩
  obtain⟨q,h1,h2⟩:=Af.1 he;cases h2;exact h1
 ·intro hp;by_cases hs:EO ws s
  ·have hm:=hp;rw[JJ hs]at hm;have:=XO (x:=s.1) (y:=s.2.1) (z:=s.2.2) (fl:=fl) h hs v k hm;obtain⟨e,he,rfl⟩:=AX.1 this;exact⟨e,he,by rw[hp];rfl⟩
  ·rw[Ie hs]at hp;cases hp
theorem N6{ws:List PV}{fl:Bool}{s:T3}:∀ l:List PV,((l.filterMap fun e=>(FN ws fl s (DA e)).map fun k=>(DA e,k)).map (·.1)).Sublist (l.map DA)
 | []=>.slnil
 |e::l=>by
  rw[CK,AV];cases FN ws fl s (DA e) with
  |none=>exact(N6 l).cons _
  |some k=>exact(N6 l).cons_cons _
theorem ot{ws:List PV}{fl:Bool}{s:T3}:((N5 ws fl s).map (·.1)).Nodup:=(N6 _).nodup (Vi .nil)
theorem jZ{ws:List PV}{fl:Bool}{s:T3}(h:Ho ws):(N5 ws fl s).length<=200:=by
 have h1:=(N6 (ws:=ws) (fl:=fl) (s:=s) (Eb ws [])).length_le;have:=(eg h).2;rw[AP,AP]at h1;show(List.filterMap _ _).length<=_
 omega
theorem rF(f:Bool)(ws:List PV)(x y z:Int)(fl:Bool)(h:Ho ws):DD Try.prog R76 60 17 [.C9 f 49 ws,DV x y z,bv fl]=some (.C9 false 83 ((N5 ws fl (x,y,z)).map vV)):=by
 rw[agt,Dy.2 h,Aj];cases hd:decide (DI x y z 0 (Eb ws [])<0) with
 |true=>
  rw[Ab,Gr (by omega),Gs]at hd;have:N5 ws fl (x,y,z)=[]:=by
   cases hc:N5 ws fl (x,y,z) with
   |nil=>rfl
   |cons r L=>
    have:=(XR (v:=r.1) (k:=r.2) (fl:=fl) (s:=(x,y,z)) h).1 (by rw[hc];exact AJ ..);rw[Ie hd]at this;cases this
  rw[this];rfl
 |false=>
  rw[AQ,Gr (by omega),C7,Gs]at hd;obtain⟨h1,h2⟩:=eg h;have e1:(KE ws fl x y z).length=(Eb ws []).length:=Fg;have hp:oq (lB 0 0 false (KE ws fl x y z) 0 x y z true [])=true:=by
   simp only[oq,Aa,Ab,AB];exact⟨⟨⟨⟨⟨trivial,trivial⟩,by omega⟩,by omega⟩,by omega⟩,by omega⟩
  rw[hp,Ar,Aj,DJ rfl,show(0:Int).toNat=0 from rfl,AF,A9,AF,A_];have:Ls (KE ws fl x y z)=(N5 ws fl (x,y,z)).map vV:=by
   unfold N5;rw[show KE ws fl x y z=Ff (Eb ws []) (Gw (gE fl ws) (x,y,z)) from rfl,cd];congr 1
   apply congrArg (fun g=>List.filterMap g (Eb ws []))
   funext e
   rw[JJ hd]
  rw[this]
def vW:List PV->Option (DT PV)
 | [.C9 _ 49 ws,.agg [.val (.int .i64 x),.val (.int .i64 y),.val (.int .i64 z)],.val (.bool fl)]=>some (.br (dB (Ho ws)) (.leaf (.C9 false 83 ((N5 ws fl (x,y,z)).map vV))) .no)
 |_=>none
theorem agu:Hx.Dd Try.prog 17:=(Cy rD (n:=60) (rF false [] 0 0 0 false ZK)).1
theorem agv(args:List PV)(d:DT PV)(r:PV)(h:vW args=some d)(hr:d.run=some r):Dr Try.prog 17 args r:=by
 unfold vW at h;split at h
 ·rename_i f ws x y z fl;cases h;obtain⟨h1,rfl⟩:=DN hr;exact(Cy rD (n:=60) (rF f ws x y z fl (Dy.1 h1))).2
 ·cases h
abbrev fnK(j:Nat):X1:=.fn 40 [] [.ptr j 1 0 0]
def N7:S1:=⟨19,[(0,.C9 49),(1,fnK 0),(7,Dk),(8,Dk)],[.one 3 1 Dk]⟩
abbrev ou(f:Bool)(es:List PV)(len i id:Int):LS:=([.l f es,.i len,.i i],[.i id])
abbrev abp(id:Int):PX×List PV×List Row:=(.exit 0,tm 19 [],(N7.put (ou false [] 0 0 id)).2)
abbrev abq(i id:Int):PX×List PV×List Row:=(.ret,tm 19 [(4,iv i)],(N7.put (ou false [] 0 0 id)).2)
theorem qIx(f:Bool)(es:List PV)(len i id:Int):Db Try.prog xW 60 39 (Dg Try.f39 2) [0,1,7,8] [4] (N7.put (ou f es len i id)).1 (N7.put (ou f es len i id)).2 =
 bif decide (i<len) then bif F8 es i then bif wI (aE es i)==id then some (abq i id) else some (.normal,N7.put (ou f es len (W (i+1)) id)) else none else some (abp id):=by kernel_rfl
def Qe(id:Int)(i:Int):List PV->Int
 | []=>-1
 |e::es=>bif wI e==id then i else Qe id (i+1) es
def rG:LS->Bool
 |([.l _ es,.i len,.i i],[.i _])=>decide (len=(es.length:Int))&&decide (0<=i)&&decide (i<=len)&&decide (es.length<=10000)
 |_=>false
def fIx:LS->DT (PX×List PV×List Row)
 |([.l _ es,.i _,.i i],[.i id])=>.br (Qe id i (es.drop i.toNat) == -1) (.leaf (abp id)) (.leaf (abq (Qe id i (es.drop i.toNat)) id))
 |_=>.no
def mIx:LS->Nat
 |([.l _ _,.i len,.i i],_)=>(len-i).toNat
 |_=>0
theorem sIx:∀ s r,rG s=true->(fIx s).run=some r->r.1≠.normal/\(Db Try.prog xW 60 39 (Dg Try.f39 2) [0,1,7,8] [4] (N7.put s).1 (N7.put s).2=some r \/
   ∃ s',Db Try.prog xW 60 39 (Dg Try.f39 2) [0,1,7,8] [4] (N7.put s).1 (N7.put s).2=some (.normal,N7.put s')/\rG s'=true/\mIx s'<mIx s/\(fIx s').run=some r):=by
 intro t r hp hr;unfold rG at hp;split at hp
 ·rename_i f es len i id;simp only[Aa,Ab]at hp;obtain⟨⟨⟨rfl,h2⟩,h3⟩,h4⟩:=hp;have hr':=Hl hr;refine⟨by rw[hr'];cases Qe id i (es.drop i.toNat) == -1 <;> simp,?_⟩;rw[show N7.put ([.l f es,.i (es.length:Int),.i i],[.i id])=N7.put (ou f es es.length i id) from rfl,qIx];by_cases hi:i<(es.length:Int)
  ·rw[Ac hi,DW h2 hi,Dx (by omega) (by omega)];simp only[Aj];rw[Ds h2 hi]at hr';simp only[Qe]at hr';rw[show wI (es.getD i.toNat .any)=wI (aE es i) from rfl]at hr';cases c1:wI (aE es i)==id with
   |true=>
    rw[c1,Aj,show(i == -1)=false by rw[AR];omega]at hr';exact .inl (by rw[hr'];rfl)
   |false=>
    rw[c1]at hr';refine .inr ⟨ou f es es.length (i+1) id,rfl,by simp only[rG,Aa,Ab];exact⟨⟨⟨trivial,by omega⟩,by omega⟩,h4⟩,by simp only[mIx];omega,?_⟩;rw[hr'];simp only[fIx,Ar];cases Qe id (i+1) (es.drop (i+1).toNat) == -1 <;> rfl
  ·rw[Ai hi];rw[AC (by omega)]at hr';exact .inl (by rw[hr'];rfl)
 ·cases hp
def R78:CY:=xW.Dl 39 2 [0,1,7,8] [false] N7 rG fIx
theorem j3:CG Try.prog R78.env:=
 rB.Dl (n:=60) Try.func39 (show Try.f39.body=some (DY Try.f39) by kernel_rfl) (show(loops (DY Try.f39)).filter (fun b=>Ew b==2)=[Dg Try.f39 2] by kernel_rfl) [0,1,7,8] [4] [false] N7 mIx sIx
abbrev Uo(id:Int):Row:={ es:=[iv id],s:=1,t:=3,bv:=true }
theorem agw(f:Bool)(es:List PV)(id:Int):Jx Try.prog R78 60 39 [.C9 f 49 es,.fn (.func 40) [] [.ptr 0 1 0 0]] [Uo id] =
 bif rG (ou f es (es.length:Int) 0 id) then bif Qe id 0 (es.drop (0:Int).toNat) == -1 then some (iv (-1),[Uo id]) else some (iv (Qe id 0 (es.drop (0:Int).toNat)),[Uo id]) else none:=by kernel_rfl
theorem rH(f:Bool)(es:List PV)(id:Int)(h:es.length<=10000):Jx Try.prog R78 60 39 [.C9 f 49 es,.fn (.func 40) [] [.ptr 0 1 0 0]] [Uo id]=some (iv (Qe id 0 es),[Uo id]):=by
 have hp:rG (ou f es (es.length:Int) 0 id)=true:=by
  simp only[rG,Aa,Ab];exact⟨⟨⟨trivial,by omega⟩,by omega⟩,h⟩
 rw[agw,hp,Aj,show(0:Int).toNat=0 from rfl,AF];cases hq:Qe id 0 es == -1 with
 |true=>rw[eq_of_beq hq];rfl
 |false=>rfl
def cIx:List PV->List Row->Option (DT (PV×List Row))
 | [.C9 _ 49 es,.fn (.func 40) [] [.ptr 0 1 0 0]],[⟨[.val (.int .i64 id)],1,3,true,true,false,none,false⟩]=>
  some (.br (decide (es.length<=10000)) (.leaf (iv (Qe id 0 es),[Uo id])) .no)
 |_,_=>none
theorem eIx:Hx.Dd Try.prog 39:=(DH j3 (rH false [] 0 (by simp))).1
theorem oIx(args:List PV)(H:List Row)(d:DT (PV×List Row))(q:PV)(H':List Row)(h:cIx args H=some d)(hd:d.run=some (q,H')):Fa Try.prog 0 39 args H q H':=by
 unfold cIx at h;split at h
 ·rename_i f es id;cases h;obtain⟨hc,he⟩:=FU hd;cases he;exact(DH j3 (rH f es id (AN hc))).2
 ·cases h
def R79:CY:=R78.E7 39 cIx
theorem abt:CG Try.prog R79.env:=j3.E7 eIx oIx
def OZ:S1:=⟨27,[(3,.mp 2),(10,.C9 49),(11,Dk),(12,Dk)],[.one 30 3 aS,.one 30 3 aS,.map 30 4]⟩
abbrev rI(f:Bool)(es:List PV)(len i:Int)(p0 p1 p2 q0 q1 q2:Int)(D:List (PV×PV)):LS:=([.l f es,.i len,.i i],[.i p0,.i p1,.i p2,.i q0,.i q1,.i q2,.m D])
abbrev xSK(p0 p1 p2 q0 q1 q2:Int)(D:List (PV×PV)):PX×List PV×List Row:=(.exit 0,tm 27 [(3,.mp 2)],(OZ.put (rI false [] 0 0 p0 p1 p2 q0 q1 q2 D)).2)
theorem qSK(f:Bool)(es:List PV)(len i:Int)(p0 p1 p2 q0 q1 q2:Int)(D:List (PV×PV)):Db Try.prog R79 60 37 (Dg Try.f37 3) [3,10,11,12] [3] (OZ.put (rI f es len i p0 p1 p2 q0 q1 q2 D)).1 (OZ.put (rI f es len i p0 p1 p2 q0 q1 q2 D)).2 =
 bif decide (i<len) then bif decide (0<=i)&&decide (i<(es.length:Int)) then bif P8 (wL (es.getD i.toNat .any)) then
  some (.normal,OZ.put (rI f es len (W (i+1)) p0 p1 p2 q0 q1 q2 (D6 D (es.getD i.toNat .any)))) else none else none else some (xSK p0 p1 p2 q0 q1 q2 D):=by kernel_rfl
def rJ:LS->Bool
 |([.l _ es,.i len,.i i],[.i _,.i _,.i _,.i _,.i _,.i _,.m _])=>decide (len=(es.length:Int))&&decide (0<=i)&&decide (i<=len)&&decide (es.length<=1000)&&(es.drop i.toNat).all fun e=>P8 (wL e)
 |_=>false
def fSK:LS->DT (PX×List PV×List Row)
 |([.l _ es,.i _,.i i],[.i p0,.i p1,.i p2,.i q0,.i q1,.i q2,.m D])=>.leaf (xSK p0 p1 p2 q0 q1 q2 (G3 (es.drop i.toNat) D))
 |_=>.no
def mSK:LS->Nat
 |([.l _ _,.i len,.i i],_)=>(len-i).toNat
 |_=>0
theorem sSK:∀ s r,rJ s=true->(fSK s).run=some r->r.1≠.normal/\(Db Try.prog R79 60 37 (Dg Try.f37 3) [3,10,11,12] [3] (OZ.put s).1 (OZ.put s).2=some r \/
   ∃ s',Db Try.prog R79 60 37 (Dg Try.f37 3) [3,10,11,12] [3] (OZ.put s).1 (OZ.put s).2=some (.normal,OZ.put s')/\rJ s'=true/\mSK s'<mSK s/\(fSK s').run=some r):=by
 intro t r hp hr;unfold rJ at hp;split at hp
 ·rename_i f es len i p0 p1 p2 q0 q1 q2 D;simp only[Aa,Ab]at hp;obtain⟨⟨⟨⟨rfl,h2⟩,h3⟩,h4⟩,h5⟩:=hp;have hr':=(Ah hr).symm;refine⟨by rw[hr'];simp,?_⟩;rw[show OZ.put ([.l f es,.i (es.length:Int),.i i],[.i p0,.i p1,.i p2,.i q0,.i q1,.i q2,.m D])=OZ.put (rI f es (es.length:Int) i p0 p1 p2 q0 q1 q2 D) from rfl,qSK];by_cases hi:i<(es.length:Int)
  ·rw[Ds h2 hi,Cc,Aa]at h5;rw[Ac hi,Ac h2,h5.1,Dx (by omega) (by omega)];refine .inr ⟨rI f es es.length (i+1) p0 p1 p2 q0 q1 q2 (D6 D (es.getD i.toNat .any)),rfl,by simp only[rJ,Aa,Ab];exact⟨⟨⟨⟨trivial,by omega⟩,by omega⟩,h4⟩,h5.2⟩,by simp only[mSK];omega,?_⟩;rw[hr',Ds h2 hi];rfl
  ·rw[Ai hi,AC (by omega)] at *;exact .inl (by rw[hr'];rfl)
 ·cases hp
def R80:CY:=R79.Dl 37 3 [3,10,11,12] [false,false,false] OZ rJ fSK
theorem abu:CG Try.prog R80.env:=
 abt.Dl (n:=60) Try.func37 (show Try.f37.body=some (DY Try.f37) by kernel_rfl) (show(loops (DY Try.f37)).filter (fun b=>Ew b==3)=[Dg Try.f37 3] by kernel_rfl) [3,10,11,12] [3] [false,false,false] OZ mSK sSK
def xX:CY:=R80.Ee 21 1
theorem abv:CG Try.prog xX.env:=abu.Ee 21 1
def Lt:S1:=⟨76,[(3,.bool),(6,.ptr 0 1 0 0),(7,.ptr 1 1 0 0),(12,.C9 49),(13,Dk),(26,.C9 3),(27,Dk),(28,Dk)],[.one 30 3 aS,.one 30 3 aS,.map 30 4]⟩
abbrev e7(fl f:Bool)(us:List PV)(sm:Int)(g:Bool)(ids:List PV)(len i x y z a b c:Int)(D:List (PV×PV)):LS:=([.b fl,.l f us,.i sm,.l g ids,.i len,.i i],[.i x,.i y,.i z,.i a,.i b,.i c,.m D])
abbrev hCk(x y z a b c:Int)(D:List (PV×PV)):List Row:=(Lt.put (e7 false false [] 0 false [] 0 0 x y z a b c D)).2
abbrev xCk(sm x y z a b c:Int)(D:List (PV×PV)):PX×List PV×List Row:=(.exit 0,tm 76 [(6,.ptr 0 1 0 0),(7,.ptr 1 1 0 0),(13,iv sm)],hCk x y z a b c D)
abbrev xZ(sm x y z a b c:Int)(D:List (PV×PV)):PX×List PV×List Row:=(.ret,tm 76 [(6,.ptr 0 1 0 0),(7,.ptr 1 1 0 0),(10,iv 0),(11,bv false),(13,iv sm)],hCk x y z a b c D)
def ckT(fl f:Bool)(us:List PV)(sm:Int)(g:Bool)(ids:List PV)(len i x y z a b c:Int)(D:List (PV×PV))(j:Int):Option (PX×List PV×List Row):=
 bif F8 us j then bif P8 (wL (aE us j)) then bif Qa x y z (gX (eF (aE us j))) (gY (eF (aE us j))) (gL (eF (aE us j))) then
  bif F8 us j then bif decide ((wL (aE us j)).length<=100000) then some (.normal,Lt.put (e7 fl f us (W (sm+Du (wL (aE us j)))) g ids len (W (i+1)) (gX (eL (aE us j))) (gY (eL (aE us j))) (gL (eL (aE us j))) a b c D)) else none else none
 else bif Qa x y z (gX (eL (aE us j))) (gY (eL (aE us j))) (gL (eL (aE us j))) then
  bif F8 us j then bif decide ((wL (aE us j)).length<=100000) then some (.normal,Lt.put (e7 fl f us (W (sm+Du (wL (aE us j)))) g ids len (W (i+1)) (gX (eF (aE us j))) (gY (eF (aE us j))) (gL (eF (aE us j))) a b c D)) else none else none
 else some (xZ sm x y z a b c D) else none else none
theorem qCk(fl f:Bool)(us:List PV)(sm:Int)(g:Bool)(ids:List PV)(len i x y z a b c:Int)(D:List (PV×PV)):Db Try.prog xX 60 21 (Dg Try.f21 6) [3,6,7,12,13,26,27,28] [6,7,10,11,13] (Lt.put (e7 fl f us sm g ids len i x y z a b c D)).1 (Lt.put (e7 fl f us sm g ids len i x y z a b c D)).2 =
 bif decide (i<len) then bif F8 ids i then bif decide (us.length<=10000) then bif decide (Qe (nI ids i) 0 us<0) then some (xZ sm x y z a b c D) else
  bif fl then bif F8 us (Qe (nI ids i) 0 us) then bif cond false true (cond true (Jv (aE us (Qe (nI ids i) 0 us))) false) then some (xZ sm x y z a b c D) else ckT fl f us sm g ids len i x y z a b c D (Qe (nI ids i) 0 us) else none
  else ckT fl f us sm g ids len i x y z a b c D (Qe (nI ids i) 0 us)
 else none else none else some (xCk sm x y z a b c D):=by kernel_rfl
def eu(fl:Bool)(us:List PV)(t:T3)(id:Int):Option (T3×Int):=
 match us.find? fun e=>wI e==id with
 |none=>none
 |some e=>bif fl&&Jv e then none else bif decide (t=DA (eF e)) then some (DA (eL e),Du (wL e)) else bif decide (t=DA (eL e)) then some (DA (eF e),Du (wL e)) else none
def Gu(fl:Bool)(us:List PV):T3->Int->List Int->Bool×T3×Int
 |t,s,[]=>(true,t,s)
 |t,s,id::ids=>match eu fl us t id with |none=>(false,t,s) |some r=>Gu fl us r.1 (s+r.2) ids
theorem XS{id:Int}:∀{es:List PV} {i:Int},0<=i->(Qe id i es = -1/\es.find? (fun e=>wI e==id)=none)\/(i<=Qe id i es/\Qe id i es<i+es.length/\es.find? (fun e=>wI e==id)=some (es.getD (Qe id i es-i).toNat .any))
 | [],i,_=>.inl ⟨rfl,rfl⟩
 |e::es,i,h=>by
  simp only[Qe,List.find?_cons];cases hq:wI e==id with
  |true=>
   refine .inr ⟨by simp,by simp only[Aj,As];omega,?_⟩;simp only[Aj,Int.sub_self];rfl
  |false=>
   simp only[Ar];rcases XS (id:=id) (es:=es) (i:=i+1) (by omega) with ⟨h1,h2⟩ |⟨h1,h2,h3⟩
   ·exact .inl ⟨h1,h2⟩
   ·refine .inr ⟨by omega,by simp only[As];omega,?_⟩;rw[h3];have:(Qe id (i+1) es-i).toNat=(Qe id (i+1) es-(i+1)).toNat+1:=by omega
    rw[this];rfl
theorem j4{fl:Bool}{us:List PV}{t:T3}{id:Int}{r:T3×Int}(hu:us.all HI=true)(h:eu fl us t id=some r):0<=r.2/\r.2<=3037000499000:=by
 unfold eu at h;split at h
 ·cases h
 ·rename_i e he;have hm:=Ao.1 hu e (List.mem_of_find?_eq_some he);simp only[HI,Aa,Ab]at hm;have hf:=GL hm.2
  revert h
  cases fl&&Jv e with
  |true=>intro h;cases h
  |false=>
   rw[Ar];cases decide (t=DA (eF e)) with
   |true=>intro h;cases h;exact hf
   |false=>
    rw[Ar];cases decide (t=DA (eL e)) with
    |true=>intro h;cases h;exact hf
    |false=>intro h;cases h
theorem ZO{x y z:Int}{p:PV}:Qa x y z (gX p) (gY p) (gL p)=decide ((x,y,z)=DA p):=by
 rw[Bool.eq_iff_iff];simp only[Qa,Bq,Aa,Ay,Ab,CM,and_assoc]
abbrev nCk(fl f:Bool)(us:List PV)(sm:Int)(g:Bool)(ids:List PV)(len i:Int)(t:T3)(a b c:Int)(D:List (PV×PV)):PX×List PV×List Row:=(.normal,Lt.put (e7 fl f us sm g ids len i t.1 t.2.1 t.2.2 a b c D))
theorem agz(fl f:Bool)(us:List PV)(sm:Int)(g:Bool)(ids:List PV)(i x y z a b c:Int)(D:List (PV×PV))(h0:0<=i)(hi:i<(ids.length:Int))(hu:us.all HI=true)(hl:us.length<=1000)(hs:0<=sm)(hs2:sm<=1000000000000000000)(hids:ids.length<=1000000):
 Db Try.prog xX 60 21 (Dg Try.f21 6) [3,6,7,12,13,26,27,28] [6,7,10,11,13] (Lt.put (e7 fl f us sm g ids ids.length i x y z a b c D)).1 (Lt.put (e7 fl f us sm g ids ids.length i x y z a b c D)).2 =
 match eu fl us (x,y,z) (nI ids i) with |none=>some (xZ sm x y z a b c D) |some r=>some (nCk fl f us (sm+r.2) g ids ids.length (i+1) r.1 a b c D):=by
 rw[qCk,Ac hi,DW h0 hi,Ac (show us.length<=10000 by omega)];simp only[Aj];unfold eu;rcases XS (id:=nI ids i) (es:=us) (i:=0) (BG _) with ⟨h1,h2⟩ |⟨h1,h2,h3⟩
 ·rw[h1,h2,Ac (show(-1:Int)<0 by omega)];rfl
 ·rw[h3,Ai (show ¬Qe (nI ids i) 0 us<0 by omega)];rw[Int.sub_zero]at h3 ⊢;generalize Qe (nI ids i) 0 us=j at *;have hj:j<(us.length:Int):=by omega
  have hm:=Ao.1 hu _ (List.mem_of_find?_eq_some h3);simp only[HI,Aa,Am,AR,Ab]at hm;have hf:=GL hm.2;have hT:ckT fl f us sm g ids ids.length i x y z a b c D j=match (bif decide ((x,y,z)=DA (eF (aE us j))) then some (DA (eL (aE us j)),Du (wL (aE us j))) else bif decide ((x,y,z)=DA (eL (aE us j))) then some (DA (eF (aE us j)),Du (wL (aE us j))) else none:Option (T3×Int)) with
    |none=>some (xZ sm x y z a b c D) |some r=>some (nCk fl f us (sm+r.2) g ids ids.length (i+1) r.1 a b c D):=by
   unfold ckT;rw[DW h1 hj,Ll hm.1 (by omega),ZO,ZO,Ac (show(wL (aE us j)).length<=100000 by have:=hm.2;show(wL (us.getD j.toNat .any)).length<=_;omega),Dx (n:=i+1) (by omega) (by omega),Dx (n:=sm+Du (wL (aE us j))) (by show _<=sm+Du (wL (us.getD j.toNat .any));omega) (by show sm+Du (wL (us.getD j.toNat .any))<_;omega)];simp only[Aj];cases decide ((x,y,z)=DA (eF (aE us j))) with
   |true=>rfl
   |false=>
    simp only[Ar];cases decide ((x,y,z)=DA (eL (aE us j))) <;> rfl
  rw[hT,DW h1 hj];simp only[Ar,Aj];cases fl with
  |false=>rfl
  |true=>
   show(bif Jv (aE us j) then _ else _)=(match (bif Jv (aE us j) then none else _:Option (T3×Int)) with |none=>_ |some r=>_)
   cases Jv (aE us j) <;> rfl
def rK:LS->Bool
 |([.b _,.l _ us,.i sm,.l _ ids,.i len,.i i],[.i _,.i _,.i _,.i _,.i _,.i _,.m _])=>decide (len=(ids.length:Int))&&decide (0<=i)&&decide (i<=len)&&decide (ids.length<=100000)&&us.all HI&&decide (us.length<=1000)&&decide (0<=sm)&&decide (sm<=3037000499000*i)
 |_=>false
def fCk:LS->DT (PX×List PV×List Row)
 |([.b fl,.l _ us,.i sm,.l _ ids,.i _,.i i],[.i x,.i y,.i z,.i a,.i b,.i c,.m D])=>
  .br (Gu fl us (x,y,z) sm ((Dn ids).drop i.toNat)).1
   (.leaf (xCk (Gu fl us (x,y,z) sm ((Dn ids).drop i.toNat)).2.2 (Gu fl us (x,y,z) sm ((Dn ids).drop i.toNat)).2.1.1 (Gu fl us (x,y,z) sm ((Dn ids).drop i.toNat)).2.1.2.1 (Gu fl us (x,y,z) sm ((Dn ids).drop i.toNat)).2.1.2.2 a b c D))
   (.leaf (xZ (Gu fl us (x,y,z) sm ((Dn ids).drop i.toNat)).2.2 (Gu fl us (x,y,z) sm ((Dn ids).drop i.toNat)).2.1.1 (Gu fl us (x,y,z) sm ((Dn ids).drop i.toNat)).2.1.2.1 (Gu fl us (x,y,z) sm ((Dn ids).drop i.toNat)).2.1.2.2 a b c D))
 |_=>.no
def mCk:LS->Nat
 |([.b _,.l _ _,.i _,.l _ _,.i len,.i i],_)=>(len-i).toNat
 |_=>0
theorem sCk:∀ s r,rK s=true->(fCk s).run=some r->r.1≠.normal/\(Db Try.prog xX 60 21 (Dg Try.f21 6) [3,6,7,12,13,26,27,28] [6,7,10,11,13] (Lt.put s).1 (Lt.put s).2=some r \/
   ∃ s',Db Try.prog xX 60 21 (Dg Try.f21 6) [3,6,7,12,13,26,27,28] [6,7,10,11,13] (Lt.put s).1 (Lt.put s).2=some (.normal,Lt.put s')/\rK s'=true/\mCk s'<mCk s/\(fCk s').run=some r):=by
 intro t r hp hr;unfold rK at hp;split at hp
 ·rename_i fl f us sm g ids len i x y z a b c D;simp only[Aa,Ab]at hp;obtain⟨⟨⟨⟨⟨⟨⟨rfl,h2⟩,h3⟩,h4⟩,h5⟩,h6⟩,h7⟩,h8⟩:=hp;have hr':=Hl hr;refine⟨by rw[hr'];cases(Gu fl us (x,y,z) sm ((Dn ids).drop i.toNat)).1 <;> simp,?_⟩;rw[show Lt.put ([.b fl,.l f us,.i sm,.l g ids,.i (ids.length:Int),.i i],[.i x,.i y,.i z,.i a,.i b,.i c,.m D])=Lt.put (e7 fl f us sm g ids ids.length i x y z a b c D) from rfl];by_cases hi:i<(ids.length:Int)
  ·rw[agz fl f us sm g ids i x y z a b c D h2 hi h5 h6 h7 (by omega) (by omega)];rw[IH h2 hi]at hr';simp only[Gu]at hr';rw[show((ids.getD i.toNat .any).cellAt 0).DL=nI ids i from rfl]at hr';cases hst:eu fl us (x,y,z) (nI ids i) with
   |none=>rw[hst]at hr';exact .inl (by rw[hr'];rfl)
   |some q=>
    rw[hst]at hr';have hf:=j4 h5 hst;obtain⟨⟨u0,u1,u2⟩,w⟩:=q;dsimp only at hf hr';refine .inr ⟨e7 fl f us (sm+w) g ids ids.length (i+1) u0 u1 u2 a b c D,rfl,?_,by simp only[mCk];omega,?_⟩
    ·simp only[rK,Aa,Ab];exact⟨⟨⟨⟨⟨⟨⟨trivial,by omega⟩,by omega⟩,h4⟩,h5⟩,h6⟩,by omega⟩,by omega⟩
    ·rw[hr'];show(DT.br (Gu fl us (u0,u1,u2) (sm+w) ((Dn ids).drop (i+1).toNat)).1 (.leaf _) (.leaf _)).run=_
     cases(Gu fl us (u0,u1,u2) (sm+w) ((Dn ids).drop (i+1).toNat)).1 <;> rfl
  ·rw[qCk,Ai hi];rw[AC (by rw[EP];omega)]at hr';exact .inl (by rw[hr'];rfl)
 ·cases hp
def R82:CY:=xX.Dl 21 6 [3,6,7,12,13,26,27,28] [false,false,false] Lt rK fCk
theorem j5:CG Try.prog R82.env:=
 abv.Dl (n:=60) Try.func21 (show Try.f21.body=some (DY Try.f21) by kernel_rfl) (show(loops (DY Try.f21)).filter (fun b=>Ew b==6)=[Dg Try.f21 6] by kernel_rfl) [3,6,7,12,13,26,27,28] [6,7,10,11,13] [false,false,false] Lt mCk sCk
abbrev cf(ws:List PV):List PV:=Df (Dc false) ws
abbrev x4(fl:Bool)(ws:List PV)(s:T3)(ids:List PV):Bool×T3×Int:=Gu fl (cf ws) s 0 ((Dn ids).drop (0:Int).toNat)
theorem vX(f:Bool)(ws:List PV)(x y z a b c:Int)(fl:Bool)(g:Bool)(ids:List PV):DD Try.prog R82 60 21 [.C9 f 49 ws,DV x y z,DV a b c,bv fl,.C9 g 3 ids] =
 bif decide (ws.length<=1000)&&E1 Ev ws then
 bif rJ (rI false (cf ws) ((cf ws).length:Int) 0 x y z a b c []) then
 bif GQ [GM x y z,GM a b c] [GM x y z,GM a b c] then
 bif !Tr (mD ws) x y z then some (.El [iv 0,bv false]) else
 bif decide (ws.length<=1000)&&E1 Ev ws then
 bif rK (e7 fl false (cf ws) 0 g ids (ids.length:Int) 0 x y z a b c (mD ws)) then
 bif (x4 fl ws (x,y,z) ids).1 then
  bif !Qa (x4 fl ws (x,y,z) ids).2.1.1 (x4 fl ws (x,y,z) ids).2.1.2.1 (x4 fl ws (x,y,z) ids).2.1.2.2 a b c then some (.El [iv 0,bv false]) else some (.El [iv (x4 fl ws (x,y,z) ids).2.2,bv true])
 else some (.El [iv 0,bv false]) else none else none else none else none else none:=by kernel_rfl
def ew(ws:List PV)(fl:Bool)(s t:T3)(ids:List Int):Int×Bool:=
 @ite _ (EO ws s) (Classical.propDecidable _) (bif (Gu fl (cf ws) s 0 ids).1&&decide ((Gu fl (cf ws) s 0 ids).2.1=t) then ((Gu fl (cf ws) s 0 ids).2.2,true) else (0,false)) (0,false)
theorem vY{ws:List PV}(h:Ho ws)(x y z a b c:Int):rJ (rI false (cf ws) ((cf ws).length:Int) 0 x y z a b c [])=true:=by
 have:(cf ws).length<=ws.length:=ED (d:=Dc false) ws;have:=h.Tp;simp only[rJ,Aa,Ab];exact⟨⟨⟨⟨trivial,by omega⟩,by omega⟩,by omega⟩,NW h.Jz⟩
theorem vZ{fl g:Bool}{ws ids:List PV}(h:Ho ws)(hi:ids.length<=100000)(x y z a b c:Int):rK (e7 fl false (cf ws) 0 g ids (ids.length:Int) 0 x y z a b c (mD ws))=true:=by
 have:(cf ws).length<=ws.length:=ED (d:=Dc false) ws;have:=h.Tp;simp only[rK,Aa,Ab];exact⟨⟨⟨⟨⟨⟨⟨trivial,by omega⟩,by omega⟩,hi⟩,Hw h⟩,by omega⟩,by omega⟩,by omega⟩
theorem cg(f:Bool)(ws:List PV)(x y z a b c:Int)(fl:Bool)(g:Bool)(ids:List PV)(h:Ho ws)(hN:Ed Ev ws)(hi:ids.length<=100000):
  DD Try.prog R82 60 21 [.C9 f 49 ws,DV x y z,DV a b c,bv fl,.C9 g 3 ids]=some (.El [iv (ew ws fl (x,y,z) (a,b,c) (Dn ids)).1,bv (ew ws fl (x,y,z) (a,b,c) (Dn ids)).2]):=by
 have hf:=h.Tp;rw[vX,Ac (show ws.length<=1000 by omega),Ea.2 hN,vY h,EM,vZ h hi];simp only[Bg,Aj];unfold ew;by_cases hs:EO ws (x,y,z)
 ·have e0:x4 fl ws (x,y,z) ids=Gu fl (cf ws) (x,y,z) 0 (Dn ids):=rfl;rw[JI.2 hs,Ak hs,e0];simp only[BX,Ar];generalize Gu fl (cf ws) (x,y,z) 0 (Dn ids)=r;obtain⟨r1,⟨u0,u1,u2⟩,r3⟩:=r;dsimp only;rw[show Qa u0 u1 u2 a b c=decide ((u0,u1,u2)=(a,b,c)) from ZO (p:=DV a b c)];cases r1 with
  |false=>rfl
  |true=>cases decide ((u0,u1,u2)=(a,b,c)) <;> rfl
 ·have hg:Tr (mD ws) x y z=false:=by
   cases hh:Tr (mD ws) x y z with
   |true=>exact absurd (JI.1 hh) hs
   |false=>rfl
  rw[hg,Aq hs];rfl
def Vr:List PV->Option (DT PV)
 | [.C9 _ 49 ws,.agg [.val (.int .i64 x),.val (.int .i64 y),.val (.int .i64 z)],.agg [.val (.int .i64 a),.val (.int .i64 b),.val (.int .i64 c)],.val (.bool fl),.C9 _ 3 ids]=>
  some (.br (dB (Ho ws)&&E1 Ev ws&&decide (ids.length<=100000)) (.leaf (.El [iv (ew ws fl (x,y,z) (a,b,c) (Dn ids)).1,bv (ew ws fl (x,y,z) (a,b,c) (Dn ids)).2])) .no)
 |_=>none
theorem v5:Hx.Dd Try.prog 21:=(Cy j5 (n:=60) (cg false [] 0 0 0 0 0 0 false false [] ZK Vp (by simp))).1
theorem v7(args:List PV)(d:DT PV)(r:PV)(h:Vr args=some d)(hr:d.run=some r):Dr Try.prog 21 args r:=by
 unfold Vr at h;split at h
 ·rename_i f ws x y z a b c fl g ids;cases h;obtain⟨h1,rfl⟩:=DN hr;simp only[Aa,Dy,Ea,Ab]at h1;exact(Cy j5 (n:=60) (cg f ws x y z a b c fl g ids h1.1.1 h1.1.2 h1.2)).2
 ·cases h
def R83:CY:=R82.DE 21 Vr
theorem abx:CG Try.prog R83.env:=j5.DE v5 v7
def Qf:S1:=⟨26,[(0,.C9 3),(1,.C9 3),(5,Dk)],[]⟩
abbrev v8(f:Bool)(xs:List PV)(g:Bool)(ys:List PV)(i:Int):LS:=([.l f xs,.l g ys,.i i],[])
theorem qSm(f:Bool)(xs:List PV)(g:Bool)(ys:List PV)(i:Int):Db Try.prog R83 60 14 (Dg Try.f14 4) [0,1,5] [4] (Qf.put (v8 f xs g ys i)).1 (Qf.put (v8 f xs g ys i)).2 =
 bif decide (i<(xs.length:Int)) then bif F8 xs i then bif F8 ys i then bif nI xs i != nI ys i then some (.ret,tm 26 [(4,bv false)],[]) else some (.normal,Qf.put (v8 f xs g ys (W (i+1)))) else none else none
 else some (.exit 0,tm 26 [],[]):=by kernel_rfl
def rL:LS->Bool
 |([.l _ xs,.l _ ys,.i i],[])=>decide (xs.length=ys.length)&&decide (0<=i)&&decide (i<=(xs.length:Int))&&decide (xs.length<=1000000)
 |_=>false
def fSm:LS->DT (PX×List PV×List Row)
 |([.l _ xs,.l _ ys,.i i],[])=>.br (decide ((Dn xs).drop i.toNat=(Dn ys).drop i.toNat)) (.leaf (.exit 0,tm 26 [],[])) (.leaf (.ret,tm 26 [(4,bv false)],[]))
 |_=>.no
def mSm:LS->Nat
 |([.l _ xs,.l _ _,.i i],_)=>((xs.length:Int)-i).toNat
 |_=>0
theorem sSm:∀ s r,rL s=true->(fSm s).run=some r->r.1≠.normal/\(Db Try.prog R83 60 14 (Dg Try.f14 4) [0,1,5] [4] (Qf.put s).1 (Qf.put s).2=some r \/
   ∃ s',Db Try.prog R83 60 14 (Dg Try.f14 4) [0,1,5] [4] (Qf.put s).1 (Qf.put s).2=some (.normal,Qf.put s')/\rL s'=true/\mSm s'<mSm s/\(fSm s').run=some r):=by
 intro t r hp hr;unfold rL at hp;split at hp
 ·rename_i f xs g ys i;simp only[Aa,Ab]at hp;obtain⟨⟨⟨h1,h2⟩,h3⟩,h4⟩:=hp;have hr':=Hl hr;refine⟨by rw[hr'];cases decide ((Dn xs).drop i.toNat=(Dn ys).drop i.toNat) <;> simp,?_⟩;rw[show Qf.put ([.l f xs,.l g ys,.i i],[])=Qf.put (v8 f xs g ys i) from rfl,qSm];by_cases hi:i<(xs.length:Int)
  ·rw[Ac hi,DW h2 hi,DW h2 (by omega),Dx (by omega) (by omega)];simp only[Aj];rw[IH h2 hi,IH h2 (show i<(ys.length:Int) by omega)]at hr';rw[show((xs.getD i.toNat .any).cellAt 0).DL=nI xs i from rfl,show((ys.getD i.toNat .any).cellAt 0).DL=nI ys i from rfl]at hr';by_cases he:nI xs i=nI ys i
   ·rw[show(nI xs i != nI ys i)=false by simp[he]];refine .inr ⟨v8 f xs g ys (i+1),rfl,by simp only[rL,Aa,Ab];exact⟨⟨⟨h1,by omega⟩,by omega⟩,h4⟩,by simp only[mSm];omega,?_⟩;rw[hr'];have:decide (nI xs i::(Dn xs).drop (i+1).toNat=nI ys i::(Dn ys).drop (i+1).toNat)=decide ((Dn xs).drop (i+1).toNat=(Dn ys).drop (i+1).toNat):=by
     rw[B2,he];simp
    rw[this];show(DT.br (decide ((Dn xs).drop (i+1).toNat=(Dn ys).drop (i+1).toNat)) (.leaf _) (.leaf _)).run=_
    cases decide ((Dn xs).drop (i+1).toNat=(Dn ys).drop (i+1).toNat) <;> rfl
   ·rw[show(nI xs i != nI ys i)=true by simp[he]];rw[Ai (fun hh=>he (List.cons.inj hh).1)]at hr';exact .inl (by rw[hr'];rfl)
  ·rw[Ai hi];rw[AC (by rw[EP];omega),AC (by rw[EP];omega),Ac rfl]at hr';exact .inl (by rw[hr'];rfl)
 ·cases hp
def R88:CY:=R83.Dl 14 4 [0,1,5] [] Qf rL fSm
theorem j6:CG Try.prog R88.env:=
 abx.Dl (n:=60) Try.func14 (show Try.f14.body=some (DY Try.f14) by kernel_rfl) (show(loops (DY Try.f14)).filter (fun b=>Ew b==4)=[Dg Try.f14 4] by kernel_rfl) [0,1,5] [4] [] Qf mSm sSm
theorem aby(f:Bool)(xs:List PV)(g:Bool)(ys:List PV):DD Try.prog R88 60 14 [.C9 f 3 xs,.C9 g 3 ys] =
 bif (xs.length:Int) != (ys.length:Int) then some (bv false) else bif rL (v8 f xs g ys 0) then bif decide ((Dn xs).drop (0:Int).toNat=(Dn ys).drop (0:Int).toNat) then some (bv true) else some (bv false) else none:=by kernel_rfl
theorem j7(f:Bool)(xs:List PV)(g:Bool)(ys:List PV)(h:xs.length<=1000000):DD Try.prog R88 60 14 [.C9 f 3 xs,.C9 g 3 ys]=some (bv (decide (Dn xs=Dn ys))):=by
 rw[aby];by_cases hl:xs.length=ys.length
 ·have hp:rL (v8 f xs g ys 0)=true:=by
   simp only[rL,Aa,Ab];exact⟨⟨⟨hl,by omega⟩,by omega⟩,h⟩
  rw[show((xs.length:Int) != (ys.length:Int))=false by simp[hl],hp,show(0:Int).toNat=0 from rfl,AF,AF];cases decide (Dn xs=Dn ys) <;> rfl
 ·rw[show((xs.length:Int) != (ys.length:Int))=true by simp;omega,show decide (Dn xs=Dn ys)=false from Ai (fun e=>hl (by have:=congrArg List.length e;rwa [EP,EP]at this))];rfl
def j8:List PV->Option (DT PV)
 | [.C9 _ 3 xs,.C9 _ 3 ys]=>some (.br (decide (xs.length<=1000000)) (.leaf (bv (decide (Dn xs=Dn ys)))) .no)
 |_=>none
theorem abz:Hx.Dd Try.prog 14:=(Cy j6 (n:=60) (j7 false [] false [] (by simp))).1
theorem abA(args:List PV)(d:DT PV)(r:PV)(h:j8 args=some d)(hr:d.run=some r):Dr Try.prog 14 args r:=by
 unfold j8 at h;split at h
 ·rename_i f xs g ys;cases h;obtain⟨h1,rfl⟩:=DN hr;exact(Cy j6 (n:=60) (j7 f xs g ys (AN h1))).2
 ·cases h
def x5:CY:=R88.DE 14 j8
theorem rM:CG Try.prog x5.env:=j6.DE abz abA
def Qg:S1:=⟨36,[(0,.mp 0),(14,.C9 83),(15,Dk),(16,Dk)],[.Gy 30 3]⟩
abbrev v9(f:Bool)(l:List PV)(len i:Int)(D:List (PV×PV)):LS:=([.l f l,.i len,.i i],[.m D])
abbrev wa(D:List (PV×PV))(e:PV):Int:=((Fu (iv 0) D (pW e)).cellAt 0).DL
theorem qSc(f:Bool)(l:List PV)(len i:Int)(D:List (PV×PV)):Db Try.prog x5 60 15 (Dg Try.f15 4) [0,14,15,16] [4] (Qg.put (v9 f l len i D)).1 (Qg.put (v9 f l len i D)).2 =
 bif decide (i<len) then bif F8 l i then bif !EE D (pW (aE l i)) then some (.ret,tm 36 [(4,bv false)],[IS 30 3 D]) else
  bif cond false true (wa D (aE l i) != rC (aE l i)) then some (.ret,tm 36 [(4,bv false)],[IS 30 3 D]) else some (.normal,Qg.put (v9 f l len (W (i+1)) D)) else none
 else some (.exit 0,tm 36 [],[IS 30 3 D]):=by kernel_rfl
def okC(D:List (PV×PV))(e:PV):Bool:=EE D (pW e)&&decide (wa D e=rC e)
def rO:LS->Bool
 |([.l _ l,.i len,.i i],[.m D])=>decide (len=(l.length:Int))&&decide (0<=i)&&decide (i<=len)&&decide (l.length<=1000000)&&(l.drop i.toNat).all (okC D)
 |_=>false
def fSc:LS->DT (PX×List PV×List Row)
 |([.l _ _,.i _,.i _],[.m D])=>.leaf (.exit 0,tm 36 [],[IS 30 3 D])
 |_=>.no
def mSc:LS->Nat
 |([.l _ _,.i len,.i i],_)=>(len-i).toNat
 |_=>0
theorem sSc:∀ s r,rO s=true->(fSc s).run=some r->r.1≠.normal/\(Db Try.prog x5 60 15 (Dg Try.f15 4) [0,14,15,16] [4] (Qg.put s).1 (Qg.put s).2=some r \/
   ∃ s',Db Try.prog x5 60 15 (Dg Try.f15 4) [0,14,15,16] [4] (Qg.put s).1 (Qg.put s).2=some (.normal,Qg.put s')/\rO s'=true/\mSc s'<mSc s/\(fSc s').run=some r):=by
 intro t r hp hr;unfold rO at hp;split at hp
 ·rename_i f l len i D;simp only[Aa,Ab]at hp;obtain⟨⟨⟨⟨rfl,h2⟩,h3⟩,h4⟩,h5⟩:=hp;have hr':=(Ah hr).symm;refine⟨by rw[hr'];simp,?_⟩;rw[show Qg.put ([.l f l,.i (l.length:Int),.i i],[.m D])=Qg.put (v9 f l l.length i D) from rfl,qSc];by_cases hi:i<(l.length:Int)
  ·rw[Ds h2 hi,Cc,Aa]at h5;have h6:=h5.1;rw[show l.getD i.toNat .any=aE l i from rfl]at h6;unfold okC at h6;rw[Aa,Ab]at h6;rw[Ac hi,DW h2 hi,h6.1,show(wa D (aE l i) != rC (aE l i))=false by rw[h6.2];simp,Dx (by omega) (by omega)];exact .inr ⟨v9 f l l.length (i+1) D,rfl,by simp only[rO,Aa,Ab];exact⟨⟨⟨⟨trivial,by omega⟩,by omega⟩,h4⟩,h5.2⟩,by simp only[mSc];omega,by rw[hr'];rfl⟩
  ·rw[Ai hi];exact .inl (by rw[hr'];rfl)
 ·cases hp
def R90:CY:=x5.Dl 15 4 [0,14,15,16] [false] Qg rO fSc
theorem rQ:CG Try.prog R90.env:=
 rM.Dl (n:=60) Try.func15 (show Try.f15.body=some (DY Try.f15) by kernel_rfl) (show(loops (DY Try.f15)).filter (fun b=>Ew b==4)=[Dg Try.f15 4] by kernel_rfl) [0,14,15,16] [4] [false] Qg mSc sSc
theorem agE(f:Bool)(l:List PV)(D:List (PV×PV)):Jx Try.prog R90 60 15 [.mp 0,.C9 f 83 l] [IS 30 3 D] =
 bif (D.length:Int) != (l.length:Int) then some (bv false,[IS 30 3 D]) else bif rO (v9 f l (l.length:Int) 0 D) then some (bv true,[IS 30 3 D]) else none:=by kernel_rfl
def ov(D:List (PV×PV))(l:List PV):Prop:=D.length=l.length/\l.length<=1000000/\l.all (okC D)=true
theorem rR(f:Bool){l:List PV}{D:List (PV×PV)}(h:ov D l):Jx Try.prog R90 60 15 [.mp 0,.C9 f 83 l] [IS 30 3 D]=some (bv true,[IS 30 3 D]):=by
 obtain⟨h1,h2,h3⟩:=h;have hp:rO (v9 f l (l.length:Int) 0 D)=true:=by
  simp only[rO,Aa,Ab];exact⟨⟨⟨⟨trivial,by omega⟩,by omega⟩,h2⟩,h3⟩
 rw[agE,hp,show((D.length:Int) != (l.length:Int))=false by simp[h1]];rfl
def wb:List PV->List Row->Option (DT (PV×List Row))
 | [.mp 0,.C9 _ 83 l],[⟨[],0,0,true,false,false,some ⟨⟨0,[],⟨[]⟩,.skip,.skip⟩,.Gy 30 3 D⟩,false⟩]=>
  some (.br (dB (ov D l)) (.leaf (bv true,[IS 30 3 D])) .no)
 |_,_=>none
theorem agF:Hx.Dd Try.prog 15:=(DH rQ (rR false (l:=[]) (D:=[]) ⟨rfl,by simp,rfl⟩)).1
theorem agG(args:List PV)(H:List Row)(d:DT (PV×List Row))(q:PV)(H':List Row)(h:wb args H=some d)(hd:d.run=some (q,H')):Fa Try.prog 0 15 args H q H':=by
 unfold wb at h;split at h
 ·rename_i f l D;cases h;obtain⟨hc,he⟩:=FU hd;cases he;exact(DH rQ (rR f (Dy.1 hc))).2
 ·cases h
theorem XT{t:T3}{z:PV}{w:Int}{p:List Int}:∀{L:List Rc},(L.map (·.1)).Nodup->(t,(w,p))∈L->Fu z (L.map Kl) (Hz t)=iv w
 |x::L,hn,h=>by
  rw[AV,Ca]at hn;show(bif JN (Hz t) (Hz x.1) then iv x.2.1 else Fu z (L.map Kl) (Hz t))=_
  rw[I5];rcases AK.1 h with rfl |h
  ·rw[Ac rfl];rfl
  ·rw[Ai (fun e=>hn.1 (by rw[<- e];exact Br h))];exact XT hn.2 h
theorem O0{α β:Type}{f:α->β}:∀{l:List α},(l.map f).Nodup->l.Nodup
 | [],_=>.nil
 |x::l,h=>by
  rw[AV,Ca]at h;exact Ca.2 ⟨fun hx=>h.1 (Br hx),O0 h.2⟩
theorem ey{ws:List PV}{fl:Bool}{s:T3}(h:Ho ws):ov ((Hy ws fl s).map Kl) ((N5 ws fl s).map vV):=by
 have hn:=jW (fl:=fl) (s:=s) h;have hn2:=ot (ws:=ws) (fl:=fl) (s:=s);have hm:∀ r,r∈Hy ws fl s ↔ r∈N5 ws fl s:=fun r=>(Ig (v:=r.1) (k:=r.2) h).trans (XR (v:=r.1) (k:=r.2) h).symm
 have hp:(Hy ws fl s).Perm (N5 ws fl s):=(List.perm_ext_iff_of_nodup (O0 hn) (O0 hn2)).2 hm;have hl:=jZ (fl:=fl) (s:=s) h;refine⟨by rw[AP,AP];exact hp.length_eq,by rw[AP];omega,?_⟩;rw[Ao];intro e he;obtain⟨r,hr,rfl⟩:=AX.1 he;have hr':=(hm r).2 hr;unfold okC;rw[Aa,Ab];refine⟨?_,?_⟩
 ·show EE _ (Hz r.1)=true
  rw[SQ,Ac (Br hr')]
 ·show((Fu (iv 0) _ (Hz r.1)).cellAt 0).DL=r.2.1
  rw[XT hn hr'];rfl
def MT1:CY:=M7.F4 85 3 [(1201,28,2)]
theorem abC:CG Try.prog MT1.env:=IP.F4 85 3 [(1201,28,2)]
def O1:S1:=⟨31,[(1,.ptr 0 1 0 0),(2,.ptr 1 1 0 0),(3,.ptr 2 1 0 0),(4,Dk)],[.one 147 4 (.agg [Dk,.C9 28,Dk,Dk]),.GJ 147 4 (.agg [Dk,.nil,Dk,Dk]),.GJ 147 4 (.agg [Dk,.sl 3,Dk,Dk]),.many 28 2]⟩
abbrev rT(i id:Int)(f:Bool)(ps:List PV)(lf rt b0 b1 b2 c0:Int)(n l:Nat)(c1 c2:Int)(nl:Bool)(es:List PV):LS:=([.i i],[.i id,.l f ps,.i lf,.i rt,.i b0,.i b1,.i b2,.i c0,.n n,.n l,.i c1,.i c2,.l nl es])
abbrev xTu(id:Int)(f:Bool)(ps:List PV)(lf rt b0 b1 b2 c0:Int)(n l:Nat)(c1 c2:Int)(nl:Bool)(es:List PV):PX×List PV×List Row:=
 (.exit 0,tm 31 [(2,.ptr 1 1 0 0),(3,.ptr 2 1 0 0)],(O1.put (rT 0 id f ps lf rt b0 b1 b2 c0 n l c1 c2 nl es)).2)
abbrev ptN(e:PV):PV:=F0 (e.cellAt 0).DL (e.cellAt 1).DL
theorem qTu(i id:Int)(f:Bool)(ps:List PV)(lf rt b0 b1 b2 c0:Int)(n l:Nat)(c1 c2:Int)(nl:Bool)(es:List PV):Db Try.prog MT1 60 85 (Dg Try.f85 3) [1,2,3,4] [2,3] (O1.put (rT i id f ps lf rt b0 b1 b2 c0 n l c1 c2 nl es)).1 (O1.put (rT i id f ps lf rt b0 b1 b2 c0 n l c1 c2 nl es)).2 =
 bif decide (i ≥ 0) then bif F8 ps i then bif true&&decide (es.length=n)&&decide (n=l)&&decide ((n+1)*16<=140737488355328) then
  some (.normal,O1.put (rT (W (i-1)) id f ps lf rt b0 b1 b2 c0 (n+1) (n+1) c1 c2 (nl&&false) (es++[ptN (aE ps i)]))) else none else none
 else some (xTu id f ps lf rt b0 b1 b2 c0 n l c1 c2 nl es):=by kernel_rfl
def Qh(ps:List PV):Nat->List PV
 |0=>[]
 |m+1=>ptN (ps.getD m .any)::Qh ps m
theorem N8(ps:List PV):∀ m,(Qh ps m).length=m
 |0=>rfl
 |m+1=>by rw[Qh,As,N8]
def rU:LS->Bool
 |([.i i],[.i _,.l _ ps,.i _,.i _,.i _,.i _,.i _,.i _,.n n,.n l,.i _,.i _,.l _ es])=>decide (n=es.length)&&decide (l=es.length)&&decide (-1<=i)&&decide (i<(ps.length:Int))&&decide (ps.length<=1000)&&decide ((es.length:Int)+i<=2000)
 |_=>false
def fTu:LS->DT (PX×List PV×List Row)
 |([.i i],[.i id,.l f ps,.i lf,.i rt,.i b0,.i b1,.i b2,.i c0,.n _,.n _,.i c1,.i c2,.l nl es])=>
  .leaf (xTu id f ps lf rt b0 b1 b2 c0 (es.length+(i+1).toNat) (es.length+(i+1).toNat) c1 c2 (nl&&decide ((i+1).toNat=0)) (es++Qh ps (i+1).toNat))
 |_=>.no
def mTu:LS->Nat
 |([.i i],_)=>(i+1).toNat
 |_=>0
theorem sTu:∀ s r,rU s=true->(fTu s).run=some r->r.1≠.normal/\(Db Try.prog MT1 60 85 (Dg Try.f85 3) [1,2,3,4] [2,3] (O1.put s).1 (O1.put s).2=some r \/
   ∃ s',Db Try.prog MT1 60 85 (Dg Try.f85 3) [1,2,3,4] [2,3] (O1.put s).1 (O1.put s).2=some (.normal,O1.put s')/\rU s'=true/\mTu s'<mTu s/\(fTu s').run=some r):=by
 intro t r hp hr;unfold rU at hp;split at hp
 ·rename_i i id f ps lf rt b0 b1 b2 c0 n l c1 c2 nl es;simp only[Aa,Ab]at hp;obtain⟨⟨⟨⟨⟨rfl,rfl⟩,h2⟩,h3⟩,h4⟩,h5⟩:=hp;have hr':=(Ah hr).symm;refine⟨by rw[hr'];simp,?_⟩;rw[show O1.put ([.i i],[.i id,.l f ps,.i lf,.i rt,.i b0,.i b1,.i b2,.i c0,.n es.length,.n es.length,.i c1,.i c2,.l nl es])=O1.put (rT i id f ps lf rt b0 b1 b2 c0 es.length es.length c1 c2 nl es) from rfl,qTu];by_cases hi:i ≥ 0
  ·obtain⟨m,hm⟩:∃ m,(i+1).toNat=m+1:=⟨(i+1).toNat-1,by omega⟩;have hm2:(i-1+1).toNat=m:=by omega
   have hm3:i.toNat=m:=by omega
   rw[Ac hi,DW (by omega) h3,Dx (n:=i-1) (by omega) (by omega),show(true&&decide (es.length=es.length)&&decide (es.length=es.length)&&decide ((es.length+1)*16<=140737488355328))=true by simp;omega];simp only[Aj,BC];rw[hm]at hr';refine .inr ⟨rT (i-1) id f ps lf rt b0 b1 b2 c0 (es.length+1) (es.length+1) c1 c2 false (es++[ptN (aE ps i)]),rfl,?_,by simp only[mTu];omega,?_⟩
   ·simp only[rU,Aa,Ab,Ap,As,AB];exact⟨⟨⟨⟨⟨trivial,trivial⟩,by omega⟩,by omega⟩,h4⟩,by omega⟩
   ·rw[hr'];simp only[fTu,hm2,DT.run,Ap,As,AB,Qh];rw[Bu,show es.length+(0+1)+m=es.length+(m+1) by omega,show aE ps i=ps.getD m .any by unfold aE;rw[hm3]];simp
  ·rw[Ai hi];refine .inl ?_;rw[hr',show(i+1).toNat=0 by omega,BA];simp only[Qh,BL,CT,Bq];rfl
 ·cases hp
def MT2:CY:=MT1.Dl 85 3 [1,2,3,4] [true,true,true,true] O1 rU fTu
theorem rV:CG Try.prog MT2.env:=
 abC.Dl (n:=60) Try.func85 (show Try.f85.body=some (DY Try.f85) by kernel_rfl) (show(loops (DY Try.f85)).filter (fun b=>Ew b==3)=[Dg Try.f85 3] by kernel_rfl) [1,2,3,4] [2,3] [true,true,true,true] O1 mTu sTu
theorem ow(id:Int)(f:Bool)(ps:List PV)(lf rt:Int):DD Try.prog MT2 60 85 [.agg [iv id,.C9 f 28 ps,iv lf,iv rt]] =
 bif rU (rT (W ((ps.length:Int)-1)) id f ps lf rt 0 0 0 id 0 0 rt lf true []) then
  HM ([]++Qh ps (W ((ps.length:Int)-1)+1).toNat) (0+(W ((ps.length:Int)-1)+1).toNat) (some (.agg [iv id,.C9 false 28 ((([]++Qh ps (W ((ps.length:Int)-1)+1).toNat).drop 0).take (0+(W ((ps.length:Int)-1)+1).toNat)),iv rt,iv lf])) else none:=by kernel_rfl
theorem XU(id:Int)(f:Bool)(ps:List PV)(lf rt:Int)(h:ps.length<=1000):DD Try.prog MT2 60 85 [.agg [iv id,.C9 f 28 ps,iv lf,iv rt]]=some (.agg [iv id,.C9 false 28 (Qh ps ps.length),iv rt,iv lf]):=by
 have hw:W ((ps.length:Int)-1)=(ps.length:Int)-1:=Dx (by omega) (by omega);have hp:rU (rT ((ps.length:Int)-1) id f ps lf rt 0 0 0 id 0 0 rt lf true [])=true:=by
  simp only[rU,Aa,Ab,AB];exact⟨⟨⟨⟨⟨trivial,trivial⟩,by omega⟩,by omega⟩,h⟩,by omega⟩
 rw[ow,hw,hp,show((ps.length:Int)-1+1).toNat=ps.length by omega];rw[Aj,A9,AM,DJ (N8 _ _),AF,A7 (by rw[N8];exact Al _)]
def wc:List PV->Option (DT PV)
 | [.agg [.val (.int .i64 id),.C9 _ 28 ps,.val (.int .i64 lf),.val (.int .i64 rt)]]=>some (.br (decide (ps.length<=1000)) (.leaf (.agg [iv id,.C9 false 28 (Qh ps ps.length),iv rt,iv lf])) .no)
 |_=>none
theorem agJ:Hx.Dd Try.prog 85:=(Cy rV (n:=60) (XU 0 false [] 0 0 (by simp))).1
theorem agK(args:List PV)(d:DT PV)(r:PV)(h:wc args=some d)(hr:d.run=some r):Dr Try.prog 85 args r:=by
 unfold wc at h;split at h
 ·rename_i id f ps lf rt;cases h;obtain⟨h1,rfl⟩:=DN hr;exact(Cy rV (n:=60) (XU id f ps lf rt (AN h1))).2
 ·cases h
def MA1:CY:=M7.DE 85 wc
theorem rW:CG Try.prog MA1.env:=IP.DE agJ agK
abbrev QP(nl:Bool)(es:List PV):Row:={ es,s:=4,t:=147,bv:=true,nl }
abbrev edv(id:Int)(f:Bool)(ps:List PV)(lf rt:Int):PV:=.agg [iv id,.C9 f 28 ps,iv lf,iv rt]
abbrev j9(es:List PV)(n l:Nat):Bool:=true&&decide (es.length=n)&&decide (n=l)&&decide ((n+1)*48<=140737488355328)
theorem agM(n l:Nat)(nl:Bool)(es:List PV)(g:Bool)(ps:List PV)(lf rt:Int)(f:Bool)(L:List PV)(a:Int):Jx Try.prog MA1 60 71 [.sl 0 n 0 l,.C9 g 28 ps,iv lf,iv rt,.ptr 1 1 0 0] [QP nl es,Ic f L a] =
 bif lf==rt then some (.sl 0 n 0 l,[QP nl es,Ic f L a]) else bif E3 a 2 then bif dI L a 2==1 then bif decide (ps.length<=1000) then bif j9 es n l then
  some (.sl 0 (n+1) 0 (n+1),[QP (nl&&false) (es++[edv (W ((l:Int)+1)) false (Qh ps ps.length) rt lf]),Ic (fI f L a) L (aI L a)]) else none else none
 else bif j9 es n l then some (.sl 0 (n+1) 0 (n+1),[QP (nl&&false) (es++[edv (W ((l:Int)+1)) g ps lf rt]),Ic (fI f L a) L (aI L a)]) else none else none:=by kernel_rfl
def IJ(es:List PV)(g:Bool)(ps:List PV)(lf rt:Int)(L:List PV)(a:Int):List PV:=
 bif lf==rt then es else es++[bif dI L a 2==1 then edv (W ((es.length:Int)+1)) false (Qh ps ps.length) rt lf else edv (W ((es.length:Int)+1)) g ps lf rt]
def Vt(lf rt:Int)(L:List PV)(a:Int):Int:=bif lf==rt then a else aI L a
def addF'(lf rt:Int)(f:Bool)(L:List PV)(a:Int):Bool:=bif lf==rt then f else fI f L a
def addN'(lf rt:Int)(nl:Bool):Bool:=bif lf==rt then nl else false
def Vu(n l:Nat)(es ps:List PV)(a:Int):Bool:=decide (n=es.length)&&decide (l=es.length)&&decide (es.length<=1000)&&decide (ps.length<=1000)&&E3 a 2
theorem rY{n l:Nat}{nl:Bool}{es:List PV}{g:Bool}{ps:List PV}{lf rt:Int}{f:Bool}{L:List PV}{a:Int}(h:Vu n l es ps a=true):Jx Try.prog MA1 60 71 [.sl 0 n 0 l,.C9 g 28 ps,iv lf,iv rt,.ptr 1 1 0 0] [QP nl es,Ic f L a] =
  some (.sl 0 (IJ es g ps lf rt L a).length 0 (IJ es g ps lf rt L a).length,[QP (addN' lf rt nl) (IJ es g ps lf rt L a),Ic (addF' lf rt f L a) L (Vt lf rt L a)]):=by
 unfold Vu at h;simp only[Aa,Ab]at h;obtain⟨⟨⟨⟨rfl,rfl⟩,h1⟩,h2⟩,h3⟩:=h;rw[agM,h3,Ac h2,show j9 es es.length es.length=true by show(true&&_&&_&&_)=true;simp;omega];unfold IJ addN' addF' Vt;cases lf==rt with
 |true=>rfl
 |false=>
  simp only[Ar,Aj,BC,Ap,As,AB];cases dI L a 2==1 <;> rfl
def ox:List PV->List Row->Option (DT (PV×List Row))
 | [.sl 0 n 0 l,.C9 g 28 ps,.val (.int .i64 lf),.val (.int .i64 rt),.ptr 1 1 0 0],[⟨es,4,147,true,true,nl,none,false⟩,⟨[.agg [.C9 f 3 L,.val (.int .i64 a)]],2,103,true,true,false,none,false⟩]=>
  some (.br (Vu n l es ps a) (.leaf (.sl 0 (IJ es g ps lf rt L a).length 0 (IJ es g ps lf rt L a).length,[QP (addN' lf rt nl) (IJ es g ps lf rt L a),Ic (addF' lf rt f L a) L (Vt lf rt L a)])) .no)
 |_,_=>none
theorem abE:Hx.Dd Try.prog 71:=(DH rW (rY (n:=0) (l:=0) (nl:=false) (es:=[]) (g:=false) (ps:=[]) (lf:=0) (rt:=0) (f:=false) (L:=[]) (a:=0) (by rfl))).1
theorem abF(args:List PV)(H:List Row)(d:DT (PV×List Row))(q:PV)(H':List Row)(h:ox args H=some d)(hd:d.run=some (q,H')):Fa Try.prog 0 71 args H q H':=by
 unfold ox at h;split at h
 ·rename_i n l g ps lf rt es nl f L a;cases h;obtain⟨hc,he⟩:=FU hd;cases he;exact(DH rW (rY hc)).2
 ·cases h
def MA2:CY:=M7.E7 71 ox
theorem abG:CG Try.prog MA2.env:=IP.E7 abE abF
def MA3:CY:=MA2.GH 75 5 3
theorem rZ:CG Try.prog MA3.env:=abG.GH 75 5 3
abbrev x6(L:List PV)(a:Int):Int:=W (6+dI L a 8)
abbrev isA(cx cy r:Int):List PV:=[F0 (W (cx-r)) (W (cy-r)),F0 (W (cx+r)) (W (cy-r)),F0 (W (cx+r)) (W (cy+r)),F0 (W (cx-r)) (W (cy-r))]
abbrev isB(cx cy r:Int):List PV:=[F0 (W (cx-r)) cy,F0 cx (W (cy-r)),F0 (W (cx+r)) (W (cy+2)),F0 cx (W (cy+r)),F0 (W (cx-r)) cy]
def isT(n l:Nat)(nl:Bool)(es:List PV)(ps:List PV)(ar:Int)(f:Bool)(L:List PV)(a:Int):Option (PV×List Row):=
 bif es.length==n then bif Vu n l es ps a then
  some (.sl 0 (IJ es false ps 28 ar L a).length 0 (IJ es false ps 28 ar L a).length,[QP (addN' 28 ar nl) (IJ es false ps 28 ar L a),Ic (addF' 28 ar f L a) L (Vt 28 ar L a)]) else none else none
theorem agR(n l:Nat)(nl:Bool)(es:List PV)(cx cy ar:Int)(f:Bool)(L:List PV)(a:Int):Jx Try.prog MA3 60 75 [.sl 0 n 0 l,F0 cx cy,iv ar,.ptr 1 1 0 0] [QP nl es,Ic f L a] =
 bif E3 a 8 then bif E3 (aI L a) 2 then bif dI L (aI L a) 2==1 then isT n l nl es (isB cx cy (x6 L a)) ar (f1 f L a 2) L (a1 L a 2) else isT n l nl es (isA cx cy (x6 L a)) ar (f1 f L a 2) L (a1 L a 2) else none else none:=by kernel_rfl
def oy(cx cy:Int)(L:List PV)(a:Int):List PV:=bif dI L (aI L a) 2==1 then isB cx cy (x6 L a) else isA cx cy (x6 L a)
def eA(n l:Nat)(es:List PV)(a:Int):Bool:=decide (n=es.length)&&decide (l=es.length)&&decide (es.length<=1000)&&decide (0<=a)&&decide (a<=1000000000)
theorem r7{n l:Nat}{nl:Bool}{es:List PV}{cx cy ar:Int}{f:Bool}{L:List PV}{a:Int}(h:eA n l es a=true):Jx Try.prog MA3 60 75 [.sl 0 n 0 l,F0 cx cy,iv ar,.ptr 1 1 0 0] [QP nl es,Ic f L a] =
  some (.sl 0 (IJ es false (oy cx cy L a) 28 ar L (a1 L a 2)).length 0 (IJ es false (oy cx cy L a) 28 ar L (a1 L a 2)).length,
   [QP (addN' 28 ar nl) (IJ es false (oy cx cy L a) 28 ar L (a1 L a 2)),Ic (addF' 28 ar (f1 f L a 2) L (a1 L a 2)) L (Vt 28 ar L (a1 L a 2))]):=by
 unfold eA at h;simp only[Aa,Ab]at h;obtain⟨⟨⟨⟨rfl,rfl⟩,h1⟩,h2⟩,h3⟩:=h;have ha:=F7 L a;have hb:=Hu L a 2;have hok:∀ ps:List PV,ps.length<=1000->Vu es.length es.length es ps (a1 L a 2)=true:=fun ps hp=>by
  unfold Vu E3;simp only[Aa,Ab];exact⟨⟨⟨⟨trivial,trivial⟩,h1⟩,hp⟩,⟨⟨by omega,by omega⟩,by omega⟩,by omega⟩
 rw[agR,show E3 a 8=true by unfold E3;simp;omega,show E3 (aI L a) 2=true by unfold E3;simp;omega];unfold oy isT;rw[hok (isA cx cy (x6 L a)) (by simp),hok (isB cx cy (x6 L a)) (by simp),AS];cases dI L (aI L a) 2==1 <;> rfl
def we:List PV->List Row->Option (DT (PV×List Row))
 | [.sl 0 n 0 l,.agg [.val (.int .i64 cx),.val (.int .i64 cy)],.val (.int .i64 ar),.ptr 1 1 0 0],[⟨es,4,147,true,true,nl,none,false⟩,⟨[.agg [.C9 f 3 L,.val (.int .i64 a)]],2,103,true,true,false,none,false⟩]=>
  some (.br (eA n l es a) (.leaf (.sl 0 (IJ es false (oy cx cy L a) 28 ar L (a1 L a 2)).length 0 (IJ es false (oy cx cy L a) 28 ar L (a1 L a 2)).length,
   [QP (addN' 28 ar nl) (IJ es false (oy cx cy L a) 28 ar L (a1 L a 2)),Ic (addF' 28 ar (f1 f L a 2) L (a1 L a 2)) L (Vt 28 ar L (a1 L a 2))])) .no)
 |_,_=>none
theorem agS:Hx.Dd Try.prog 75:=(DH rZ (r7 (n:=0) (l:=0) (nl:=false) (es:=[]) (cx:=0) (cy:=0) (ar:=0) (f:=false) (L:=[]) (a:=0) (by rfl))).1
theorem agT(args:List PV)(H:List Row)(d:DT (PV×List Row))(q:PV)(H':List Row)(h:we args H=some d)(hd:d.run=some (q,H')):Fa Try.prog 0 75 args H q H':=by
 unfold we at h;split at h
 ·rename_i n l cx cy ar es nl f L a;cases h;obtain⟨hc,he⟩:=FU hd;cases he;exact(DH rZ (r7 hc)).2
 ·cases h
def MA4:CY:=((M10.E7 71 ox).E7 75 we)
theorem abH:CG Try.prog MA4.env:=(zP.E7 abE abF).E7 agS agT
abbrev arv(o0 o1 o2 o3 o4 o5:Int):PV:=.agg [iv o0,iv o1,iv o2,iv o3,iv o4,iv o5]
theorem abI(o0 o1 o2 o3 o4 o5 w h i j:Int):DD Try.prog M7 60 74 [arv o0 o1 o2 o3 o4 o5,iv w,iv h,iv i,iv j] =
 bif decide (i<0) then some (iv 0) else bif cond false true (decide (j<0)) then some (iv 0) else bif cond false true (decide (i ≥ w)) then some (iv 0) else bif cond false true (decide (j ≥ h)) then some (iv 0) else
  bif decide (i=2) then bif decide (j=1) then some (iv o5) else bif decide (j=0) then some (iv o4) else none else
  bif decide (i=1) then bif decide (j=1) then some (iv o3) else bif decide (j=0) then some (iv o2) else none else
  bif decide (i=0) then bif decide (j=1) then some (iv o1) else bif decide (j=0) then some (iv o0) else none else none:=by kernel_rfl
def Vv(o0 o1 o2 o3 o4 o5 w h i j:Int):Int:=bif decide (i<0) then 0 else bif decide (j<0) then 0 else bif decide (i ≥ w) then 0 else bif decide (j ≥ h) then 0 else
 bif decide (i=2) then bif decide (j=1) then o5 else o4 else bif decide (i=1) then bif decide (j=1) then o3 else o2 else bif decide (j=1) then o1 else o0
def kc:List PV->Option (DT PV)
 | [.agg [.val (.int .i64 o0),.val (.int .i64 o1),.val (.int .i64 o2),.val (.int .i64 o3),.val (.int .i64 o4),.val (.int .i64 o5)],.val (.int .i64 w),.val (.int .i64 h),.val (.int .i64 i),.val (.int .i64 j)]=>
  some (.br (decide (w<=3)&&decide (h<=2)) (.leaf (iv (Vv o0 o1 o2 o3 o4 o5 w h i j))) .no)
 |_=>none
theorem kd(o0 o1 o2 o3 o4 o5 w h i j:Int)(hw:w<=3)(hh:h<=2):DD Try.prog M7 60 74 [arv o0 o1 o2 o3 o4 o5,iv w,iv h,iv i,iv j]=some (iv (Vv o0 o1 o2 o3 o4 o5 w h i j)):=by
 rw[abI];unfold Vv;by_cases c1:i<0
 ·rw[Ac c1];rfl
 rw[Ai c1];by_cases c2:j<0
 ·rw[Ac c2];rfl
 rw[Ai c2];by_cases c3:i ≥ w
 ·rw[Ac c3];rfl
 rw[Ai c3];by_cases c4:j ≥ h
 ·rw[Ac c4];rfl
 rw[Ai c4];have hi:i=0\/i=1\/i=2:=by omega
 have hj:j=0\/j=1:=by omega
 rcases hi with rfl |rfl |rfl <;> rcases hj with rfl |rfl <;> rfl
theorem abJ:Hx.Dd Try.prog 74:=(Cy IP (n:=60) (kd 0 0 0 0 0 0 0 0 0 0 (by omega) (by omega))).1
theorem abK(args:List PV)(d:DT PV)(r:PV)(h:kc args=some d)(hr:d.run=some r):Dr Try.prog 74 args r:=by
 unfold kc at h;split at h
 ·rename_i o0 o1 o2 o3 o4 o5 w h' i j;cases h;obtain⟨h1,rfl⟩:=DN hr;simp only[Aa,Ab]at h1;exact(Cy IP (n:=60) (kd o0 o1 o2 o3 o4 o5 w h' i j h1.1 h1.2)).2
 ·cases h
def MA5:CY:=MA4.DE 74 kc
theorem abM:CG Try.prog MA5.env:=abH.DE abJ abK
def MB1:CY:=((((((MA5.Ee 53 33).Ee 53 40).FX 73).FX 74).FX 72).FX 71)
theorem abO:CG Try.prog MB1.env:=((((((abM.Ee 53 33).Ee 53 40).FX 73).FX 74).FX 72).FX 71)
abbrev EV:=List PV×Bool×Int×Bool
def Up(N:List PV)(x0 y0 x1 y1 lf rt:Int)(s:EV):EV:=
 (IJ s.1 false (dX x0 y0 x1 y1 N s.2.2.1) lf rt N (a1 N s.2.2.1 (L8 N s.2.2.1+1)),addF' lf rt (f1 s.2.1 N s.2.2.1 (L8 N s.2.2.1+1)) N (a1 N s.2.2.1 (L8 N s.2.2.1+1)),Vt lf rt N (a1 N s.2.2.1 (L8 N s.2.2.1+1)),addN' lf rt s.2.2.2)
abbrev oA(t:List (Tmp×X1)):S1:=⟨208,[(5,.C9 3),(7,.ptr 0 1 0 0),(8,Dk),(9,Dk),(10,.ptr 1 1 0 0),(13,.ptr 2 1 0 0),(14,.sl 3)]++t,
 [.one 103 2 (.agg [.C9 3,Dk]),.one 128 6 (.agg [Dk,Dk,Dk,Dk,Dk,Dk]),.one 103 2 (.agg [.C9 3,Dk]),.many 147 4]⟩
def Qi:S1:=oA [(15,Dk),(16,Dk)]
def Qj:S1:=oA [(17,Dk),(18,Dk)]
abbrev e8(m:Bool)(M:List PV)(w h:Int)(n l:Nat)(j i:Int)(f:Bool)(L:List PV)(a o0 o1 o2 o3 o4 o5:Int)(g:Bool)(N:List PV)(c:Int)(nl:Bool)(es:List PV):LS:=([.l m M,.i w,.i h,.n n,.n l,.i j,.i i],[.l f L,.i a,.i o0,.i o1,.i o2,.i o3,.i o4,.i o5,.l g N,.i c,.l nl es])
abbrev e9(o0 o1 o2 o3 o4 o5:Int):Row:=r1 128 6 (arv o0 o1 o2 o3 o4 o5)
abbrev x7:Row:={ es:=[],s:=0,t:=0,bv:=true,live:=false }
def tlE(sh:S1)(m:Bool)(M:List PV)(w h:Int)(n l:Nat)(j i:Int)(f:Bool)(L:List PV)(a o0 o1 o2 o3 o4 o5:Int)(g:Bool)(N:List PV)(c:Int)(nl:Bool)(es:List PV)(x0 y0 x1 y1 lf rt:Int):Option (PX×List PV×List Row):=
 bif decide (0<=c)&&decide (c<=1000000000) then bif GQ [Ic f L a,e9 o0 o1 o2 o3 o4 o5,x7,QP nl es] [Ic f L a,e9 o0 o1 o2 o3 o4 o5,x7,QP nl es] then
 bif decide (w<=3)&&decide (h<=2) then bif decide (w<=3)&&decide (h<=2) then bif es.length==n then
 bif Vu n l es (dX x0 y0 x1 y1 N c) (a1 N c (L8 N c+1)) then bif GQ [Ic f L a,e9 o0 o1 o2 o3 o4 o5,x7,x7] [Ic f L a,e9 o0 o1 o2 o3 o4 o5,x7,x7] then
  some (.normal,sh.put (e8 m M w h (Up N x0 y0 x1 y1 lf rt (es,g,c,nl)).1.length (Up N x0 y0 x1 y1 lf rt (es,g,c,nl)).1.length j (W (i+1)) f L a o0 o1 o2 o3 o4 o5 (Up N x0 y0 x1 y1 lf rt (es,g,c,nl)).2.1 N (Up N x0 y0 x1 y1 lf rt (es,g,c,nl)).2.2.1 (Up N x0 y0 x1 y1 lf rt (es,g,c,nl)).2.2.2 (Up N x0 y0 x1 y1 lf rt (es,g,c,nl)).1))
 else none else none else none else none else none else none else none
theorem q31(m:Bool)(M:List PV)(w h:Int)(n l:Nat)(j i:Int)(f:Bool)(L:List PV)(a o0 o1 o2 o3 o4 o5:Int)(g:Bool)(N:List PV)(c:Int)(nl:Bool)(es:List PV):
 Db Try.prog MB1 60 53 (Dg Try.f53 31) [5,7,8,9,10,13,14,15,16] [5,7,8,9,10,13,14,15] (Qi.put (e8 m M w h n l j i f L a o0 o1 o2 o3 o4 o5 g N c nl es)).1 (Qi.put (e8 m M w h n l j i f L a o0 o1 o2 o3 o4 o5 g N c nl es)).2 =
 bif decide (i<w) then bif LZ i j then bif LZ (W (i+1)) j then
  tlE Qi m M w h n l j i f L a o0 o1 o2 o3 o4 o5 g N c nl es (T7 M i j) (T8 M i j) (T7 M (W (i+1)) j) (T8 M (W (i+1)) j) (Vv o0 o1 o2 o3 o4 o5 w h i j) (Vv o0 o1 o2 o3 o4 o5 w h i (W (j-1)))
 else none else none
 else some (.exit 6,tm 208 [(5,.C9 m 3 M),(7,.ptr 0 1 0 0),(8,iv w),(9,iv h),(10,.ptr 1 1 0 0),(13,.ptr 2 1 0 0),(14,.sl 3 n 0 l),(15,iv j)],[Ic f L a,e9 o0 o1 o2 o3 o4 o5,Ic g N c,QP nl es]):=by kernel_rfl
theorem XW(x0 y0 x1 y1:Int)(N:List PV)(c:Int):(dX x0 y0 x1 y1 N c).length=L8 N c+2:=by
 show(([F0 x0 y0]++nt x0 y0 (W (x1-x0)) (W (y1-y0)) (dI N c 4) N (L8 N c) 1 (aI N c))++[F0 x1 y1]:List PV).length=_
 rw[Ap,Ap,U3];simp only[As,AB];omega
theorem ZP(N:List PV)(c:Int):L8 N c<=3:=by
 have h3:=I4 N c (n:=4) (by omega);have h4:=IF N c (n:=4) (by omega);show(dI N c 4+1-1).toNat<=3;omega
theorem Vw(N:List PV)(x0 y0 x1 y1 lf rt:Int)(s:EV):s.1.length<=(Up N x0 y0 x1 y1 lf rt s).1.length/\(Up N x0 y0 x1 y1 lf rt s).1.length<=s.1.length+1/\s.2.2.1<=(Up N x0 y0 x1 y1 lf rt s).2.2.1/\(Up N x0 y0 x1 y1 lf rt s).2.2.1<=s.2.2.1+5:=by
 have h1:=ZP N s.2.2.1;have h2:=Hu N s.2.2.1 (L8 N s.2.2.1+1);have h3:=F7 N (a1 N s.2.2.1 (L8 N s.2.2.1+1));unfold Up IJ Vt;cases lf==rt with
 |true=>simp only[Aj];omega
 |false=>simp only[Ar,Ap,As,AB];omega
theorem kh(sh:S1)(m:Bool)(M:List PV)(w h:Int)(j i:Int)(f:Bool)(L:List PV)(a o0 o1 o2 o3 o4 o5:Int)(g:Bool)(N:List PV)(c:Int)(nl:Bool)(es:List PV)(x0 y0 x1 y1 lf rt:Int)(hw:w<=3)(hh:h<=2)(hc:0<=c)(hc2:c<=100000)(he:es.length<=1000)(hi:0<=i)(hi2:i<=100):
 tlE sh m M w h es.length es.length j i f L a o0 o1 o2 o3 o4 o5 g N c nl es x0 y0 x1 y1 lf rt =
  some (.normal,sh.put (e8 m M w h (Up N x0 y0 x1 y1 lf rt (es,g,c,nl)).1.length (Up N x0 y0 x1 y1 lf rt (es,g,c,nl)).1.length j (i+1) f L a o0 o1 o2 o3 o4 o5 (Up N x0 y0 x1 y1 lf rt (es,g,c,nl)).2.1 N (Up N x0 y0 x1 y1 lf rt (es,g,c,nl)).2.2.1 (Up N x0 y0 x1 y1 lf rt (es,g,c,nl)).2.2.2 (Up N x0 y0 x1 y1 lf rt (es,g,c,nl)).1)):=by
 have h1:=ZP N c;have h2:=Hu N c (L8 N c+1);have hok:Vu es.length es.length es (dX x0 y0 x1 y1 N c) (a1 N c (L8 N c+1))=true:=by
  unfold Vu E3;rw[XW];simp only[Aa,Ab];exact⟨⟨⟨⟨trivial,trivial⟩,he⟩,by omega⟩,⟨⟨by omega,by omega⟩,by omega⟩,by omega⟩
 unfold tlE;rw[Ac hc,Ac (show c<=1000000000 by omega),EM,EM,Ac hw,Ac hh,AS,hok,Dx (n:=i+1) (by omega) (by omega)];rfl
def hoS(M N:List PV)(o0 o1 o2 o3 o4 o5 w h j i:Int)(s:EV):EV:=Up N (T7 M i j) (T8 M i j) (T7 M (i+1) j) (T8 M (i+1) j) (Vv o0 o1 o2 o3 o4 o5 w h i j) (Vv o0 o1 o2 o3 o4 o5 w h i (j-1)) s
def XX(M N:List PV)(o0 o1 o2 o3 o4 o5 w h j:Int):Nat->Int->EV->EV
 |0,_,s=>s
 |m+1,i,s=>XX M N o0 o1 o2 o3 o4 o5 w h j m (i+1) (hoS M N o0 o1 o2 o3 o4 o5 w h j i s)
theorem ZQ(M N:List PV)(o0 o1 o2 o3 o4 o5 w h j:Int):∀(m:Nat) (i:Int) (s:EV),s.1.length<=(XX M N o0 o1 o2 o3 o4 o5 w h j m i s).1.length/\(XX M N o0 o1 o2 o3 o4 o5 w h j m i s).1.length<=s.1.length+m/\s.2.2.1<=(XX M N o0 o1 o2 o3 o4 o5 w h j m i s).2.2.1/\(XX M N o0 o1 o2 o3 o4 o5 w h j m i s).2.2.1<=s.2.2.1+5*m
 |0,_,s=>by simp[XX]
 |m+1,i,s=>by
  obtain⟨a1,a2,a3,a4⟩:=Vw N (T7 M i j) (T8 M i j) (T7 M (i+1) j) (T8 M (i+1) j) (Vv o0 o1 o2 o3 o4 o5 w h i j) (Vv o0 o1 o2 o3 o4 o5 w h i (j-1)) s;obtain⟨b1,b2,b3,b4⟩:=ZQ M N o0 o1 o2 o3 o4 o5 w h j m (i+1) (hoS M N o0 o1 o2 o3 o4 o5 w h j i s);simp only[XX];unfold hoS at *;refine⟨by omega,by omega,by omega,?_⟩;have:((m+1:Nat):Int)=(m:Int)+1:=by simp
  omega
abbrev x31(m:Bool)(M:List PV)(w h j:Int)(f:Bool)(L:List PV)(a o0 o1 o2 o3 o4 o5:Int)(N:List PV)(s:EV):PX×List PV×List Row:=
 (.exit 6,tm 208 [(5,.C9 m 3 M),(7,.ptr 0 1 0 0),(8,iv w),(9,iv h),(10,.ptr 1 1 0 0),(13,.ptr 2 1 0 0),(14,.sl 3 s.1.length 0 s.1.length),(15,iv j)],[Ic f L a,e9 o0 o1 o2 o3 o4 o5,Ic s.2.1 N s.2.2.1,QP s.2.2.2 s.1])
def r8:LS->Bool
 |([.l _ _,.i w,.i h,.n n,.n l,.i j,.i i],[.l _ _,.i _,.i _,.i _,.i _,.i _,.i _,.i _,.l _ _,.i c,.l _ es])=>decide (n=es.length)&&decide (l=es.length)&&decide (0<=i)&&decide (i<=w)&&decide (w<=3)&&decide (h<=2)&&decide (0<=j)&&decide (j<=3)&&decide ((es.length:Int)<=0+4*j+i)&&decide (0<=c)&&decide (c<=0+20*j+5*i)
 |_=>false
def f31:LS->DT (PX×List PV×List Row)
 |([.l m M,.i w,.i h,.n _,.n _,.i j,.i i],[.l f L,.i a,.i o0,.i o1,.i o2,.i o3,.i o4,.i o5,.l g N,.i c,.l nl es])=>.leaf (x31 m M w h j f L a o0 o1 o2 o3 o4 o5 N (XX M N o0 o1 o2 o3 o4 o5 w h j (w-i).toNat i (es,g,c,nl)))
 |_=>.no
def m31:LS->Nat
 |([.l _ _,.i w,.i _,.n _,.n _,.i _,.i i],_)=>(w-i).toNat
 |_=>0
theorem s31:∀ s r,r8 s=true->(f31 s).run=some r->r.1≠.normal/\(Db Try.prog MB1 60 53 (Dg Try.f53 31) [5,7,8,9,10,13,14,15,16] [5,7,8,9,10,13,14,15] (Qi.put s).1 (Qi.put s).2=some r \/
   ∃ s',Db Try.prog MB1 60 53 (Dg Try.f53 31) [5,7,8,9,10,13,14,15,16] [5,7,8,9,10,13,14,15] (Qi.put s).1 (Qi.put s).2=some (.normal,Qi.put s')/\r8 s'=true/\m31 s'<m31 s/\(f31 s').run=some r):=by
 intro t r hp hr;unfold r8 at hp;split at hp
 ·rename_i m M w h n l j i f L a o0 o1 o2 o3 o4 o5 g N c nl es;simp only[Aa,Ab]at hp;obtain⟨⟨⟨⟨⟨⟨⟨⟨⟨⟨rfl,rfl⟩,h2⟩,h3⟩,h4⟩,h5⟩,h6⟩,h7⟩,h8⟩,h9⟩,h10⟩:=hp;have hr':=(Ah hr).symm;refine⟨by rw[hr'];simp,?_⟩;rw[show Qi.put ([.l m M,.i w,.i h,.n es.length,.n es.length,.i j,.i i],[.l f L,.i a,.i o0,.i o1,.i o2,.i o3,.i o4,.i o5,.l g N,.i c,.l nl es])=Qi.put (e8 m M w h es.length es.length j i f L a o0 o1 o2 o3 o4 o5 g N c nl es) from rfl,q31];by_cases hi:i<w
  ·obtain⟨k,hk⟩:∃ k,(w-i).toNat=k+1:=⟨(w-i).toNat-1,by omega⟩;have hk2:(w-(i+1)).toNat=k:=by omega
   have hwi:W (i+1)=i+1:=Dx (by omega) (by omega);have hwi2:W (i-1)=i-1:=Dx (by omega) (by omega);have hwj:W (j-1)=j-1:=Dx (by omega) (by omega);have hwj2:W (j+1)=j+1:=Dx (by omega) (by omega);rw[Ac hi,hwi,hwj,show LZ i j=true by unfold LZ;simp;omega,show LZ (i+1) j=true by unfold LZ;simp;omega];simp only[Aj];rw[kh (hw:=h4) (hh:=h5) (hc:=h9) (hc2:=by omega) (he:=by omega) (hi:=h2) (hi2:=by omega)];rw[hk]at hr';obtain⟨b1,b2,b3,b4⟩:=Vw N (T7 M i j) (T8 M i j) (T7 M (i+1) j) (T8 M (i+1) j) (Vv o0 o1 o2 o3 o4 o5 w h i j) (Vv o0 o1 o2 o3 o4 o5 w h i (j-1)) (es,g,c,nl);refine .inr ⟨_,rfl,?_,by simp only[m31];omega,?_⟩
   ·simp only[r8,Aa,Ab];simp only at b1 b2 b3 b4;exact⟨⟨⟨⟨⟨⟨⟨⟨⟨⟨trivial,trivial⟩,by omega⟩,by omega⟩,h4⟩,h5⟩,h6⟩,h7⟩,by omega⟩,by omega⟩,by omega⟩
   ·rw[hr'];simp only[f31,hk2,DT.run];rfl
  ·rw[Ai hi];refine .inl ?_;rw[hr',show(w-i).toNat=0 by omega];rfl
 ·cases hp
def MB2:CY:=MB1.Dl 53 31 [5,7,8,9,10,13,14,15,16] [true,true,true,false] Qi r8 f31
theorem abQ:CG Try.prog MB2.env:=
 abO.Dl (n:=60) Try.func53 (show Try.f53.body=some (DY Try.f53) by kernel_rfl) (show(loops (DY Try.f53)).filter (fun b=>Ew b==31)=[Dg Try.f53 31] by kernel_rfl) [5,7,8,9,10,13,14,15,16] [5,7,8,9,10,13,14,15] [true,true,true,false] Qi m31 s31
theorem q38(m:Bool)(M:List PV)(w h:Int)(n l:Nat)(j i:Int)(f:Bool)(L:List PV)(a o0 o1 o2 o3 o4 o5:Int)(g:Bool)(N:List PV)(c:Int)(nl:Bool)(es:List PV):
 Db Try.prog MB2 60 53 (Dg Try.f53 38) [5,7,8,9,10,13,14,17,18] [5,7,8,9,10,13,14,17] (Qj.put (e8 m M w h n l j i f L a o0 o1 o2 o3 o4 o5 g N c nl es)).1 (Qj.put (e8 m M w h n l j i f L a o0 o1 o2 o3 o4 o5 g N c nl es)).2 =
 bif decide (i<=w) then bif LZ i j then bif LZ i (W (j+1)) then
  tlE Qj m M w h n l j i f L a o0 o1 o2 o3 o4 o5 g N c nl es (T7 M i j) (T8 M i j) (T7 M i (W (j+1))) (T8 M i (W (j+1))) (Vv o0 o1 o2 o3 o4 o5 w h (W (i-1)) j) (Vv o0 o1 o2 o3 o4 o5 w h i j)
 else none else none
 else some (.exit 10,tm 208 [(5,.C9 m 3 M),(7,.ptr 0 1 0 0),(8,iv w),(9,iv h),(10,.ptr 1 1 0 0),(13,.ptr 2 1 0 0),(14,.sl 3 n 0 l),(17,iv j)],[Ic f L a,e9 o0 o1 o2 o3 o4 o5,Ic g N c,QP nl es]):=by kernel_rfl
def veS(M N:List PV)(o0 o1 o2 o3 o4 o5 w h j i:Int)(s:EV):EV:=Up N (T7 M i j) (T8 M i j) (T7 M i (j+1)) (T8 M i (j+1)) (Vv o0 o1 o2 o3 o4 o5 w h (i-1) j) (Vv o0 o1 o2 o3 o4 o5 w h i j) s
def XY(M N:List PV)(o0 o1 o2 o3 o4 o5 w h j:Int):Nat->Int->EV->EV
 |0,_,s=>s
 |m+1,i,s=>XY M N o0 o1 o2 o3 o4 o5 w h j m (i+1) (veS M N o0 o1 o2 o3 o4 o5 w h j i s)
theorem ZR(M N:List PV)(o0 o1 o2 o3 o4 o5 w h j:Int):∀(m:Nat) (i:Int) (s:EV),s.1.length<=(XY M N o0 o1 o2 o3 o4 o5 w h j m i s).1.length/\(XY M N o0 o1 o2 o3 o4 o5 w h j m i s).1.length<=s.1.length+m/\s.2.2.1<=(XY M N o0 o1 o2 o3 o4 o5 w h j m i s).2.2.1/\(XY M N o0 o1 o2 o3 o4 o5 w h j m i s).2.2.1<=s.2.2.1+5*m
 |0,_,s=>by simp[XY]
 |m+1,i,s=>by
  obtain⟨a1,a2,a3,a4⟩:=Vw N (T7 M i j) (T8 M i j) (T7 M i (j+1)) (T8 M i (j+1)) (Vv o0 o1 o2 o3 o4 o5 w h (i-1) j) (Vv o0 o1 o2 o3 o4 o5 w h i j) s;obtain⟨b1,b2,b3,b4⟩:=ZR M N o0 o1 o2 o3 o4 o5 w h j m (i+1) (veS M N o0 o1 o2 o3 o4 o5 w h j i s);simp only[XY];unfold veS at *;refine⟨by omega,by omega,by omega,?_⟩;have:((m+1:Nat):Int)=(m:Int)+1:=by simp
  omega
abbrev x38(m:Bool)(M:List PV)(w h j:Int)(f:Bool)(L:List PV)(a o0 o1 o2 o3 o4 o5:Int)(N:List PV)(s:EV):PX×List PV×List Row:=
 (.exit 10,tm 208 [(5,.C9 m 3 M),(7,.ptr 0 1 0 0),(8,iv w),(9,iv h),(10,.ptr 1 1 0 0),(13,.ptr 2 1 0 0),(14,.sl 3 s.1.length 0 s.1.length),(17,iv j)],[Ic f L a,e9 o0 o1 o2 o3 o4 o5,Ic s.2.1 N s.2.2.1,QP s.2.2.2 s.1])
def r9:LS->Bool
 |([.l _ _,.i w,.i h,.n n,.n l,.i j,.i i],[.l _ _,.i _,.i _,.i _,.i _,.i _,.i _,.i _,.l _ _,.i c,.l _ es])=>decide (n=es.length)&&decide (l=es.length)&&decide (0<=i)&&decide (i<=(w+1))&&decide (w<=3)&&decide (h<=2)&&decide (0<=j)&&decide (j<=3)&&decide ((es.length:Int)<=16+4*j+i)&&decide (0<=c)&&decide (c<=100+20*j+5*i)
 |_=>false
def f38:LS->DT (PX×List PV×List Row)
 |([.l m M,.i w,.i h,.n _,.n _,.i j,.i i],[.l f L,.i a,.i o0,.i o1,.i o2,.i o3,.i o4,.i o5,.l g N,.i c,.l nl es])=>.leaf (x38 m M w h j f L a o0 o1 o2 o3 o4 o5 N (XY M N o0 o1 o2 o3 o4 o5 w h j ((w+1)-i).toNat i (es,g,c,nl)))
 |_=>.no
def m38:LS->Nat
 |([.l _ _,.i w,.i _,.n _,.n _,.i _,.i i],_)=>((w+1)-i).toNat
 |_=>0
theorem s38:∀ s r,r9 s=true->(f38 s).run=some r->r.1≠.normal/\(Db Try.prog MB2 60 53 (Dg Try.f53 38) [5,7,8,9,10,13,14,17,18] [5,7,8,9,10,13,14,17] (Qj.put s).1 (Qj.put s).2=some r \/
   ∃ s',Db Try.prog MB2 60 53 (Dg Try.f53 38) [5,7,8,9,10,13,14,17,18] [5,7,8,9,10,13,14,17] (Qj.put s).1 (Qj.put s).2=some (.normal,Qj.put s')/\r9 s'=true/\m38 s'<m38 s/\(f38 s').run=some r):=by
 intro t r hp hr;unfold r9 at hp;split at hp
 ·rename_i m M w h n l j i f L a o0 o1 o2 o3 o4 o5 g N c nl es;simp only[Aa,Ab]at hp;obtain⟨⟨⟨⟨⟨⟨⟨⟨⟨⟨rfl,rfl⟩,h2⟩,h3⟩,h4⟩,h5⟩,h6⟩,h7⟩,h8⟩,h9⟩,h10⟩:=hp;have hr':=(Ah hr).symm;refine⟨by rw[hr'];simp,?_⟩;rw[show Qj.put ([.l m M,.i w,.i h,.n es.length,.n es.length,.i j,.i i],[.l f L,.i a,.i o0,.i o1,.i o2,.i o3,.i o4,.i o5,.l g N,.i c,.l nl es])=Qj.put (e8 m M w h es.length es.length j i f L a o0 o1 o2 o3 o4 o5 g N c nl es) from rfl,q38];by_cases hi:i<=w
  ·obtain⟨k,hk⟩:∃ k,((w+1)-i).toNat=k+1:=⟨((w+1)-i).toNat-1,by omega⟩;have hk2:((w+1)-(i+1)).toNat=k:=by omega
   have hwi:W (i+1)=i+1:=Dx (by omega) (by omega);have hwi2:W (i-1)=i-1:=Dx (by omega) (by omega);have hwj:W (j-1)=j-1:=Dx (by omega) (by omega);have hwj2:W (j+1)=j+1:=Dx (by omega) (by omega);rw[Ac hi,hwi2,hwj2,show LZ i j=true by unfold LZ;simp;omega,show LZ i (j+1)=true by unfold LZ;simp;omega];simp only[Aj];rw[kh (hw:=h4) (hh:=h5) (hc:=h9) (hc2:=by omega) (he:=by omega) (hi:=h2) (hi2:=by omega)];rw[hk]at hr';obtain⟨b1,b2,b3,b4⟩:=Vw N (T7 M i j) (T8 M i j) (T7 M i (j+1)) (T8 M i (j+1)) (Vv o0 o1 o2 o3 o4 o5 w h (i-1) j) (Vv o0 o1 o2 o3 o4 o5 w h i j) (es,g,c,nl);refine .inr ⟨_,rfl,?_,by simp only[m38];omega,?_⟩
   ·simp only[r9,Aa,Ab];simp only at b1 b2 b3 b4;exact⟨⟨⟨⟨⟨⟨⟨⟨⟨⟨trivial,trivial⟩,by omega⟩,by omega⟩,h4⟩,h5⟩,h6⟩,h7⟩,by omega⟩,by omega⟩,by omega⟩
   ·rw[hr'];simp only[f38,hk2,DT.run];rfl
  ·rw[Ai hi];refine .inl ?_;rw[hr',show((w+1)-i).toNat=0 by omega];rfl
 ·cases hp
def MB3:CY:=MB2.Dl 53 38 [5,7,8,9,10,13,14,17,18] [true,true,true,false] Qj r9 f38
theorem abR:CG Try.prog MB3.env:=
 abQ.Dl (n:=60) Try.func53 (show Try.f53.body=some (DY Try.f53) by kernel_rfl) (show(loops (DY Try.f53)).filter (fun b=>Ew b==38)=[Dg Try.f53 38] by kernel_rfl) [5,7,8,9,10,13,14,17,18] [5,7,8,9,10,13,14,17] [true,true,true,false] Qj m38 s38
abbrev oB(m:Bool)(M:List PV)(w h:Int)(n l:Nat)(j:Int)(f:Bool)(L:List PV)(a o0 o1 o2 o3 o4 o5:Int)(g:Bool)(N:List PV)(c:Int)(nl:Bool)(es:List PV):LS:=([.l m M,.i w,.i h,.n n,.n l,.i j],[.l f L,.i a,.i o0,.i o1,.i o2,.i o3,.i o4,.i o5,.l g N,.i c,.l nl es])
def Qk:S1:=oA [(15,Dk)]
def Ql:S1:=oA [(17,Dk)]
def MB4:CY:=MB3.F4 53 28 [(5,3,0),(14,147,4)]
theorem abT:CG Try.prog MB4.env:=abR.F4 53 28 [(5,3,0),(14,147,4)]
abbrev x28(m:Bool)(M:List PV)(w h:Int)(f:Bool)(L:List PV)(a o0 o1 o2 o3 o4 o5:Int)(N:List PV)(s:EV):PX×List PV×List Row:=
 (.exit 4,tm 208 [(5,.C9 m 3 M),(7,.ptr 0 1 0 0),(8,iv w),(9,iv h),(10,.ptr 1 1 0 0),(13,.ptr 2 1 0 0),(14,.sl 3 s.1.length 0 s.1.length)],[Ic f L a,e9 o0 o1 o2 o3 o4 o5,Ic s.2.1 N s.2.2.1,QP s.2.2.2 s.1])
theorem q28(m:Bool)(M:List PV)(w h:Int)(es:List PV)(j:Int)(f:Bool)(L:List PV)(a o0 o1 o2 o3 o4 o5:Int)(g:Bool)(N:List PV)(c:Int)(nl:Bool):
 Db Try.prog MB4 60 53 (Dg Try.f53 28) [5,7,8,9,10,13,14,15] [5,7,8,9,10,13,14] (Qk.put (oB m M w h es.length es.length j f L a o0 o1 o2 o3 o4 o5 g N c nl es)).1 (Qk.put (oB m M w h es.length es.length j f L a o0 o1 o2 o3 o4 o5 g N c nl es)).2 =
 bif decide (j<=h) then bif r8 (e8 m M w h es.length es.length j 0 f L a o0 o1 o2 o3 o4 o5 g N c nl es) then
  some (.normal,Qk.put (oB m M w h (XX M N o0 o1 o2 o3 o4 o5 w h j (w-0).toNat 0 (es,g,c,nl)).1.length (XX M N o0 o1 o2 o3 o4 o5 w h j (w-0).toNat 0 (es,g,c,nl)).1.length (W (j+1)) f L a o0 o1 o2 o3 o4 o5 (XX M N o0 o1 o2 o3 o4 o5 w h j (w-0).toNat 0 (es,g,c,nl)).2.1 N (XX M N o0 o1 o2 o3 o4 o5 w h j (w-0).toNat 0 (es,g,c,nl)).2.2.1 (XX M N o0 o1 o2 o3 o4 o5 w h j (w-0).toNat 0 (es,g,c,nl)).2.2.2 (XX M N o0 o1 o2 o3 o4 o5 w h j (w-0).toNat 0 (es,g,c,nl)).1)) else none
 else some (x28 m M w h f L a o0 o1 o2 o3 o4 o5 N (es,g,c,nl)):=by kernel_rfl
def Tm(M N:List PV)(o0 o1 o2 o3 o4 o5 w h:Int):Nat->Int->EV->EV
 |0,_,s=>s
 |m+1,j,s=>Tm M N o0 o1 o2 o3 o4 o5 w h m (j+1) (XX M N o0 o1 o2 o3 o4 o5 w h j (w-0).toNat 0 s)
theorem ZS(M N:List PV)(o0 o1 o2 o3 o4 o5 w h:Int)(hw:w<=3):∀(m:Nat) (j:Int) (s:EV),s.1.length<=(Tm M N o0 o1 o2 o3 o4 o5 w h m j s).1.length/\(Tm M N o0 o1 o2 o3 o4 o5 w h m j s).1.length<=s.1.length+4*m/\s.2.2.1<=(Tm M N o0 o1 o2 o3 o4 o5 w h m j s).2.2.1/\(Tm M N o0 o1 o2 o3 o4 o5 w h m j s).2.2.1<=s.2.2.1+20*m
 |0,_,s=>by simp[Tm]
 |m+1,j,s=>by
  obtain⟨a1,a2,a3,a4⟩:=ZQ M N o0 o1 o2 o3 o4 o5 w h j (w-0).toNat 0 s;obtain⟨b1,b2,b3,b4⟩:=ZS M N o0 o1 o2 o3 o4 o5 w h hw m (j+1) (XX M N o0 o1 o2 o3 o4 o5 w h j (w-0).toNat 0 s);simp only[Tm];refine⟨by omega,by omega,by omega,?_⟩;have:((m+1:Nat):Int)=(m:Int)+1:=by simp
  omega
def sa:LS->Bool
 |([.l _ _,.i w,.i h,.n n,.n l,.i j],[.l _ _,.i _,.i _,.i _,.i _,.i _,.i _,.i _,.l _ _,.i c,.l _ es])=>decide (n=es.length)&&decide (l=es.length)&&decide (0<=w)&&decide (w<=3)&&decide (0<=h)&&decide (h<=2)&&decide (0<=j)&&decide (j<=(h+1))&&decide ((es.length:Int)<=0+4*j)&&decide (0<=c)&&decide (c<=0+20*j)
 |_=>false
def f28:LS->DT (PX×List PV×List Row)
 |([.l m M,.i w,.i h,.n _,.n _,.i j],[.l f L,.i a,.i o0,.i o1,.i o2,.i o3,.i o4,.i o5,.l g N,.i c,.l nl es])=>.leaf (x28 m M w h f L a o0 o1 o2 o3 o4 o5 N (Tm M N o0 o1 o2 o3 o4 o5 w h ((h+1)-j).toNat j (es,g,c,nl)))
 |_=>.no
def m28:LS->Nat
 |([.l _ _,.i _,.i h,.n _,.n _,.i j],_)=>((h+1)-j).toNat
 |_=>0
theorem s28:∀ s r,sa s=true->(f28 s).run=some r->r.1≠.normal/\(Db Try.prog MB4 60 53 (Dg Try.f53 28) [5,7,8,9,10,13,14,15] [5,7,8,9,10,13,14] (Qk.put s).1 (Qk.put s).2=some r \/
   ∃ s',Db Try.prog MB4 60 53 (Dg Try.f53 28) [5,7,8,9,10,13,14,15] [5,7,8,9,10,13,14] (Qk.put s).1 (Qk.put s).2=some (.normal,Qk.put s')/\sa s'=true/\m28 s'<m28 s/\(f28 s').run=some r):=by
 intro t r hp hr;unfold sa at hp;split at hp
 ·rename_i m M w h n l j f L a o0 o1 o2 o3 o4 o5 g N c nl es;simp only[Aa,Ab]at hp;obtain⟨⟨⟨⟨⟨⟨⟨⟨⟨⟨rfl,rfl⟩,h2⟩,h3⟩,h4⟩,h5⟩,h6⟩,h7⟩,h8⟩,h9⟩,h10⟩:=hp;have hr':=(Ah hr).symm;refine⟨by rw[hr'];simp,?_⟩;rw[show Qk.put ([.l m M,.i w,.i h,.n es.length,.n es.length,.i j],[.l f L,.i a,.i o0,.i o1,.i o2,.i o3,.i o4,.i o5,.l g N,.i c,.l nl es])=Qk.put (oB m M w h es.length es.length j f L a o0 o1 o2 o3 o4 o5 g N c nl es) from rfl,q28];by_cases hi:j<=h
  ·obtain⟨k,hk⟩:∃ k,((h+1)-j).toNat=k+1:=⟨((h+1)-j).toNat-1,by omega⟩;have hk2:((h+1)-(j+1)).toNat=k:=by omega
   have hp2:r8 (e8 m M w h es.length es.length j 0 f L a o0 o1 o2 o3 o4 o5 g N c nl es)=true:=by
    simp only[r8,Aa,Ab];exact⟨⟨⟨⟨⟨⟨⟨⟨⟨⟨trivial,trivial⟩,by omega⟩,by omega⟩,h3⟩,h5⟩,h6⟩,by omega⟩,by omega⟩,h9⟩,by omega⟩
   rw[Ac hi,hp2,Dx (n:=j+1) (by omega) (by omega)];simp only[Aj];rw[hk]at hr';obtain⟨b1,b2,b3,b4⟩:=ZQ M N o0 o1 o2 o3 o4 o5 w h j (w-0).toNat 0 (es,g,c,nl);refine .inr ⟨_,rfl,?_,by simp only[m28];omega,?_⟩
   ·simp only[sa,Aa,Ab];simp only at b1 b2 b3 b4;exact⟨⟨⟨⟨⟨⟨⟨⟨⟨⟨trivial,trivial⟩,h2⟩,h3⟩,h4⟩,h5⟩,by omega⟩,by omega⟩,by omega⟩,by omega⟩,by omega⟩
   ·rw[hr'];simp only[f28,hk2,DT.run];rfl
  ·rw[Ai hi];refine .inl ?_;rw[hr',show((h+1)-j).toNat=0 by omega];rfl
 ·cases hp
def MB5:CY:=MB4.Dl 53 28 [5,7,8,9,10,13,14,15] [true,true,true,false] Qk sa f28
theorem abV:CG Try.prog MB5.env:=
 abT.Dl (n:=60) Try.func53 (show Try.f53.body=some (DY Try.f53) by kernel_rfl) (show(loops (DY Try.f53)).filter (fun b=>Ew b==28)=[Dg Try.f53 28] by kernel_rfl) [5,7,8,9,10,13,14,15] [5,7,8,9,10,13,14] [true,true,true,false] Qk m28 s28
abbrev x35(m:Bool)(M:List PV)(w h:Int)(f:Bool)(L:List PV)(a o0 o1 o2 o3 o4 o5:Int)(N:List PV)(s:EV):PX×List PV×List Row:=
 (.exit 8,tm 208 [(5,.C9 m 3 M),(7,.ptr 0 1 0 0),(8,iv w),(9,iv h),(10,.ptr 1 1 0 0),(13,.ptr 2 1 0 0),(14,.sl 3 s.1.length 0 s.1.length)],[Ic f L a,e9 o0 o1 o2 o3 o4 o5,Ic s.2.1 N s.2.2.1,QP s.2.2.2 s.1])
theorem q35(m:Bool)(M:List PV)(w h:Int)(es:List PV)(j:Int)(f:Bool)(L:List PV)(a o0 o1 o2 o3 o4 o5:Int)(g:Bool)(N:List PV)(c:Int)(nl:Bool):
 Db Try.prog MB5 60 53 (Dg Try.f53 35) [5,7,8,9,10,13,14,17] [5,7,8,9,10,13,14] (Ql.put (oB m M w h es.length es.length j f L a o0 o1 o2 o3 o4 o5 g N c nl es)).1 (Ql.put (oB m M w h es.length es.length j f L a o0 o1 o2 o3 o4 o5 g N c nl es)).2 =
 bif decide (j<h) then bif r9 (e8 m M w h es.length es.length j 0 f L a o0 o1 o2 o3 o4 o5 g N c nl es) then
  some (.normal,Ql.put (oB m M w h (XY M N o0 o1 o2 o3 o4 o5 w h j ((w+1)-0).toNat 0 (es,g,c,nl)).1.length (XY M N o0 o1 o2 o3 o4 o5 w h j ((w+1)-0).toNat 0 (es,g,c,nl)).1.length (W (j+1)) f L a o0 o1 o2 o3 o4 o5 (XY M N o0 o1 o2 o3 o4 o5 w h j ((w+1)-0).toNat 0 (es,g,c,nl)).2.1 N (XY M N o0 o1 o2 o3 o4 o5 w h j ((w+1)-0).toNat 0 (es,g,c,nl)).2.2.1 (XY M N o0 o1 o2 o3 o4 o5 w h j ((w+1)-0).toNat 0 (es,g,c,nl)).2.2.2 (XY M N o0 o1 o2 o3 o4 o5 w h j ((w+1)-0).toNat 0 (es,g,c,nl)).1)) else none
 else some (x35 m M w h f L a o0 o1 o2 o3 o4 o5 N (es,g,c,nl)):=by kernel_rfl
def lD(M N:List PV)(o0 o1 o2 o3 o4 o5 w h:Int):Nat->Int->EV->EV
 |0,_,s=>s
 |m+1,j,s=>lD M N o0 o1 o2 o3 o4 o5 w h m (j+1) (XY M N o0 o1 o2 o3 o4 o5 w h j ((w+1)-0).toNat 0 s)
theorem ki(M N:List PV)(o0 o1 o2 o3 o4 o5 w h:Int)(hw:w<=3):∀(m:Nat) (j:Int) (s:EV),s.1.length<=(lD M N o0 o1 o2 o3 o4 o5 w h m j s).1.length/\(lD M N o0 o1 o2 o3 o4 o5 w h m j s).1.length<=s.1.length+4*m/\s.2.2.1<=(lD M N o0 o1 o2 o3 o4 o5 w h m j s).2.2.1/\(lD M N o0 o1 o2 o3 o4 o5 w h m j s).2.2.1<=s.2.2.1+20*m
 |0,_,s=>by simp[lD]
 |m+1,j,s=>by
  obtain⟨a1,a2,a3,a4⟩:=ZR M N o0 o1 o2 o3 o4 o5 w h j ((w+1)-0).toNat 0 s;obtain⟨b1,b2,b3,b4⟩:=ki M N o0 o1 o2 o3 o4 o5 w h hw m (j+1) (XY M N o0 o1 o2 o3 o4 o5 w h j ((w+1)-0).toNat 0 s);simp only[lD];refine⟨by omega,by omega,by omega,?_⟩;have:((m+1:Nat):Int)=(m:Int)+1:=by simp
  omega
def sb:LS->Bool
 |([.l _ _,.i w,.i h,.n n,.n l,.i j],[.l _ _,.i _,.i _,.i _,.i _,.i _,.i _,.i _,.l _ _,.i c,.l _ es])=>decide (n=es.length)&&decide (l=es.length)&&decide (0<=w)&&decide (w<=3)&&decide (0<=h)&&decide (h<=2)&&decide (0<=j)&&decide (j<=h)&&decide ((es.length:Int)<=16+4*j)&&decide (0<=c)&&decide (c<=100+20*j)
 |_=>false
def f35:LS->DT (PX×List PV×List Row)
 |([.l m M,.i w,.i h,.n _,.n _,.i j],[.l f L,.i a,.i o0,.i o1,.i o2,.i o3,.i o4,.i o5,.l g N,.i c,.l nl es])=>.leaf (x35 m M w h f L a o0 o1 o2 o3 o4 o5 N (lD M N o0 o1 o2 o3 o4 o5 w h (h-j).toNat j (es,g,c,nl)))
 |_=>.no
def m35:LS->Nat
 |([.l _ _,.i _,.i h,.n _,.n _,.i j],_)=>(h-j).toNat
 |_=>0
theorem s35:∀ s r,sb s=true->(f35 s).run=some r->r.1≠.normal/\(Db Try.prog MB5 60 53 (Dg Try.f53 35) [5,7,8,9,10,13,14,17] [5,7,8,9,10,13,14] (Ql.put s).1 (Ql.put s).2=some r \/
   ∃ s',Db Try.prog MB5 60 53 (Dg Try.f53 35) [5,7,8,9,10,13,14,17] [5,7,8,9,10,13,14] (Ql.put s).1 (Ql.put s).2=some (.normal,Ql.put s')/\sb s'=true/\m35 s'<m35 s/\(f35 s').run=some r):=by
 intro t r hp hr;unfold sb at hp;split at hp
 ·rename_i m M w h n l j f L a o0 o1 o2 o3 o4 o5 g N c nl es;simp only[Aa,Ab]at hp;obtain⟨⟨⟨⟨⟨⟨⟨⟨⟨⟨rfl,rfl⟩,h2⟩,h3⟩,h4⟩,h5⟩,h6⟩,h7⟩,h8⟩,h9⟩,h10⟩:=hp;have hr':=(Ah hr).symm;refine⟨by rw[hr'];simp,?_⟩;rw[show Ql.put ([.l m M,.i w,.i h,.n es.length,.n es.length,.i j],[.l f L,.i a,.i o0,.i o1,.i o2,.i o3,.i o4,.i o5,.l g N,.i c,.l nl es])=Ql.put (oB m M w h es.length es.length j f L a o0 o1 o2 o3 o4 o5 g N c nl es) from rfl,q35];by_cases hi:j<h
  ·obtain⟨k,hk⟩:∃ k,(h-j).toNat=k+1:=⟨(h-j).toNat-1,by omega⟩;have hk2:(h-(j+1)).toNat=k:=by omega
   have hp2:r9 (e8 m M w h es.length es.length j 0 f L a o0 o1 o2 o3 o4 o5 g N c nl es)=true:=by
    simp only[r9,Aa,Ab];exact⟨⟨⟨⟨⟨⟨⟨⟨⟨⟨trivial,trivial⟩,by omega⟩,by omega⟩,h3⟩,h5⟩,h6⟩,by omega⟩,by omega⟩,h9⟩,by omega⟩
   rw[Ac hi,hp2,Dx (n:=j+1) (by omega) (by omega)];simp only[Aj];rw[hk]at hr';obtain⟨b1,b2,b3,b4⟩:=ZR M N o0 o1 o2 o3 o4 o5 w h j ((w+1)-0).toNat 0 (es,g,c,nl);refine .inr ⟨_,rfl,?_,by simp only[m35];omega,?_⟩
   ·simp only[sb,Aa,Ab];simp only at b1 b2 b3 b4;exact⟨⟨⟨⟨⟨⟨⟨⟨⟨⟨trivial,trivial⟩,h2⟩,h3⟩,h4⟩,h5⟩,by omega⟩,by omega⟩,by omega⟩,by omega⟩,by omega⟩
   ·rw[hr'];simp only[f35,hk2,DT.run];rfl
  ·rw[Ai hi];refine .inl ?_;rw[hr',show(h-j).toNat=0 by omega];rfl
 ·cases hp
def MB6:CY:=MB5.Dl 53 35 [5,7,8,9,10,13,14,17] [true,true,true,false] Ql sb f35
theorem abW:CG Try.prog MB6.env:=
 abV.Dl (n:=60) Try.func53 (show Try.f53.body=some (DY Try.f53) by kernel_rfl) (show(loops (DY Try.f53)).filter (fun b=>Ew b==35)=[Dg Try.f53 35] by kernel_rfl) [5,7,8,9,10,13,14,17] [5,7,8,9,10,13,14] [true,true,true,false] Ql m35 s35
def eC:CY:=MB6.F4 53 15 [(5,3,0),(6,3,0)]
theorem abX:CG Try.prog eC.env:=abW.F4 53 15 [(5,3,0),(6,3,0)]
def Ha:S1:=⟨208,[(5,.C9 3),(6,.C9 3),(7,.ptr 0 1 0 0),(8,Dk),(9,Dk),(10,.ptr 1 1 0 0),(11,Dk)],[.one 103 2 (.agg [.C9 3,Dk]),.one 128 6 (.agg [Dk,Dk,Dk,Dk,Dk,Dk])]⟩
abbrev Yi(m:Bool)(M:List PV)(g:Bool)(N:List PV)(w h i:Int)(f:Bool)(L:List PV)(a o0 o1 o2 o3 o4 o5:Int):LS:=([.l m M,.l g N,.i w,.i h,.i i],[.l f L,.i a,.i o0,.i o1,.i o2,.i o3,.i o4,.i o5])
abbrev se(m:Bool)(M:List PV)(g:Bool)(N:List PV)(w h:Int)(f:Bool)(L:List PV)(a o0 o1 o2 o3 o4 o5:Int):PX×List PV×List Row:=
 (.exit 0,tm 208 [(5,.C9 m 3 M),(6,.C9 g 3 N),(7,.ptr 0 1 0 0),(8,iv w),(9,iv h),(10,.ptr 1 1 0 0)],[Ic f L a,e9 o0 o1 o2 o3 o4 o5])
abbrev PW(w i j:Int):Int:=W (W (21+i)+W (w*j))
abbrev oD(m:Bool)(M:List PV)(g:Bool)(N:List PV)(w h i:Int)(f:Bool)(L:List PV)(a o0 o1 o2 o3 o4 o5:Int):Option (PX×List PV×List Row):=some (.normal,Ha.put (Yi m M g N w h i f L a o0 o1 o2 o3 o4 o5))
abbrev c0(L:List PV)(a:Int):Bool:=cond true (dI L a 5==0) false
theorem agY(m:Bool)(M:List PV)(g:Bool)(N:List PV)(w:Int)(f:Bool)(L:List PV)(a o0 o1 o2 o3 o4 o5:Int):Db Try.prog eC 60 53 (Dg Try.f53 15) [5,6,7,8,9,10,11] [5,6,7,8,9,10] (Ha.put (Yi m M g N w 1 0 f L a o0 o1 o2 o3 o4 o5)).1 (Ha.put (Yi m M g N w 1 0 f L a o0 o1 o2 o3 o4 o5)).2 =
 bif decide (0<w) then oD m M g N w 1 1 f L a (PW w 0 0) o1 o2 o3 o4 o5 else some (se m M g N w 1 f L a o0 o1 o2 o3 o4 o5):=by kernel_rfl
theorem abY(m:Bool)(M:List PV)(g:Bool)(N:List PV)(w:Int)(f:Bool)(L:List PV)(a o0 o1 o2 o3 o4 o5:Int):Db Try.prog eC 60 53 (Dg Try.f53 15) [5,6,7,8,9,10,11] [5,6,7,8,9,10] (Ha.put (Yi m M g N w 1 1 f L a o0 o1 o2 o3 o4 o5)).1 (Ha.put (Yi m M g N w 1 1 f L a o0 o1 o2 o3 o4 o5)).2 =
 bif decide (1<w) then bif E3 a 5 then bif c0 L a then oD m M g N w 1 2 (fI f L a) L (aI L a) o0 o1 o0 o3 o4 o5 else oD m M g N w 1 2 (fI f L a) L (aI L a) o0 o1 (PW w 1 0) o3 o4 o5 else none else some (se m M g N w 1 f L a o0 o1 o2 o3 o4 o5):=by kernel_rfl
theorem abZ(m:Bool)(M:List PV)(g:Bool)(N:List PV)(w:Int)(f:Bool)(L:List PV)(a o0 o1 o2 o3 o4 o5:Int):Db Try.prog eC 60 53 (Dg Try.f53 15) [5,6,7,8,9,10,11] [5,6,7,8,9,10] (Ha.put (Yi m M g N w 1 2 f L a o0 o1 o2 o3 o4 o5)).1 (Ha.put (Yi m M g N w 1 2 f L a o0 o1 o2 o3 o4 o5)).2 =
 bif decide (2<w) then bif E3 a 5 then bif c0 L a then oD m M g N w 1 3 (fI f L a) L (aI L a) o0 o1 o2 o3 o2 o5 else oD m M g N w 1 3 (fI f L a) L (aI L a) o0 o1 o2 o3 (PW w 2 0) o5 else none else some (se m M g N w 1 f L a o0 o1 o2 o3 o4 o5):=by kernel_rfl
theorem agZ(m:Bool)(M:List PV)(g:Bool)(N:List PV)(f:Bool)(L:List PV)(a o0 o1 o2 o3 o4 o5:Int):Db Try.prog eC 60 53 (Dg Try.f53 15) [5,6,7,8,9,10,11] [5,6,7,8,9,10] (Ha.put (Yi m M g N 3 1 3 f L a o0 o1 o2 o3 o4 o5)).1 (Ha.put (Yi m M g N 3 1 3 f L a o0 o1 o2 o3 o4 o5)).2 =
 some (se m M g N 3 1 f L a o0 o1 o2 o3 o4 o5):=by kernel_rfl
theorem ag0(m:Bool)(M:List PV)(g:Bool)(N:List PV)(f:Bool)(L:List PV)(a o0 o1 o2 o3 o4 o5:Int):Db Try.prog eC 60 53 (Dg Try.f53 15) [5,6,7,8,9,10,11] [5,6,7,8,9,10] (Ha.put (Yi m M g N 2 2 2 f L a o0 o1 o2 o3 o4 o5)).1 (Ha.put (Yi m M g N 2 2 2 f L a o0 o1 o2 o3 o4 o5)).2 =
 some (se m M g N 2 2 f L a o0 o1 o2 o3 o4 o5):=by kernel_rfl
theorem ag1(m:Bool)(M:List PV)(g:Bool)(N:List PV)(w:Int)(f:Bool)(L:List PV)(a o0 o1 o2 o3 o4 o5:Int):Db Try.prog eC 60 53 (Dg Try.f53 15) [5,6,7,8,9,10,11] [5,6,7,8,9,10] (Ha.put (Yi m M g N w 2 0 f L a o0 o1 o2 o3 o4 o5)).1 (Ha.put (Yi m M g N w 2 0 f L a o0 o1 o2 o3 o4 o5)).2 =
 bif decide (0<w) then bif E3 a 5 then bif c0 L a then oD m M g N w 2 1 (fI f L a) L (aI L a) (PW w 0 0) (PW w 0 0) o2 o3 o4 o5 else oD m M g N w 2 1 (fI f L a) L (aI L a) (PW w 0 0) (PW w 0 1) o2 o3 o4 o5 else none else some (se m M g N w 2 f L a o0 o1 o2 o3 o4 o5):=by kernel_rfl
def wg(m:Bool)(M:List PV)(g:Bool)(N:List PV)(w:Int)(f:Bool)(L:List PV)(a o0 o1 o4 o5:Int)(p q:Int):Option (PX×List PV×List Row):=
 bif E3 a 5 then bif c0 L a then oD m M g N w 2 2 (fI f L a) L (aI L a) o0 o1 p p o4 o5 else oD m M g N w 2 2 (fI f L a) L (aI L a) o0 o1 p q o4 o5 else none
def wh(m:Bool)(M:List PV)(g:Bool)(N:List PV)(w:Int)(f:Bool)(L:List PV)(a o0 o1 o4 o5:Int)(p:Int):Option (PX×List PV×List Row):=
 bif E3 a 5 then bif c0 L a then wg m M g N w (fI f L a) L (aI L a) o0 o1 o4 o5 p o1 else wg m M g N w (fI f L a) L (aI L a) o0 o1 o4 o5 p (PW w 1 1) else none
theorem ab0(m:Bool)(M:List PV)(g:Bool)(N:List PV)(w:Int)(f:Bool)(L:List PV)(a o0 o1 o2 o3 o4 o5:Int):Db Try.prog eC 60 53 (Dg Try.f53 15) [5,6,7,8,9,10,11] [5,6,7,8,9,10] (Ha.put (Yi m M g N w 2 1 f L a o0 o1 o2 o3 o4 o5)).1 (Ha.put (Yi m M g N w 2 1 f L a o0 o1 o2 o3 o4 o5)).2 =
 bif decide (1<w) then bif E3 a 5 then bif c0 L a then wh m M g N w (fI f L a) L (aI L a) o0 o1 o4 o5 o0 else wh m M g N w (fI f L a) L (aI L a) o0 o1 o4 o5 (PW w 1 0) else none else some (se m M g N w 2 f L a o0 o1 o2 o3 o4 o5):=by kernel_rfl
abbrev OS:=Bool×Int×Int×Int×Int×Int×Int×Int
def kj(w h i:Int)(L:List PV):OS->OS
 |(f,a,o0,o1,o2,o3,o4,o5)=>
  bif decide (h=1) then
   bif decide (i=0) then (f,a,PW w 0 0,o1,o2,o3,o4,o5) else
   bif decide (i=1) then (fI f L a,aI L a,o0,o1,bif c0 L a then o0 else PW w 1 0,o3,o4,o5) else
   (fI f L a,aI L a,o0,o1,o2,o3,bif c0 L a then o2 else PW w 2 0,o5)
  else
   bif decide (i=0) then (fI f L a,aI L a,PW w 0 0,bif c0 L a then PW w 0 0 else PW w 0 1,o2,o3,o4,o5) else
   (f1 f L a 3,a1 L a 3,o0,o1,bif c0 L a then o0 else PW w 1 0,bif c0 L (a1 L a 2) then (bif c0 L a then o0 else PW w 1 0) else (bif c0 L (a1 L a 1) then o1 else PW w 1 1),o4,o5)
def sg(w h:Int)(L:List PV):Nat->Int->OS->OS
 |0,_,s=>s
 |m+1,i,s=>sg w h L m (i+1) (kj w h i L s)
theorem si(w h i:Int)(L:List PV)(s:OS):s.2.1<=(kj w h i L s).2.1/\(kj w h i L s).2.1<=s.2.1+3:=by
 obtain⟨f,a,o0,o1,o2,o3,o4,o5⟩:=s;have h1:=F7 L a;have h3:=Hu L a 3;unfold kj;cases decide (h=1) <;> cases decide (i=0) <;> cases decide (i=1) <;> simp only[Aj,Ar] <;> omega
theorem sj(w h:Int)(L:List PV):∀(m:Nat) (i:Int) (s:OS),s.2.1<=(sg w h L m i s).2.1/\(sg w h L m i s).2.1<=s.2.1+3*m
 |0,_,s=>by simp[sg]
 |m+1,i,s=>by
  have h1:=si w h i L s;have h2:=sj w h L m (i+1) (kj w h i L s);simp only[sg];have:((m+1:Nat):Int)=(m:Int)+1:=by simp
  omega
abbrev lO(m:Bool)(M:List PV)(g:Bool)(N:List PV)(w h i:Int)(L:List PV)(s:OS):LS:=Yi m M g N w h i s.1 L s.2.1 s.2.2.1 s.2.2.2.1 s.2.2.2.2.1 s.2.2.2.2.2.1 s.2.2.2.2.2.2.1 s.2.2.2.2.2.2.2
abbrev xO(m:Bool)(M:List PV)(g:Bool)(N:List PV)(w h:Int)(L:List PV)(s:OS):PX×List PV×List Row:=se m M g N w h s.1 L s.2.1 s.2.2.1 s.2.2.2.1 s.2.2.2.2.1 s.2.2.2.2.2.1 s.2.2.2.2.2.2.1 s.2.2.2.2.2.2.2
def sk(w h:Int):Bool:=decide (1<=w)&&(decide (h=1)&&decide (w<=3)||decide (h=2)&&decide (w<=2))
def sn:LS->Bool
 |([.l _ _,.l _ _,.i w,.i h,.i i],[.l _ _,.i a,.i _,.i _,.i _,.i _,.i _,.i _])=>sk w h&&decide (0<=i)&&decide (i<=w)&&decide (0<=a)&&decide (a<=1000000+3*i)
 |_=>false
def f15:LS->DT (PX×List PV×List Row)
 |([.l m M,.l g N,.i w,.i h,.i i],[.l f L,.i a,.i o0,.i o1,.i o2,.i o3,.i o4,.i o5])=>.leaf (xO m M g N w h L (sg w h L (w-i).toNat i (f,a,o0,o1,o2,o3,o4,o5)))
 |_=>.no
def m15:LS->Nat
 |([.l _ _,.l _ _,.i w,.i _,.i i],_)=>(w-i).toNat
 |_=>0
theorem r15(m:Bool)(M:List PV)(g:Bool)(N:List PV)(w h i:Int)(L:List PV)(s:OS)(hok:sk w h=true)(h0:0<=i)(h1:i<w)(ha:0<=s.2.1)(ha2:s.2.1<=2000000):
 Db Try.prog eC 60 53 (Dg Try.f53 15) [5,6,7,8,9,10,11] [5,6,7,8,9,10] (Ha.put (lO m M g N w h i L s)).1 (Ha.put (lO m M g N w h i L s)).2=some (.normal,Ha.put (lO m M g N w h (i+1) L (kj w h i L s))):=by
 obtain⟨f,a,o0,o1,o2,o3,o4,o5⟩:=s;simp only at ha ha2;have ok:∀ k:Nat,k<=3->E3 (a1 L a k) 5=true:=fun k hk=>by
  have:=Hu L a k;unfold E3;simp;omega
 have yM:E3 a 5=true:=ok 0 (by omega);have ok1:E3 (aI L a) 5=true:=ok 1 (by omega);have ok2:E3 (aI L (aI L a)) 5=true:=ok 2 (by omega);unfold sk at hok;simp only[Aa,A2,Ab]at hok;obtain⟨hw,⟨rfl,hh⟩ |⟨rfl,hh⟩⟩:=hok
 ·have hi:i=0\/i=1\/i=2:=by omega
  rcases hi with rfl |rfl |rfl
  ·refine(agY m M g N w f L a o0 o1 o2 o3 o4 o5).trans ?_;rw[Ac h1];rfl
  ·refine(abY m M g N w f L a o0 o1 o2 o3 o4 o5).trans ?_;rw[Ac h1,yM];rw[show kj w 1 1 L (f,a,o0,o1,o2,o3,o4,o5)=(fI f L a,aI L a,o0,o1,bif c0 L a then o0 else PW w 1 0,o3,o4,o5) from rfl];cases c0 L a <;> rfl
  ·refine(abZ m M g N w f L a o0 o1 o2 o3 o4 o5).trans ?_;rw[Ac h1,yM];rw[show kj w 1 2 L (f,a,o0,o1,o2,o3,o4,o5)=(fI f L a,aI L a,o0,o1,o2,o3,bif c0 L a then o2 else PW w 2 0,o5) from rfl];cases c0 L a <;> rfl
 ·have hi:i=0\/i=1:=by omega
  rcases hi with rfl |rfl
  ·refine(ag1 m M g N w f L a o0 o1 o2 o3 o4 o5).trans ?_;rw[Ac h1,yM];rw[show kj w 2 0 L (f,a,o0,o1,o2,o3,o4,o5)=(fI f L a,aI L a,PW w 0 0,bif c0 L a then PW w 0 0 else PW w 0 1,o2,o3,o4,o5) from rfl];cases c0 L a <;> rfl
  ·refine(ab0 m M g N w f L a o0 o1 o2 o3 o4 o5).trans ?_;unfold wh wg;rw[Ac h1,yM,ok1,ok2];rw[show kj w 2 1 L (f,a,o0,o1,o2,o3,o4,o5)=(f1 f L a 3,a1 L a 3,o0,o1,bif c0 L a then o0 else PW w 1 0,bif c0 L (aI L (aI L a)) then (bif c0 L a then o0 else PW w 1 0) else (bif c0 L (aI L a) then o1 else PW w 1 1),o4,o5) from rfl];cases c0 L a <;> cases c0 L (aI L a) <;> cases c0 L (aI L (aI L a)) <;> rfl
theorem e15(m:Bool)(M:List PV)(g:Bool)(N:List PV)(w h:Int)(L:List PV)(s:OS)(hok:sk w h=true):
 Db Try.prog eC 60 53 (Dg Try.f53 15) [5,6,7,8,9,10,11] [5,6,7,8,9,10] (Ha.put (lO m M g N w h w L s)).1 (Ha.put (lO m M g N w h w L s)).2=some (xO m M g N w h L s):=by
 obtain⟨f,a,o0,o1,o2,o3,o4,o5⟩:=s;unfold sk at hok;simp only[Aa,A2,Ab]at hok;obtain⟨hw,⟨rfl,hh⟩ |⟨rfl,hh⟩⟩:=hok
 ·have hi:w=1\/w=2\/w=3:=by omega
  rcases hi with rfl |rfl |rfl
  ·exact(abY m M g N 1 f L a o0 o1 o2 o3 o4 o5).trans (by rw[Ai (by omega)];rfl)
  ·exact(abZ m M g N 2 f L a o0 o1 o2 o3 o4 o5).trans (by rw[Ai (by omega)];rfl)
  ·exact agZ m M g N f L a o0 o1 o2 o3 o4 o5
 ·have hi:w=1\/w=2:=by omega
  rcases hi with rfl |rfl
  ·exact(ab0 m M g N 1 f L a o0 o1 o2 o3 o4 o5).trans (by rw[Ai (by omega)];rfl)
  ·exact ag0 m M g N f L a o0 o1 o2 o3 o4 o5
theorem s15:∀ s r,sn s=true->(f15 s).run=some r->r.1≠.normal/\(Db Try.prog eC 60 53 (Dg Try.f53 15) [5,6,7,8,9,10,11] [5,6,7,8,9,10] (Ha.put s).1 (Ha.put s).2=some r \/
   ∃ s',Db Try.prog eC 60 53 (Dg Try.f53 15) [5,6,7,8,9,10,11] [5,6,7,8,9,10] (Ha.put s).1 (Ha.put s).2=some (.normal,Ha.put s')/\sn s'=true/\m15 s'<m15 s/\(f15 s').run=some r):=by
 intro t r hp hr;unfold sn at hp;split at hp
 ·rename_i m M g N w h i f L a o0 o1 o2 o3 o4 o5;simp only[Aa,Ab]at hp;obtain⟨⟨⟨⟨h1,h2⟩,h3⟩,h4⟩,h5⟩:=hp;have hr':=(Ah hr).symm;refine⟨by rw[hr'];simp,?_⟩;have cj:w<=3:=by
   unfold sk at h1;simp only[Aa,A2,Ab]at h1;omega
  by_cases hi:i<w
  ·obtain⟨k,hk⟩:∃ k,(w-i).toNat=k+1:=⟨(w-i).toNat-1,by omega⟩;have hk2:(w-(i+1)).toNat=k:=by omega
   have ha:=si w h i L (f,a,o0,o1,o2,o3,o4,o5);simp only at ha;refine .inr ⟨lO m M g N w h (i+1) L (kj w h i L (f,a,o0,o1,o2,o3,o4,o5)),r15 m M g N w h i L (f,a,o0,o1,o2,o3,o4,o5) h1 h2 hi h4 (by simp only;omega),?_,by simp only[m15];omega,?_⟩
   ·simp only[sn,Aa,Ab];exact⟨⟨⟨⟨h1,by omega⟩,by omega⟩,by omega⟩,by omega⟩
   ·rw[hr',hk];simp only[f15,hk2,DT.run,sg]
  ·have:i=w:=by omega
   subst this;rw[show(i-i).toNat=0 by omega]at hr';exact .inl (by rw[hr'];exact e15 m M g N i h L (f,a,o0,o1,o2,o3,o4,o5) h1)
 ·cases hp
def MO2:CY:=eC.Kw Try.prog [true,false] 53 15 [5,6,7,8,9,10,11] [true,true] Ha sn f15
theorem ab2:CG Try.prog MO2.env:=
 abX.Kw (n:=60) Try.func53 (show Try.f53.body=some (DY Try.f53) by kernel_rfl) (show(loops (DY Try.f53)).filter (fun b=>Ew b==15)=[Dg Try.f53 15] by kernel_rfl) [true,false] [5,6,7,8,9,10,11] [5,6,7,8,9,10] [true,true] Ha m15 s15
def Qm:S1:=⟨48,[(0,.C9 3),(1,Dk),(5,Dk)],[]⟩
abbrev wj(f:Bool)(l:List PV)(n a:Int):LS:=([.l f l,.i n,.i a],[])
abbrev xPu(f:Bool)(l:List PV)(n a:Int):PX×List PV×List Row:=(.exit 0,tm 48 [(0,.C9 f 3 l),(1,iv n),(5,iv a)],[])
theorem qPu(f:Bool)(l:List PV)(n a:Int):Db Try.prog M7 60 86 (Dg Try.f86 2) [0,1,5] [0,1,5] (Qm.put (wj f l n a)).1 (Qm.put (wj f l n a)).2 =
 bif decide (a > 0) then bif F8 l (W (a-1)) then bif cond true (decide (nI l (W (a-1)) ≥ n)) false then some (.normal,Qm.put (wj f l n (W (a-1)))) else some (xPu f l n a) else none else some (xPu f l n a):=by kernel_rfl
def Yj(l:List PV)(n:Int):Nat->Nat
 |0=>0
 |m+1=>bif decide (((l.getD m .any).cellAt 0).DL ≥ n) then Yj l n m else m+1
theorem ZT(l:List PV)(n:Int):∀ m,Yj l n m<=m
 |0=>Al _
 |m+1=>by
  have:=ZT l n m;unfold Yj;cases decide (((l.getD m .any).cellAt 0).DL ≥ n) <;> simp only[Aj,Ar] <;> omega
def sq:LS->Bool
 |([.l _ l,.i _,.i a],[])=>decide (0<=a)&&decide (a<=(l.length:Int))&&decide (l.length<=10000)
 |_=>false
def fPu:LS->DT (PX×List PV×List Row)
 |([.l f l,.i n,.i a],[])=>.leaf (xPu f l n (Yj l n a.toNat:Nat))
 |_=>.no
def mPu:LS->Nat
 |([.l _ _,.i _,.i a],_)=>a.toNat
 |_=>0
theorem sPu:∀ s r,sq s=true->(fPu s).run=some r->r.1≠.normal/\(Db Try.prog M7 60 86 (Dg Try.f86 2) [0,1,5] [0,1,5] (Qm.put s).1 (Qm.put s).2=some r \/
   ∃ s',Db Try.prog M7 60 86 (Dg Try.f86 2) [0,1,5] [0,1,5] (Qm.put s).1 (Qm.put s).2=some (.normal,Qm.put s')/\sq s'=true/\mPu s'<mPu s/\(fPu s').run=some r):=by
 intro t r hp hr;unfold sq at hp;split at hp
 ·rename_i f l n a;simp only[Aa,Ab]at hp;obtain⟨⟨h1,h2⟩,h3⟩:=hp;have hr':=(Ah hr).symm;refine⟨by rw[hr'];simp,?_⟩;rw[show Qm.put ([.l f l,.i n,.i a],[])=Qm.put (wj f l n a) from rfl,qPu];by_cases hi:a > 0
  ·obtain⟨k,hk⟩:∃ k,a.toNat=k+1:=⟨a.toNat-1,by omega⟩;have hk2:(a-1).toNat=k:=by omega
   rw[Ac hi,Dx (n:=a-1) (by omega) (by omega),DW (by omega) (by omega)];simp only[Aj];rw[hk]at hr';simp only[Yj]at hr';rw[show nI l (a-1)=((l.getD k .any).cellAt 0).DL by unfold nI;rw[hk2]];cases hb:decide (((l.getD k .any).cellAt 0).DL ≥ n) with
   |true=>
    rw[hb,Aj]at hr';refine .inr ⟨wj f l n (a-1),rfl,by simp only[sq,Aa,Ab];omega,by simp only[mPu];omega,?_⟩;rw[hr'];simp only[fPu,hk2,DT.run]
   |false=>
    rw[hb,Ar]at hr';refine .inl ?_;rw[hr'];have:((k+1:Nat):Int)=a:=by omega
    rw[this];rfl
  ·rw[Ai hi];refine .inl ?_;have ha:a=0:=by omega
   subst ha;rw[hr'];rfl
 ·cases hp
def MP1:CY:=M7.Dl 86 2 [0,1,5] [] Qm sq fPu
theorem sr:CG Try.prog MP1.env:=
 IP.Dl (n:=60) Try.func86 (show Try.f86.body=some (DY Try.f86) by kernel_rfl) (show(loops (DY Try.f86)).filter (fun b=>Ew b==2)=[Dg Try.f86 2] by kernel_rfl) [0,1,5] [0,1,5] [] Qm mPu sPu
abbrev Yk(l:List PV)(A:Int):List PV:=(l.take A.toNat).drop 0
abbrev x8(l:List PV)(A:Int):List PV:=(l.take ((none:Option Int).getD (l.length:Int)).toNat).drop A.toNat
def puK(l:List PV)(n A:Int):Option PV:=
 bif decide (0<=A)&&decide (A<=(l.length:Int)) then bif true&&decide ((0+(Yk l A).length)*8<=140737488355328) then
 bif true&&decide (([]++Yk l A).length=0+(Yk l A).length)&&decide (0+(Yk l A).length=0+(Yk l A).length)&&decide ((0+(Yk l A).length+1)*8<=140737488355328) then
 bif (decide (0<=A)&&decide (A<=(none:Option Int).getD (l.length:Int)))&&decide ((none:Option Int).getD (l.length:Int)<=(l.length:Int)) then
 bif true&&decide ((([]++Yk l A)++[iv n]).length=0+(Yk l A).length+1)&&decide (0+(Yk l A).length+1=0+(Yk l A).length+1)&&decide ((0+(Yk l A).length+1+(x8 l A).length)*8<=140737488355328) then
  HM ((([]++Yk l A)++[iv n])++x8 l A) (0+(Yk l A).length+1+(x8 l A).length) (some (.C9 false 3 ((((([]++Yk l A)++[iv n])++x8 l A).drop 0).take (0+(Yk l A).length+1+(x8 l A).length))))
 else none else none else none else none else none
theorem ag4(f:Bool)(l:List PV)(n:Int):DD Try.prog MP1 60 86 [.C9 f 3 l,iv n] =
 bif sq (wj f l n (l.length:Int)) then
  bif decide ((Yj l n (l.length:Int).toNat:Int)<(l.length:Int)) then bif F8 l (Yj l n (l.length:Int).toNat:Int) then bif cond true (nI l (Yj l n (l.length:Int).toNat:Int)==n) false then some (.C9 f 3 l) else puK l n (Yj l n (l.length:Int).toNat:Int) else none
  else puK l n (Yj l n (l.length:Int).toNat:Int) else none:=by kernel_rfl
def lE(l:List PV)(n:Int):Bool:=bif decide ((Yj l n l.length:Int)<(l.length:Int)) then nI l (Yj l n l.length:Int)==n else false
def kl(l:List PV)(n:Int):List PV:=bif lE l n then l else l.take (Yj l n l.length)++iv n::l.drop (Yj l n l.length)
theorem km{l:List PV}{n:Int}{a:Nat}(h:a<=l.length)(hl:l.length<=1000):puK l n (a:Int)=some (.C9 false 3 (l.take a++iv n::l.drop a)):=by
 have e1:Yk l (a:Int)=l.take a:=by show(l.take ((a:Nat):Int).toNat).drop 0=_;simp
 have e2:x8 l (a:Int)=l.drop a:=by show(l.take ((l.length:Nat):Int).toNat).drop ((a:Nat):Int).toNat=_;simp
 have e3:(none:Option Int).getD (l.length:Int)=(l.length:Int):=rfl;unfold puK HM;rw[e1,e2,e3];have l1:(l.take a).length=a:=by rw[Az];omega
 have l2:(l.drop a).length=l.length-a:=by rw[B7]
 simp only[A9,Ap,As,AB,AF,l1,l2,BY,AM,CT,Bq,AS,Aj];have c1:(decide ((0:Int)<=(a:Int))&&decide ((a:Int)<=(l.length:Int)))=true:=by simp;omega
 rw[c1,Ac (show a*8<=140737488355328 by omega),Ac (show(a+1)*8<=140737488355328 by omega),Ac (show(a+1+(l.length-a))*8<=140737488355328 by omega),Ac (show(l.length:Int)<=(l.length:Int) by omega)];simp only[Aj,Bq];rw[A7 (by simp;omega)];simp
theorem su(f:Bool)(l:List PV)(n:Int)(hl:l.length<=1000):DD Try.prog MP1 60 86 [.C9 f 3 l,iv n]=some (.C9 (lE l n&&f) 3 (kl l n)):=by
 have hp:sq (wj f l n (l.length:Int))=true:=by
  simp only[sq,Aa,Ab];omega
 have ha:=ZT l n l.length;rw[ag4,hp,show(l.length:Int).toNat=l.length by simp];simp only[Aj];unfold kl lE;by_cases h:(Yj l n l.length:Int)<(l.length:Int)
 ·rw[Ac h,DW (by omega) (by omega)];simp only[Aj];cases nI l (Yj l n l.length:Int)==n
  ·exact km ha hl
  ·rfl
 ·rw[Ai h];exact km ha hl
def wk:List PV->Option (DT PV)
 | [.C9 f 3 l,.val (.int .i64 n)]=>some (.br (decide (l.length<=1000)) (.leaf (.C9 (lE l n&&f) 3 (kl l n))) .no)
 |_=>none
theorem ag5:Hx.Dd Try.prog 86:=(Cy sr (n:=60) (su false [] 0 (by simp))).1
theorem ag6(args:List PV)(d:DT PV)(r:PV)(h:wk args=some d)(hr:d.run=some r):Dr Try.prog 86 args r:=by
 unfold wk at h;split at h
 ·rename_i f l n;cases h;obtain⟨h1,rfl⟩:=DN hr;exact(Cy sr (n:=60) (su f l n (AN h1))).2
 ·cases h
theorem cm(l:List PV)(n:Int):l.length<=(kl l n).length/\(kl l n).length<=l.length+1:=by
 unfold kl;cases lE l n with
 |true=>simp only[Aj];omega
 |false=>
  have:=ZT l n l.length;simp only[Ar,Ap,As,Az,B7];omega
def MF1:CY:=((MO2.DE 86 wk).F4 76 3 [(3,3,0)]).F4 76 11 [(5,106,5)]
theorem ab4:CG Try.prog MF1.env:=((ab2.DE ag5 ag6).F4 76 3 [(3,3,0)]).F4 76 11 [(5,106,5)]
abbrev fR3:List Y1:=[.one 103 2 (.agg [.C9 3,Dk]),.one 128 6 (.agg [Dk,Dk,Dk,Dk,Dk,Dk]),.one 103 2 (.agg [.C9 3,Dk]),.many 147 4]
structure FR where
 f:Bool
 L:List PV
 a:Int
 o0:Int
 o1:Int
 o2:Int
 o3:Int
 o4:Int
 o5:Int
 g:Bool
 N:List PV
 c:Int
 nl:Bool
 es:List PV
abbrev FR.rows(R:FR):List Row:=[Ic R.f R.L R.a,e9 R.o0 R.o1 R.o2 R.o3 R.o4 R.o5,Ic R.g R.N R.c,QP R.nl R.es]
abbrev FR.ls(R:FR)(t:List L1):List L1:=.l R.f R.L::.i R.a::.i R.o0::.i R.o1::.i R.o2::.i R.o3::.i R.o4::.i R.o5::.l R.g R.N::.i R.c::.l R.nl R.es::t
def O2:S1:=⟨54,[(0,.sl 3),(3,.C9 3),(4,Dk)],fR3⟩
abbrev sv(n l:Nat)(u:Bool)(is:List PV)(k:Int)(R:FR):LS:=([.n n,.n l,.l u is,.i k],R.ls [])
abbrev xF3(u:Bool)(is:List PV)(R:FR):PX×List PV×List Row:=(.exit 0,tm 54 [(3,.C9 u 3 is)],R.rows)
def ZU(es:List PV)(k:Int):Int:=((es.getD (0+k.toNat) .any).cellAt 2).DL
def sw(es:List PV)(k:Int):Int:=((es.getD (0+k.toNat) .any).cellAt 3).DL
def x9(es:List PV)(n l:Nat)(k:Int){α:Type}(x:Option α):Option α:=Sa es n l k (HM es n (HM es n x))
theorem Vx{es:List PV}{k:Int}{α:Type}{x:Option α}(h1:0<=k)(h2:k<(es.length:Int)):x9 es es.length es.length k x=x:=by
 unfold x9 Sa HM;rw[AS,Ac h1,Ac h2];rfl
def nF3(n l:Nat)(k:Int)(R:FR)(u:Bool)(is:List PV):Option (PX×List PV×List Row):=some (.normal,O2.put (sv n l u is (W (k+1)) R))
def rF3(n l:Nat)(k:Int)(R:FR)(u:Bool)(is:List PV):Option (PX×List PV×List Row):=
 x9 R.es n l k (bif sw R.es k != 0 then x9 R.es n l k (bif decide (is.length<=1000) then nF3 n l k R (lE is (sw R.es k)&&u) (kl is (sw R.es k)) else none) else nF3 n l k R u is)
theorem qF3(n l:Nat)(u:Bool)(is:List PV)(k:Int)(f:Bool)(L:List PV)(a o0 o1 o2 o3 o4 o5:Int)(g:Bool)(N:List PV)(c:Int)(nl:Bool)(es:List PV):
 Db Try.prog MF1 60 76 (Dg Try.f76 3) [0,3,4] [3] (O2.put (sv n l u is k ⟨f,L,a,o0,o1,o2,o3,o4,o5,g,N,c,nl,es⟩)).1 (O2.put (sv n l u is k ⟨f,L,a,o0,o1,o2,o3,o4,o5,g,N,c,nl,es⟩)).2 =
 bif decide (k<(l:Int)) then
  x9 es n l k (bif ZU es k != 0 then x9 es n l k (bif decide (is.length<=1000) then rF3 n l k ⟨f,L,a,o0,o1,o2,o3,o4,o5,g,N,c,nl,es⟩ (lE is (ZU es k)&&u) (kl is (ZU es k)) else none) else rF3 n l k ⟨f,L,a,o0,o1,o2,o3,o4,o5,g,N,c,nl,es⟩ u is)
 else some (xF3 u is ⟨f,L,a,o0,o1,o2,o3,o4,o5,g,N,c,nl,es⟩):=by kernel_rfl
def lI(n:Int)(s:Bool×List PV):Bool×List PV:=bif n != 0 then (lE s.2 n&&s.1,kl s.2 n) else s
def wo(es:List PV)(k:Int)(s:Bool×List PV):Bool×List PV:=lI (sw es k) (lI (ZU es k) s)
def VX(es:List PV):Nat->Int->Bool×List PV->Bool×List PV
 |0,_,s=>s
 |m+1,k,s=>VX es m (k+1) (wo es k s)
theorem Vy(n:Int)(s:Bool×List PV):s.2.length<=(lI n s).2.length/\(lI n s).2.length<=s.2.length+1:=by
 have:=cm s.2 n;unfold lI;cases n != 0 <;> simp only[Aj,Ar] <;> omega
theorem cn(es:List PV)(k:Int)(s:Bool×List PV):(wo es k s).2.length<=s.2.length+2:=by
 have h1:=Vy (ZU es k) s;have h2:=Vy (sw es k) (lI (ZU es k) s);unfold wo;omega
theorem cp(es:List PV):∀(m:Nat) (k:Int) (s:Bool×List PV),(VX es m k s).2.length<=s.2.length+2*m
 |0,_,s=>by simp[VX]
 |m+1,k,s=>by
  have h1:=cn es k s;have h2:=cp es m (k+1) (wo es k s);simp only[VX];omega
def sA:LS->Bool
 |([.n n,.n l,.l _ is,.i k],[.l _ _,.i _,.i _,.i _,.i _,.i _,.i _,.i _,.l _ _,.i _,.l _ es])=>decide (n=es.length)&&decide (l=es.length)&&decide (0<=k)&&decide (k<=(es.length:Int))&&decide (es.length<=100)&&decide ((is.length:Int)<=2*k)
 |_=>false
def fF3:LS->DT (PX×List PV×List Row)
 |([.n _,.n _,.l u is,.i k],[.l f L,.i a,.i o0,.i o1,.i o2,.i o3,.i o4,.i o5,.l g N,.i c,.l nl es])=>
  .leaf (xF3 (VX es ((es.length:Int)-k).toNat k (u,is)).1 (VX es ((es.length:Int)-k).toNat k (u,is)).2 ⟨f,L,a,o0,o1,o2,o3,o4,o5,g,N,c,nl,es⟩)
 |_=>.no
def mF3:LS->Nat
 |([.n _,.n l,.l _ _,.i k],_)=>((l:Int)-k).toNat
 |_=>0
theorem kn{R:FR}{k:Int}{u:Bool}{is:List PV}(h1:0<=k)(h2:k<(R.es.length:Int))(h3:is.length<=1000)(h4:k<=1000):
  rF3 R.es.length R.es.length k R u is=some (.normal,O2.put (sv R.es.length R.es.length (lI (sw R.es k) (u,is)).1 (lI (sw R.es k) (u,is)).2 (k+1) R)):=by
 unfold rF3 nF3;rw[Vx h1 h2,Vx h1 h2,Ac h3,Dx (n:=k+1) (by omega) (by omega)];unfold lI;cases sw R.es k != 0 <;> rfl
theorem ag8:∀ s r,sA s=true->(fF3 s).run=some r->r.1≠.normal/\(Db Try.prog MF1 60 76 (Dg Try.f76 3) [0,3,4] [3] (O2.put s).1 (O2.put s).2=some r \/
   ∃ s',Db Try.prog MF1 60 76 (Dg Try.f76 3) [0,3,4] [3] (O2.put s).1 (O2.put s).2=some (.normal,O2.put s')/\sA s'=true/\mF3 s'<mF3 s/\(fF3 s').run=some r):=by
 intro t r hp hr;unfold sA at hp;split at hp
 ·rename_i n l u is k f L a o0 o1 o2 o3 o4 o5 g N c nl es;simp only[Aa,Ab]at hp;obtain⟨⟨⟨⟨⟨rfl,rfl⟩,h1⟩,h2⟩,h3⟩,h4⟩:=hp;have hr':=(Ah hr).symm;refine⟨by rw[hr'];simp,?_⟩;have q:=qF3 es.length es.length u is k f L a o0 o1 o2 o3 o4 o5 g N c nl es;rw[show(O2.put ([.n es.length,.n es.length,.l u is,.i k],[.l f L,.i a,.i o0,.i o1,.i o2,.i o3,.i o4,.i o5,.l g N,.i c,.l nl es]))=O2.put (sv es.length es.length u is k ⟨f,L,a,o0,o1,o2,o3,o4,o5,g,N,c,nl,es⟩) from rfl,q];by_cases hk:k<(es.length:Int)
  ·obtain⟨j,hj⟩:∃ j,((es.length:Int)-k).toNat=j+1:=⟨((es.length:Int)-k).toNat-1,by omega⟩;have hj2:((es.length:Int)-(k+1)).toNat=j:=by omega
   have hs:=cn es k (u,is);have hl:=Vy (ZU es k) (u,is);simp only at hs hl;refine .inr ⟨sv es.length es.length (wo es k (u,is)).1 (wo es k (u,is)).2 (k+1) ⟨f,L,a,o0,o1,o2,o3,o4,o5,g,N,c,nl,es⟩,?_,?_,by simp only[mF3];omega,?_⟩
   ·rw[Ac hk,Vx h1 hk,Vx h1 hk,Ac (show is.length<=1000 by omega)];simp only[Aj];rw[kn (R:=⟨f,L,a,o0,o1,o2,o3,o4,o5,g,N,c,nl,es⟩) (u:=u) (is:=is) h1 hk (by show is.length<=1000;omega) (by omega),
     kn (R:=⟨f,L,a,o0,o1,o2,o3,o4,o5,g,N,c,nl,es⟩) (u:=lE is (ZU es k)&&u) (is:=kl is (ZU es k)) h1 hk (by have:=cm is (ZU es k);omega) (by omega)]
    unfold wo;rw[show lI (ZU es k) (u,is)=bif ZU es k != 0 then (lE is (ZU es k)&&u,kl is (ZU es k)) else (u,is) from rfl];cases ZU es k != 0 <;> rfl
   ·simp only[sA,Aa,Ab];exact⟨⟨⟨⟨⟨trivial,trivial⟩,by omega⟩,by omega⟩,h3⟩,by omega⟩
   ·rw[hr',hj];simp only[fF3,hj2,DT.run,VX]
  ·have hz:((es.length:Int)-k).toNat=0:=by omega
   rw[Ai hk];exact .inl (by rw[hr',hz];rfl)
 ·cases hp
def MF2:CY:=MF1.Dl 76 3 [0,3,4] [true,true,true,false] O2 sA fF3
theorem ab6:CG Try.prog MF2.env:=
 ab4.Dl (n:=60) Try.func76 (show Try.f76.body=some (DY Try.f76) by kernel_rfl) (show(loops (DY Try.f76)).filter (fun b=>Ew b==3)=[Dg Try.f76 3] by kernel_rfl) [0,3,4] [3] [true,true,true,false] O2 mF3 ag8
def Kx:S1:=⟨54,[(3,.C9 3),(5,.sl 4),(6,Dk)],[.one 103 2 (.agg [.C9 3,Dk]),.one 128 6 (.agg [Dk,Dk,Dk,Dk,Dk,Dk]),.one 103 2 (.agg [.C9 3,Dk]),.many 147 4,.many 106 5]⟩
abbrev eD(e:PV):PV:=.agg [iv (e.cellAt 0).DL,.val (.string .empty),.val (.string .empty),iv 0,iv 0]
abbrev ya(v:Bool)(fs:List PV):Row:={ es:=fs,s:=5,t:=106,bv:=true,nl:=v }
abbrev XZ(u:Bool)(is:List PV)(m r:Nat)(k:Int)(R:FR)(v:Bool)(fs:List PV):LS:=([.l u is,.n m,.n r,.i k],R.ls [.l v fs])
abbrev ab7(m r:Nat)(R:FR)(v:Bool)(fs:List PV):PX×List PV×List Row:=(.exit 2,tm 54 [(5,.sl 4 m 0 r)],R.rows++[ya v fs])
theorem ag9(u:Bool)(is:List PV)(m r:Nat)(k:Int)(f:Bool)(L:List PV)(a o0 o1 o2 o3 o4 o5:Int)(g:Bool)(N:List PV)(c:Int)(nl:Bool)(es:List PV)(v:Bool)(fs:List PV):
 Db Try.prog MF2 60 76 (Dg Try.f76 11) [3,5,6] [5] (Kx.put (XZ u is m r k ⟨f,L,a,o0,o1,o2,o3,o4,o5,g,N,c,nl,es⟩ v fs)).1 (Kx.put (XZ u is m r k ⟨f,L,a,o0,o1,o2,o3,o4,o5,g,N,c,nl,es⟩ v fs)).2 =
 bif decide (k<(is.length:Int)) then bif F8 is k then bif true&&decide (fs.length=m)&&decide (m=r)&&decide ((m+1)*56<=140737488355328) then
  some (.normal,Kx.put (XZ u is (m+1) (m+1) (W (k+1)) ⟨f,L,a,o0,o1,o2,o3,o4,o5,g,N,c,nl,es⟩ (v&&false) (fs++[eD (is.getD k.toNat .any)]))) else none else none
 else some (ab7 m r ⟨f,L,a,o0,o1,o2,o3,o4,o5,g,N,c,nl,es⟩ v fs):=by kernel_rfl
def lJ(is:List PV):Nat->Int->Bool×List PV->Bool×List PV
 |0,_,s=>s
 |m+1,k,s=>lJ is m (k+1) (s.1&&false,s.2++[eD (is.getD k.toNat .any)])
theorem cq(is:List PV):∀(m:Nat) (k:Int) (s:Bool×List PV),(lJ is m k s).2.length=s.2.length+m
 |0,_,_=>rfl
 |m+1,k,s=>by
  simp only[lJ];rw[cq is m];simp;omega
def Vz:LS->Bool
 |([.l _ is,.n m,.n r,.i k],[.l _ _,.i _,.i _,.i _,.i _,.i _,.i _,.i _,.l _ _,.i _,.l _ _,.l _ fs])=>decide (m=fs.length)&&decide (r=fs.length)&&decide (0<=k)&&decide (k<=(is.length:Int))&&decide (is.length<=1000)&&decide ((fs.length:Int)=k)
 |_=>false
def oE:LS->DT (PX×List PV×List Row)
 |([.l _ is,.n _,.n _,.i k],[.l f L,.i a,.i o0,.i o1,.i o2,.i o3,.i o4,.i o5,.l g N,.i c,.l nl es,.l v fs])=>
  .leaf (ab7 is.length is.length ⟨f,L,a,o0,o1,o2,o3,o4,o5,g,N,c,nl,es⟩ (lJ is ((is.length:Int)-k).toNat k (v,fs)).1 (lJ is ((is.length:Int)-k).toNat k (v,fs)).2)
 |_=>.no
def oF:LS->Nat
 |([.l _ is,.n _,.n _,.i k],_)=>((is.length:Int)-k).toNat
 |_=>0
theorem aha:∀ s r,Vz s=true->(oE s).run=some r->r.1≠.normal/\(Db Try.prog MF2 60 76 (Dg Try.f76 11) [3,5,6] [5] (Kx.put s).1 (Kx.put s).2=some r \/
   ∃ s',Db Try.prog MF2 60 76 (Dg Try.f76 11) [3,5,6] [5] (Kx.put s).1 (Kx.put s).2=some (.normal,Kx.put s')/\Vz s'=true/\oF s'<oF s/\(oE s').run=some r):=by
 intro t r hp hr;unfold Vz at hp;split at hp
 ·rename_i u is m r k f L a o0 o1 o2 o3 o4 o5 g N c nl es v fs;simp only[Aa,Ab]at hp;obtain⟨⟨⟨⟨⟨rfl,rfl⟩,h1⟩,h2⟩,h3⟩,h4⟩:=hp;have hr':=(Ah hr).symm;refine⟨by rw[hr'];simp,?_⟩;have q:=ag9 u is fs.length fs.length k f L a o0 o1 o2 o3 o4 o5 g N c nl es v fs;rw[show(Kx.put ([.l u is,.n fs.length,.n fs.length,.i k],[.l f L,.i a,.i o0,.i o1,.i o2,.i o3,.i o4,.i o5,.l g N,.i c,.l nl es,.l v fs]))=Kx.put (XZ u is fs.length fs.length k ⟨f,L,a,o0,o1,o2,o3,o4,o5,g,N,c,nl,es⟩ v fs) from rfl,q];by_cases hk:k<(is.length:Int)
  ·obtain⟨j,hj⟩:∃ j,((is.length:Int)-k).toNat=j+1:=⟨((is.length:Int)-k).toNat-1,by omega⟩;have hj2:((is.length:Int)-(k+1)).toNat=j:=by omega
   refine .inr ⟨XZ u is (fs.length+1) (fs.length+1) (k+1) ⟨f,L,a,o0,o1,o2,o3,o4,o5,g,N,c,nl,es⟩ (v&&false) (fs++[eD (is.getD k.toNat .any)]),?_,?_,by simp only[oF];omega,?_⟩
   ·rw[Ac hk,DW h1 hk,Dx (n:=k+1) (by omega) (by omega),Ac (show fs.length=fs.length from rfl),Ac (show(fs.length+1)*56<=140737488355328 by omega)];rfl
   ·simp only[Vz,Aa,Ab,Ap,As,AB];exact⟨⟨⟨⟨⟨trivial,trivial⟩,by omega⟩,by omega⟩,h3⟩,by omega⟩
   ·rw[hr',hj];simp only[oE,hj2,DT.run,lJ]
  ·have hz:((is.length:Int)-k).toNat=0:=by omega
   rw[Ai hk];exact .inl (by rw[hr',hz,show fs.length=is.length by omega];rfl)
 ·cases hp
def MF3:CY:=MF2.Dl 76 11 [3,5,6] [true,true,true,false,false] Kx Vz oE
theorem ab8:CG Try.prog MF3.env:=
 ab6.Dl (n:=60) Try.func76 (show Try.f76.body=some (DY Try.f76) by kernel_rfl) (show(loops (DY Try.f76)).filter (fun b=>Ew b==11)=[Dg Try.f76 11] by kernel_rfl) [3,5,6] [5] [true,true,true,false,false] Kx oF aha
def wq:CY:=MF3.FX 76
theorem ab9:CG Try.prog wq.env:=ab8.FX 76
def sD(R:FR):Option (PV×List Row):=
 bif R.es.length==R.es.length then bif sA (sv R.es.length R.es.length false [] 0 R) then
 bif Vz (XZ (VX R.es ((R.es.length:Int)-0).toNat 0 (false,[])).1 (VX R.es ((R.es.length:Int)-0).toNat 0 (false,[])).2 0 0 0 R true []) then
  some (.El [.sl 3 R.es.length 0 R.es.length,.sl 4 (VX R.es ((R.es.length:Int)-0).toNat 0 (false,[])).2.length 0 (VX R.es ((R.es.length:Int)-0).toNat 0 (false,[])).2.length],
   R.rows++[ya (lJ (VX R.es ((R.es.length:Int)-0).toNat 0 (false,[])).2 (((VX R.es ((R.es.length:Int)-0).toNat 0 (false,[])).2.length:Int)-0).toNat 0 (true,[])).1 (lJ (VX R.es ((R.es.length:Int)-0).toNat 0 (false,[])).2 (((VX R.es ((R.es.length:Int)-0).toNat 0 (false,[])).2.length:Int)-0).toNat 0 (true,[])).2])
 else none else none else none
abbrev mdP(i j:Int):Int×Int:=(W (90+W (100*i)),W (90+W (100*j)))
def FR.isl(R:FR)(i j o:Int):FR:={ R with
 f:=fI (fI (fI R.f R.L R.a) R.L (aI R.L R.a)) R.L (aI R.L (aI R.L R.a)),a:=aI R.L (aI R.L (aI R.L R.a)),
 g:=addF' 28 o (f1 R.g R.N R.c 2) R.N (a1 R.N R.c 2),c:=Vt 28 o R.N (a1 R.N R.c 2),nl:=addN' 28 o R.nl,
 es:=IJ R.es false (oy (mdP i j).1 (mdP i j).2 R.N R.c) 28 o R.N (a1 R.N R.c 2) }
def sI(R:FR)(i j o:Int):Option (PV×List Row):=
 bif R.es.length==R.es.length then bif eA R.es.length R.es.length R.es R.c then sD (R.isl i j o) else none else none
def mdI(R:FR)(w h:Int):Option (PV×List Row):=
 bif E3 R.a 2 then bif dI R.L R.a 2==1 then bif E3 (aI R.L R.a) w then bif E3 (aI R.L (aI R.L R.a)) h then
  bif decide (dI R.L (aI R.L R.a) w=2) then bif decide (dI R.L (aI R.L (aI R.L R.a)) h=1) then sI R (dI R.L (aI R.L R.a) w) (dI R.L (aI R.L (aI R.L R.a)) h) R.o5 else bif decide (dI R.L (aI R.L (aI R.L R.a)) h=0) then sI R (dI R.L (aI R.L R.a) w) (dI R.L (aI R.L (aI R.L R.a)) h) R.o4 else none else
  bif decide (dI R.L (aI R.L R.a) w=1) then bif decide (dI R.L (aI R.L (aI R.L R.a)) h=1) then sI R (dI R.L (aI R.L R.a) w) (dI R.L (aI R.L (aI R.L R.a)) h) R.o3 else bif decide (dI R.L (aI R.L (aI R.L R.a)) h=0) then sI R (dI R.L (aI R.L R.a) w) (dI R.L (aI R.L (aI R.L R.a)) h) R.o2 else none else
  bif decide (dI R.L (aI R.L R.a) w=0) then bif decide (dI R.L (aI R.L (aI R.L R.a)) h=1) then sI R (dI R.L (aI R.L R.a) w) (dI R.L (aI R.L (aI R.L R.a)) h) R.o1 else bif decide (dI R.L (aI R.L (aI R.L R.a)) h=0) then sI R (dI R.L (aI R.L R.a) w) (dI R.L (aI R.L (aI R.L R.a)) h) R.o0 else none else none
 else none else none else sD { R with f:=fI R.f R.L R.a,a:=aI R.L R.a } else none
def HJ(w h:Int)(A:List PV):OS:=sg w h A (w-0).toNat 0 (false,a1 A 0 2,0,0,0,0,0,0)
def VY(M N:List PV)(s:OS)(w h:Int)(m:Nat)(t:EV):EV:=Tm M N s.2.2.1 s.2.2.2.1 s.2.2.2.2.1 s.2.2.2.2.2.1 s.2.2.2.2.2.2.1 s.2.2.2.2.2.2.2 w h m 0 t
def oG(M N:List PV)(s:OS)(w h:Int)(m:Nat)(t:EV):EV:=lD M N s.2.2.1 s.2.2.2.1 s.2.2.2.2.1 s.2.2.2.2.2.1 s.2.2.2.2.2.2.1 s.2.2.2.2.2.2.2 w h m 0 t
abbrev frO(s:OS)(A N:List PV)(t:EV):FR:=⟨s.1,A,s.2.1,s.2.2.1,s.2.2.2.1,s.2.2.2.2.1,s.2.2.2.2.2.1,s.2.2.2.2.2.2.1,s.2.2.2.2.2.2.2,t.2.1,N,t.2.2.1,t.2.2.2,t.1⟩
abbrev oH(B C A:List PV)(w h:Int)(n:Nat)(s:OS)(t:EV):LS:=oB false B w h n n 0 s.1 A s.2.1 s.2.2.1 s.2.2.2.1 s.2.2.2.2.1 s.2.2.2.2.2.1 s.2.2.2.2.2.2.1 s.2.2.2.2.2.2.2 t.2.1 C t.2.2.1 t.2.2.2 t.1
def mdM(A B C:List PV)(w h:Int):Option (PV×List Row):=
 bif sn (lO false B false C w h 0 A (false,a1 A 0 2,0,0,0,0,0,0)) then
 bif sa (oH B C A w h 0 (HJ w h A) ([],false,0,true)) then
 bif sb (oH B C A w h (VY B C (HJ w h A) w h (h+1-0).toNat ([],false,0,true)).1.length (HJ w h A) (VY B C (HJ w h A) w h (h+1-0).toNat ([],false,0,true))) then
  mdI (frO (HJ w h A) A C (oG B C (HJ w h A) w h (h-0).toNat (VY B C (HJ w h A) w h (h+1-0).toNat ([],false,0,true)))) w h
 else none else none else none
def wu(A B C:List PV):Option (PV×List Row):=
 bif E3 (aI A 0) 2 then bif W (1+dI A 0 3)==3 then mdM A B C (W (1+dI A 0 3)) 1 else mdM A B C (W (1+dI A 0 3)) (W (1+dI A (aI A 0) 2)) else none
abbrev yb(e:PV):List PV:=(e.cellAt 0).Tf
theorem ahd(f:Bool)(e0 e1 e2:PV):OA Try.prog wq 60 0 53 [.C9 f 38 [e0,e1,e2]] []=wu (yb e0) (yb e1) (yb e2):=by kernel_rfl
theorem ahe(f:Bool)(e0 e1:PV):OA Try.prog wq 60 0 53 [.C9 f 38 [e0,e1]] []=wu (yb e0) (yb e1) []:=by kernel_rfl
theorem ahf(f:Bool)(e0:PV):OA Try.prog wq 60 0 53 [.C9 f 38 [e0]] []=wu (yb e0) [] []:=by kernel_rfl
theorem ahg(f:Bool):OA Try.prog wq 60 0 53 [.C9 f 38 []] []=wu [] [] []:=by kernel_rfl
def ahh(e:PV):Prop:=∃ id f ps lf rt,e=edv id f ps lf rt/\ps.length<=10
def Me(es:List PV):Prop:=∀ e∈es,ahh e
theorem ko{es:List PV}{g:Bool}{ps:List PV}{lf rt:Int}{L:List PV}{a:Int}(h:Me es)(hp:ps.length<=10):Me (IJ es g ps lf rt L a):=by
 unfold IJ;cases lf==rt with
 |true=>exact h
 |false=>
  intro e he;rcases A3.1 he with he |he
  ·exact h e he
  ·rw[AI]at he;subst he;cases dI L a 2==1
   ·exact⟨_,_,_,_,_,rfl,hp⟩
   ·exact⟨_,_,_,_,_,rfl,by rw[N8];exact hp⟩
theorem kp(es:List PV)(g:Bool)(ps:List PV)(lf rt:Int)(L:List PV)(a:Int):(IJ es g ps lf rt L a).length<=es.length+1:=by
 unfold IJ;cases lf==rt <;> simp only[Aj,Ar,Ap,As,AB] <;> omega
theorem sJ(N:List PV)(x0 y0 x1 y1 lf rt:Int){s:EV}(h:Me s.1):Me (Up N x0 y0 x1 y1 lf rt s).1:=
 ko h (by have:=ZP N s.2.2.1;rw[XW];omega)
theorem sK(M N:List PV)(o0 o1 o2 o3 o4 o5 w h j:Int):∀(m:Nat) (i:Int) {s:EV},Me s.1->Me (XX M N o0 o1 o2 o3 o4 o5 w h j m i s).1
 |0,_,_,hs=>hs
 |m+1,i,_,hs=>sK M N o0 o1 o2 o3 o4 o5 w h j m (i+1) (sJ _ _ _ _ _ _ _ hs)
theorem sL(M N:List PV)(o0 o1 o2 o3 o4 o5 w h j:Int):∀(m:Nat) (i:Int) {s:EV},Me s.1->Me (XY M N o0 o1 o2 o3 o4 o5 w h j m i s).1
 |0,_,_,hs=>hs
 |m+1,i,_,hs=>sL M N o0 o1 o2 o3 o4 o5 w h j m (i+1) (sJ _ _ _ _ _ _ _ hs)
theorem sM(M N:List PV)(o0 o1 o2 o3 o4 o5 w h:Int):∀(m:Nat) (j:Int) {s:EV},Me s.1->Me (Tm M N o0 o1 o2 o3 o4 o5 w h m j s).1
 |0,_,_,hs=>hs
 |m+1,j,_,hs=>sM M N o0 o1 o2 o3 o4 o5 w h m (j+1) (sK _ _ _ _ _ _ _ _ _ _ _ _ _ hs)
theorem sO(M N:List PV)(o0 o1 o2 o3 o4 o5 w h:Int):∀(m:Nat) (j:Int) {s:EV},Me s.1->Me (lD M N o0 o1 o2 o3 o4 o5 w h m j s).1
 |0,_,_,hs=>hs
 |m+1,j,_,hs=>sO M N o0 o1 o2 o3 o4 o5 w h m (j+1) (sL _ _ _ _ _ _ _ _ _ _ _ _ _ hs)
def yc(es:List PV):List PV:=(VX es ((es.length:Int)-0).toNat 0 (false,[])).2
def sP(es:List PV):Bool×List PV:=lJ (yc es) (((yc es).length:Int)-0).toNat 0 (true,[])
theorem cr(es:List PV):(yc es).length<=2*es.length:=by
 have:=cp es ((es.length:Int)-0).toNat 0 (false,[]);unfold yc;simp only[AB]at this;omega
theorem ct(es:List PV):(sP es).2.length=(yc es).length:=by
 unfold sP;rw[cq];simp
theorem sQ(is:List PV):∀(m:Nat) (k:Int) (s:Bool×List PV),(∀ e∈s.2,∃ x,e=eD x)->∀ e∈(lJ is m k s).2,∃ x,e=eD x
 |0,_,_,h=>h
 |m+1,k,s,h=>sQ is m (k+1) _ (fun e he=>by
   rcases A3.1 he with he |he
   ·exact h e he
   ·rw[AI]at he;exact⟨_,he⟩)
theorem aca(es:List PV):∀ e∈(sP es).2,∃ x,e=eD x:=sQ _ _ _ _ (by simp)
theorem wv{R:FR}(h:R.es.length<=50):sD R=some (.El [.sl 3 R.es.length 0 R.es.length,.sl 4 (sP R.es).2.length 0 (sP R.es).2.length],R.rows++[ya (sP R.es).1 (sP R.es).2]):=by
 have hJ:=cr R.es;have h1:sA (sv R.es.length R.es.length false [] 0 R)=true:=by
  simp only[sA,Aa,Ab,AB,CZ,Dp];omega
 have h2:Vz (XZ (VX R.es ((R.es.length:Int)-0).toNat 0 (false,[])).1 (VX R.es ((R.es.length:Int)-0).toNat 0 (false,[])).2 0 0 0 R true [])=true:=by
  show Vz (XZ _ (yc R.es) 0 0 0 R true [])=true
  simp only[Vz,Aa,Ab,AB,CZ,Dp];omega
 unfold sD;rw[AS,h1,h2,ct];rfl
def E6(A:List PV):Int:=1+dI A 0 3
def Ey(A:List PV):Int:=if E6 A=3 then 1 else 1+dI A (aI A 0) 2
def Mf(A B C:List PV):FR:=frO (HJ (E6 A) (Ey A) A) A C (oG B C (HJ (E6 A) (Ey A) A) (E6 A) (Ey A) (Ey A-0).toNat (VY B C (HJ (E6 A) (Ey A) A) (E6 A) (Ey A) (Ey A+1-0).toNat ([],false,0,true)))
def mdU(R:FR)(i j:Int):Int:=bif decide (i=2) then bif decide (j=1) then R.o5 else R.o4 else bif decide (i=1) then bif decide (j=1) then R.o3 else R.o2 else bif decide (j=1) then R.o1 else R.o0
def oJ(R:FR)(w h:Int):FR:=bif dI R.L R.a 2==1 then R.isl (dI R.L (aI R.L R.a) w) (dI R.L (aI R.L (aI R.L R.a)) h) (mdU R (dI R.L (aI R.L R.a) w) (dI R.L (aI R.L (aI R.L R.a)) h)) else { R with f:=fI R.f R.L R.a,a:=aI R.L R.a }
def mdR(A B C:List PV):FR:=oJ (Mf A B C) (E6 A) (Ey A)
def mdE(A B C:List PV):List PV:=(mdR A B C).es
theorem wx(A:List PV):1<=E6 A/\E6 A<=3/\1<=Ey A/\Ey A<=2/\sk (E6 A) (Ey A)=true:=by
 have h1:=I4 A 0 (n:=3) (by omega);have h2:=IF A 0 (n:=3) (by omega);have h3:=I4 A (aI A 0) (n:=2) (by omega);have h4:=IF A (aI A 0) (n:=2) (by omega);have e:E6 A=1+dI A 0 3:=rfl;unfold sk Ey;simp only[Aa,A2,Ab];split <;> omega
theorem kq(A:List PV):0<=(HJ (E6 A) (Ey A) A).2.1/\(HJ (E6 A) (Ey A) A).2.1<=11:=by
 have h1:=Hu A 0 2;have h2:=sj (E6 A) (Ey A) A (E6 A-0).toNat 0 (false,a1 A 0 2,0,0,0,0,0,0);have h3:=wx A;unfold HJ;simp only at h2;omega
theorem cu(A B C:List PV):(Mf A B C).es.length<=20/\0<=(Mf A B C).c/\(Mf A B C).c<=200/\0<=(Mf A B C).a/\(Mf A B C).a<=11/\Me (Mf A B C).es:=by
 obtain⟨w1,w2,h1,h2,hok⟩:=wx A;obtain⟨a1,a2⟩:=kq A;have b1:=ZS B C (HJ (E6 A) (Ey A) A).2.2.1 (HJ (E6 A) (Ey A) A).2.2.2.1 (HJ (E6 A) (Ey A) A).2.2.2.2.1 (HJ (E6 A) (Ey A) A).2.2.2.2.2.1 (HJ (E6 A) (Ey A) A).2.2.2.2.2.2.1 (HJ (E6 A) (Ey A) A).2.2.2.2.2.2.2 (E6 A) (Ey A) w2 (Ey A+1-0).toNat 0 ([],false,0,true);have b2:=ki B C (HJ (E6 A) (Ey A) A).2.2.1 (HJ (E6 A) (Ey A) A).2.2.2.1 (HJ (E6 A) (Ey A) A).2.2.2.2.1 (HJ (E6 A) (Ey A) A).2.2.2.2.2.1 (HJ (E6 A) (Ey A) A).2.2.2.2.2.2.1 (HJ (E6 A) (Ey A) A).2.2.2.2.2.2.2 (E6 A) (Ey A) w2 (Ey A-0).toNat 0 (VY B C (HJ (E6 A) (Ey A) A) (E6 A) (Ey A) (Ey A+1-0).toNat ([],false,0,true));change _<=(oG B C (HJ (E6 A) (Ey A) A) (E6 A) (Ey A) (Ey A-0).toNat _).1.length/\_ at b2
 change _<=(VY B C (HJ (E6 A) (Ey A) A) (E6 A) (Ey A) (Ey A+1-0).toNat _).1.length/\(VY B C (HJ (E6 A) (Ey A) A) (E6 A) (Ey A) (Ey A+1-0).toNat _).1.length<=_/\_<=(VY B C (HJ (E6 A) (Ey A) A) (E6 A) (Ey A) (Ey A+1-0).toNat _).2.2.1/\(VY B C (HJ (E6 A) (Ey A) A) (E6 A) (Ey A) (Ey A+1-0).toNat _).2.2.1<=_ at b1
 have b3:_/\(oG B C (HJ (E6 A) (Ey A) A) (E6 A) (Ey A) (Ey A-0).toNat (VY B C (HJ (E6 A) (Ey A) A) (E6 A) (Ey A) (Ey A+1-0).toNat ([],false,0,true))).1.length<=_/\_<=(oG B C (HJ (E6 A) (Ey A) A) (E6 A) (Ey A) (Ey A-0).toNat (VY B C (HJ (E6 A) (Ey A) A) (E6 A) (Ey A) (Ey A+1-0).toNat ([],false,0,true))).2.2.1/\(oG B C (HJ (E6 A) (Ey A) A) (E6 A) (Ey A) (Ey A-0).toNat (VY B C (HJ (E6 A) (Ey A) A) (E6 A) (Ey A) (Ey A+1-0).toNat ([],false,0,true))).2.2.1<=_:=b2;simp only[AB]at b1;refine⟨?_,?_,?_,a1,a2,?_⟩
 ·show(oG _ _ _ _ _ _ _).1.length<=20;omega
 ·show 0<=(oG _ _ _ _ _ _ _).2.2.1;omega
 ·show(oG _ _ _ _ _ _ _).2.2.1<=200;omega
 ·exact sO _ _ _ _ _ _ _ _ _ _ _ _ (sM _ _ _ _ _ _ _ _ _ _ _ _ (by intro e he;cases he))
theorem wy(A B C:List PV):wu A B C=sD (mdR A B C):=by
 obtain⟨w1,w2,h1,h2,hok⟩:=wx A;obtain⟨r1,r2,r3,r4,r5,_⟩:=cu A B C;obtain⟨a1',a2'⟩:=kq A;have d1:=I4 A 0 (n:=3) (by omega);have d2:=IF A 0 (n:=3) (by omega);have d3:=I4 A (aI A 0) (n:=2) (by omega);have d4:=IF A (aI A 0) (n:=2) (by omega);have la:=F7 A 0;have hw:W (1+dI A 0 3)=E6 A:=Dx (by omega) (by omega);have hm:mdM A B C (E6 A) (Ey A)=sD (mdR A B C):=by
  have la2:=Hu A 0 2;have p1:sn (lO false B false C (E6 A) (Ey A) 0 A (false,a1 A 0 2,0,0,0,0,0,0))=true:=by
   simp only[sn,Aa,Ab];exact⟨⟨⟨⟨hok,by omega⟩,by omega⟩,by omega⟩,by omega⟩
  have p2:sa (oH B C A (E6 A) (Ey A) 0 (HJ (E6 A) (Ey A) A) ([],false,0,true))=true:=by
   simp only[sa,Aa,Ab,AB,CZ,Dp];omega
  have b1:=ZS B C (HJ (E6 A) (Ey A) A).2.2.1 (HJ (E6 A) (Ey A) A).2.2.2.1 (HJ (E6 A) (Ey A) A).2.2.2.2.1 (HJ (E6 A) (Ey A) A).2.2.2.2.2.1 (HJ (E6 A) (Ey A) A).2.2.2.2.2.2.1 (HJ (E6 A) (Ey A) A).2.2.2.2.2.2.2 (E6 A) (Ey A) w2 (Ey A+1-0).toNat 0 ([],false,0,true);change _<=(VY B C (HJ (E6 A) (Ey A) A) (E6 A) (Ey A) (Ey A+1-0).toNat _).1.length/\(VY B C (HJ (E6 A) (Ey A) A) (E6 A) (Ey A) (Ey A+1-0).toNat _).1.length<=_/\_<=(VY B C (HJ (E6 A) (Ey A) A) (E6 A) (Ey A) (Ey A+1-0).toNat _).2.2.1/\(VY B C (HJ (E6 A) (Ey A) A) (E6 A) (Ey A) (Ey A+1-0).toNat _).2.2.1<=_ at b1
  simp only[AB]at b1;have p3:sb (oH B C A (E6 A) (Ey A) (VY B C (HJ (E6 A) (Ey A) A) (E6 A) (Ey A) (Ey A+1-0).toNat ([],false,0,true)).1.length (HJ (E6 A) (Ey A) A) (VY B C (HJ (E6 A) (Ey A) A) (E6 A) (Ey A) (Ey A+1-0).toNat ([],false,0,true)))=true:=by
   simp only[sb,Aa,Ab,CZ,Dp];omega
  unfold mdM;rw[p1,p2,p3];simp only[Aj];show mdI (Mf A B C) (E6 A) (Ey A)=sD (oJ (Mf A B C) (E6 A) (Ey A))
  generalize Mf A B C=R at r1 r2 r3 r4 r5;have l1:=F7 R.L R.a;have l2:=F7 R.L (aI R.L R.a);have i1:=I4 R.L (aI R.L R.a) (n:=E6 A) (by omega);have i2:=IF R.L (aI R.L R.a) (n:=E6 A) (by omega);have j1:=I4 R.L (aI R.L (aI R.L R.a)) (n:=Ey A) (by omega);have j2:=IF R.L (aI R.L (aI R.L R.a)) (n:=Ey A) (by omega);have k1:E3 R.a 2=true:=by unfold E3;simp;omega
  have k2:E3 (aI R.L R.a) (E6 A)=true:=by unfold E3;simp;omega
  have k3:E3 (aI R.L (aI R.L R.a)) (Ey A)=true:=by unfold E3;simp;omega
  have k4:eA R.es.length R.es.length R.es R.c=true:=by
   unfold eA;simp only[Aa,Ab,CZ,Dp];omega
  have q:∀ i j o,sI R i j o=sD (R.isl i j o):=fun i j o=>by
   unfold sI;rw[AS,k4];rfl
  unfold mdI oJ;rw[k1,k2,k3];simp only[Aj];cases dI R.L R.a 2==1
  ·rfl
  ·simp only[Aj,q];generalize dI R.L (aI R.L R.a) (E6 A)=i at i1 i2;generalize dI R.L (aI R.L (aI R.L R.a)) (Ey A)=j at j1 j2;unfold mdU;have hi:i=0\/i=1\/i=2:=by omega
   have hj:j=0\/j=1:=by omega
   rcases hi with rfl |rfl |rfl <;> rcases hj with rfl |rfl <;> rfl
 unfold wu;rw[show E3 (aI A 0) 2=true by unfold E3;simp;omega,hw];simp only[Aj];by_cases h3:E6 A=3
 ·rw[h3,show((3:Int)==3)=true from rfl,Aj,<- hm];rw[show Ey A=1 by unfold Ey;rw[Ak h3],h3]
 ·rw[show(E6 A==3)=false by simp[h3],Ar,<- hm,Dx (n:=1+dI A (aI A 0) 2) (by omega) (by omega),show Ey A=1+dI A (aI A 0) 2 by unfold Ey;rw[Aq h3]]
theorem ZV(A B C:List PV):(mdE A B C).length<=21/\Me (mdE A B C):=by
 obtain⟨r1,r2,r3,r4,r5,r6⟩:=cu A B C;unfold mdE mdR oJ;cases dI (Mf A B C).L (Mf A B C).a 2==1
 ·exact⟨by show(Mf A B C).es.length<=21;omega,r6⟩
 ·refine⟨?_,ko r6 ?_⟩
  ·exact Bc (kp _ _ _ _ _ _ _) (by omega)
  ·unfold oy;cases dI (Mf A B C).N (aI (Mf A B C).N (Mf A B C).c) 2==1 <;> simp
def nth(ls:List PV)(k:Nat):List PV:=((ls.getD k .any).cellAt 0).Tf
def Gx(ls:List PV):List PV:=mdE (nth ls 0) (nth ls 1) (nth ls 2)
def kr(ls:List PV):Bool:=(mdR (nth ls 0) (nth ls 1) (nth ls 2)).nl
def Ge(ls:List PV):Bool×List PV:=sP (Gx ls)
theorem ace(f:Bool)(ls:List PV)(h:ls.length<=3):∃ H0 H1 H2,OA Try.prog wq 60 0 53 [.C9 f 38 ls] [] =
  some (.El [.sl 3 (Gx ls).length 0 (Gx ls).length,.sl 4 (Ge ls).2.length 0 (Ge ls).2.length],[H0,H1,H2,QP (kr ls) (Gx ls),ya (Ge ls).1 (Ge ls).2]):=by
 have e:OA Try.prog wq 60 0 53 [.C9 f 38 ls] []=wu (nth ls 0) (nth ls 1) (nth ls 2):=by
  match ls,h with
  | [],_=>exact ahg f
  | [e0],_=>exact ahf f e0
  | [e0,e1],_=>exact ahe f e0 e1
  | [e0,e1,e2],_=>exact ahd f e0 e1 e2
  |_::_::_::_::_,h=>simp at h
 have hb:=(ZV (nth ls 0) (nth ls 1) (nth ls 2)).1;exact⟨_,_,_,by rw[e,wy,wv (by show(mdE _ _ _).length<=50;omega)];rfl⟩
theorem kt(f:Bool)(ls:List PV)(h:ls.length<=3):Hx.Dd Try.prog 53/\∀ ro H,Fa Try.prog ro 53 [.C9 f 38 ls] H
  (.El [.sl H.length (Gx ls).length 0 (Gx ls).length,.sl (H.length+1) (Ge ls).2.length 0 (Ge ls).2.length]) (H++[QP (kr ls) (Gx ls),ya (Ge ls).1 (Ge ls).2]):=by
 obtain⟨H0,H1,H2,he⟩:=ace f ls h;refine eB ab9 (n:=60) (ps:=fun _=>[.sl 3 (Gx ls).length 0 (Gx ls).length,.sl 4 (Ge ls).2.length 0 (Ge ls).2.length]) (qs:=fun h=>[.sl h (Gx ls).length 0 (Gx ls).length,.sl (h+1) (Ge ls).2.length 0 (Ge ls).2.length]) (idx:=[3,4]) (by rfl) he (by decide) ?_ rfl ?_ ?_
 ·intro x i hi
  match x,hi with
  |0,hi=>cases hi;exact⟨_,rfl,rfl⟩
  |1,hi=>cases hi;exact⟨_,rfl,rfl⟩
  |x+2,hi=>simp at hi
 ·intro r hr e he c hc;simp only[AK,B8,Cu]at hr;rcases hr with rfl |rfl
  ·obtain⟨id,f,ps,lf,rt,rfl,_⟩:=(ZV (nth ls 0) (nth ls 1) (nth ls 2)).2 e he;change c∈[_,_,_,_]at hc
   simp only[AK,B8,Cu]at hc;rcases hc with rfl |rfl |rfl |rfl <;> rfl
  ·obtain⟨x,rfl⟩:=aca _ e he;change c∈[_,_,_,_,_]at hc
   simp only[AK,B8,Cu]at hc;rcases hc with rfl |rfl |rfl |rfl |rfl <;> rfl
 ·intro h;refine⟨rfl,fun j p q h1 h2=>?_⟩
  match j,h1,h2 with
  |0,h1,h2=>cases h1;cases h2;exact .sl (x:=0) rfl
  |1,h1,h2=>cases h1;cases h2;exact .sl (x:=1) rfl
  |j+2,h1,_=>simp at h1
def cMd(_:Nat)(args:List PV)(H:List Row):Option (DT (PV×List Row)):=
 match args with
 | [.C9 _ 38 ls]=>some (.br (decide (ls.length<=3)) (.leaf (.El [.sl H.length (Gx ls).length 0 (Gx ls).length,.sl (H.length+1) (Ge ls).2.length 0 (Ge ls).2.length],H++[QP (kr ls) (Gx ls),ya (Ge ls).1 (Ge ls).2])) .no)
 |_=>none
theorem oMd(ro:Nat)(args:List PV)(H:List Row)(d:DT (PV×List Row))(p:PV)(H':List Row)(h:cMd ro args H=some d)(hd:d.run=some (p,H')):Fa Try.prog ro 53 args H p H':=by
 unfold cMd at h;split at h
 ·rename_i f ls;cases h;obtain⟨hc,he⟩:=FU hd;cases he;exact(kt f ls (AN hc)).2 ro H
 ·cases h
theorem eMd:Hx.Dd Try.prog 53:=(kt false [] (by simp)).1
def MX1:CY:=(((M7.F4 88 3 [(3,159,4)]).F4 88 7 [(1101,155,3)]).FF 88 10 1001)
theorem acg:CG Try.prog MX1.env:=(((IP.F4 88 3 [(3,159,4)]).F4 88 7 [(1101,155,3)]).FF 88 10 1001)
abbrev trR(u:Bool)(ts:List PV):Row:={ es:=ts,s:=4,t:=159,bv:=true,nl:=u }
def O3:S1:=⟨58,[(0,.C9 147),(3,.sl 0),(4,Dk),(5,.ptr 1 1 0 0),(6,Dk)],[.many 159 4,.GJ 159 4 (.agg [Dk,.sl 2,Dk,Dk]),.many 155 3]⟩
abbrev sR(f:Bool)(es:List PV)(m r:Nat)(k i:Int)(u:Bool)(ts:List PV)(b0:Int)(n l:Nat)(b1 b2:Int)(v:Bool)(ss:List PV):LS:=([.l f es,.n m,.n r,.i k,.i i],[.l u ts,.i b0,.n n,.n l,.i b1,.i b2,.l v ss])
abbrev xT7(f:Bool)(es:List PV)(m r:Nat)(k:Int)(u:Bool)(ts:List PV)(b0:Int)(n l:Nat)(b1 b2:Int)(v:Bool)(ss:List PV):PX×List PV×List Row:=
 (.exit 2,tm 58 [(0,.C9 f 147 es),(3,.sl 0 m 0 r),(4,iv k),(5,.ptr 1 1 0 0)],(O3.put (sR f es m r k 0 u ts b0 n l b1 b2 v ss)).2)
abbrev DZ(es:List PV)(k:Int):List PV:=((es.getD k.toNat .any).cellAt 1).Tf
abbrev wz(e:PV):PV:=.agg [iv (e.cellAt 0).DL,iv (e.cellAt 1).DL,iv 1]
theorem qT7(f:Bool)(es:List PV)(m r:Nat)(k i:Int)(u:Bool)(ts:List PV)(b0:Int)(n l:Nat)(b1 b2:Int)(v:Bool)(ss:List PV):
 Db Try.prog MX1 60 88 (Dg Try.f88 7) [0,3,4,5,6] [0,3,4,5] (O3.put (sR f es m r k i u ts b0 n l b1 b2 v ss)).1 (O3.put (sR f es m r k i u ts b0 n l b1 b2 v ss)).2 =
 bif F8 es k then bif decide (i<((DZ es k).length:Int)) then bif F8 es k then bif F8 (DZ es k) i then bif true&&decide (ss.length=n)&&decide (n=l)&&decide ((n+1)*24<=140737488355328) then
  some (.normal,O3.put (sR f es m r k (W (i+1)) u ts b0 (n+1) (n+1) b1 b2 (v&&false) (ss++[wz ((DZ es k).getD i.toNat .any)]))) else none else none else none
 else some (xT7 f es m r k u ts b0 n l b1 b2 v ss) else none:=by kernel_rfl
def wA(ps:List PV):Nat->Int->Bool×List PV->Bool×List PV
 |0,_,s=>s
 |m+1,i,s=>wA ps m (i+1) (s.1&&false,s.2++[wz (ps.getD i.toNat .any)])
theorem cw(ps:List PV):∀(m:Nat) (i:Int) (s:Bool×List PV),(wA ps m i s).2.length=s.2.length+m
 |0,_,_=>rfl
 |m+1,i,s=>by
  simp only[wA];rw[cw ps m];simp;omega
def sV:LS->Bool
 |([.l _ es,.n _,.n _,.i k,.i i],[.l _ _,.i _,.n n,.n l,.i _,.i _,.l _ ss])=>F8 es k&&decide (n=ss.length)&&decide (l=ss.length)&&decide (0<=i)&&decide (i<=((DZ es k).length:Int))&&decide ((DZ es k).length<=1000)&&decide ((ss.length:Int)=i)
 |_=>false
def fT7:LS->DT (PX×List PV×List Row)
 |([.l f es,.n m,.n r,.i k,.i i],[.l u ts,.i b0,.n _,.n _,.i b1,.i b2,.l v ss])=>
  .leaf (xT7 f es m r k u ts b0 (DZ es k).length (DZ es k).length b1 b2 (wA (DZ es k) (((DZ es k).length:Int)-i).toNat i (v,ss)).1 (wA (DZ es k) (((DZ es k).length:Int)-i).toNat i (v,ss)).2)
 |_=>.no
def mT7:LS->Nat
 |([.l _ es,.n _,.n _,.i k,.i i],_)=>(((DZ es k).length:Int)-i).toNat
 |_=>0
theorem sT7:∀ s r,sV s=true->(fT7 s).run=some r->r.1≠.normal/\(Db Try.prog MX1 60 88 (Dg Try.f88 7) [0,3,4,5,6] [0,3,4,5] (O3.put s).1 (O3.put s).2=some r \/
   ∃ s',Db Try.prog MX1 60 88 (Dg Try.f88 7) [0,3,4,5,6] [0,3,4,5] (O3.put s).1 (O3.put s).2=some (.normal,O3.put s')/\sV s'=true/\mT7 s'<mT7 s/\(fT7 s').run=some r):=by
 intro t r hp hr;unfold sV at hp;split at hp
 ·rename_i f es m r' k i u ts b0 n l b1 b2 v ss;simp only[Aa,Ab]at hp;obtain⟨⟨⟨⟨⟨⟨h0,rfl⟩,rfl⟩,h1⟩,h2⟩,h3⟩,h4⟩:=hp;have hr':=(Ah hr).symm;refine⟨by rw[hr'];simp,?_⟩;have q:=qT7 f es m r' k i u ts b0 ss.length ss.length b1 b2 v ss;rw[show(O3.put ([.l f es,.n m,.n r',.i k,.i i],[.l u ts,.i b0,.n ss.length,.n ss.length,.i b1,.i b2,.l v ss]))=O3.put (sR f es m r' k i u ts b0 ss.length ss.length b1 b2 v ss) from rfl,q,DW h0.1 h0.2,Aj,Aj];by_cases hk:i<((DZ es k).length:Int)
  ·obtain⟨j,hj⟩:∃ j,(((DZ es k).length:Int)-i).toNat=j+1:=⟨(((DZ es k).length:Int)-i).toNat-1,by omega⟩;have hj2:(((DZ es k).length:Int)-(i+1)).toNat=j:=by omega
   refine .inr ⟨sR f es m r' k (i+1) u ts b0 (ss.length+1) (ss.length+1) b1 b2 (v&&false) (ss++[wz ((DZ es k).getD i.toNat .any)]),?_,?_,by simp only[mT7];omega,?_⟩
   ·rw[Ac hk,DW h1 hk,Dx (n:=i+1) (by omega) (by omega),Ac (show ss.length=ss.length from rfl),Ac (show(ss.length+1)*24<=140737488355328 by omega)];rfl
   ·simp only[sV,Aa,Ab,Ap,As,AB];exact⟨⟨⟨⟨⟨⟨h0,trivial⟩,trivial⟩,by omega⟩,by omega⟩,h3⟩,by omega⟩
   ·rw[hr',hj];simp only[fT7,hj2,DT.run,wA]
  ·have hz:(((DZ es k).length:Int)-i).toNat=0:=by omega
   rw[Ai hk];exact .inl (by rw[hr',hz,show ss.length=(DZ es k).length by omega];rfl)
 ·cases hp
def MX2:CY:=MX1.Dl 88 7 [0,3,4,5,6] [false,true,false] O3 sV fT7
theorem aci:CG Try.prog MX2.env:=
 acg.Dl (n:=60) Try.func88 (show Try.f88.body=some (DY Try.f88) by kernel_rfl) (show(loops (DY Try.f88)).filter (fun b=>Ew b==7)=[Dg Try.f88 7] by kernel_rfl) [0,3,4,5,6] [0,3,4,5] [false,true,false] O3 mT7 sT7
def Qn:S1:=⟨58,[(0,.C9 147),(3,.sl 0),(4,Dk)],[.many 159 4]⟩
abbrev wB(f:Bool)(es:List PV)(m r:Nat)(k:Int)(u:Bool)(ts:List PV):LS:=([.l f es,.n m,.n r,.i k],[.l u ts])
abbrev xT3(m r:Nat)(u:Bool)(ts:List PV):PX×List PV×List Row:=(.exit 0,tm 58 [(3,.sl 0 m 0 r)],[trR u ts])
abbrev ssE(es:List PV)(k:Int):List PV:=(wA (DZ es k) (((DZ es k).length:Int)-0).toNat 0 (true,[])).2
abbrev trE(es:List PV)(k:Int):PV:=.agg [iv ((es.getD k.toNat .any).cellAt 0).DL,.C9 false 155 (((ssE es k).drop 0).take (DZ es k).length),iv ((es.getD k.toNat .any).cellAt 2).DL,iv ((es.getD k.toNat .any).cellAt 3).DL]
theorem qT3(f:Bool)(es:List PV)(m r:Nat)(k:Int)(u:Bool)(ts:List PV):
 Db Try.prog MX2 60 88 (Dg Try.f88 3) [0,3,4] [3] (Qn.put (wB f es m r k u ts)).1 (Qn.put (wB f es m r k u ts)).2 =
 bif decide (k<(es.length:Int)) then bif F8 es k then bif F8 es k then bif F8 es k then bif sV (sR f es m r k 0 u ts ((es.getD k.toNat .any).cellAt 0).DL 0 0 ((es.getD k.toNat .any).cellAt 2).DL ((es.getD k.toNat .any).cellAt 3).DL true []) then
  bif ((((ssE es k).length==(DZ es k).length)&&true)&&true)&&true then bif true&&decide (ts.length=m)&&decide (m=r)&&decide ((m+1)*48<=140737488355328) then
  some (.normal,Qn.put (wB f es (m+1) (m+1) (W (k+1)) (u&&false) (ts++[trE es k]))) else none else none else none else none else none else none
 else some (xT3 m r u ts):=by kernel_rfl
def sW(es:List PV):Nat->Int->Bool×List PV->Bool×List PV
 |0,_,s=>s
 |m+1,k,s=>sW es m (k+1) (s.1&&false,s.2++[trE es k])
theorem cz(es:List PV):∀(m:Nat) (k:Int) (s:Bool×List PV),(sW es m k s).2.length=s.2.length+m
 |0,_,_=>rfl
 |m+1,k,s=>by
  simp only[sW];rw[cz es m];simp;omega
def PY(es:List PV):Bool:=es.all fun e=>decide (((e.cellAt 1).Tf).length<=1000)
theorem VA{es:List PV}(h:PY es=true){k:Int}(h1:0<=k)(h2:k<(es.length:Int)):(DZ es k).length<=1000:=by
 unfold DZ;rw[Av,Ae (by omega)];exact AN (Ao.1 h _ (By _))
def sZ:LS->Bool
 |([.l _ es,.n m,.n r,.i k],[.l _ ts])=>PY es&&decide (m=ts.length)&&decide (r=ts.length)&&decide (0<=k)&&decide (k<=(es.length:Int))&&decide (es.length<=1000)&&decide ((ts.length:Int)=k)
 |_=>false
def fT3:LS->DT (PX×List PV×List Row)
 |([.l _ es,.n _,.n _,.i k],[.l u ts])=>.leaf (xT3 es.length es.length (sW es ((es.length:Int)-k).toNat k (u,ts)).1 (sW es ((es.length:Int)-k).toNat k (u,ts)).2)
 |_=>.no
def mT3:LS->Nat
 |([.l _ es,.n _,.n _,.i k],_)=>((es.length:Int)-k).toNat
 |_=>0
theorem oK(es:List PV)(k:Int):(ssE es k).length=(DZ es k).length:=by
 unfold ssE;rw[cw];simp
theorem sT3:∀ s r,sZ s=true->(fT3 s).run=some r->r.1≠.normal/\(Db Try.prog MX2 60 88 (Dg Try.f88 3) [0,3,4] [3] (Qn.put s).1 (Qn.put s).2=some r \/
   ∃ s',Db Try.prog MX2 60 88 (Dg Try.f88 3) [0,3,4] [3] (Qn.put s).1 (Qn.put s).2=some (.normal,Qn.put s')/\sZ s'=true/\mT3 s'<mT3 s/\(fT3 s').run=some r):=by
 intro t r hp hr;unfold sZ at hp;split at hp
 ·rename_i f es m r' k u ts;simp only[Aa,Ab]at hp;obtain⟨⟨⟨⟨⟨⟨h0,rfl⟩,rfl⟩,h1⟩,h2⟩,h3⟩,h4⟩:=hp;have hr':=(Ah hr).symm;refine⟨by rw[hr'];simp,?_⟩;have q:=qT3 f es ts.length ts.length k u ts;rw[show(Qn.put ([.l f es,.n ts.length,.n ts.length,.i k],[.l u ts]))=Qn.put (wB f es ts.length ts.length k u ts) from rfl,q];by_cases hk:k<(es.length:Int)
  ·obtain⟨j,hj⟩:∃ j,((es.length:Int)-k).toNat=j+1:=⟨((es.length:Int)-k).toNat-1,by omega⟩;have hj2:((es.length:Int)-(k+1)).toNat=j:=by omega
   have hs:=VA h0 h1 hk;have p7:sV (sR f es ts.length ts.length k 0 u ts ((es.getD k.toNat .any).cellAt 0).DL 0 0 ((es.getD k.toNat .any).cellAt 2).DL ((es.getD k.toNat .any).cellAt 3).DL true [])=true:=by
    simp only[sV,Aa,Ab,AB,Dp];omega
   refine .inr ⟨wB f es (ts.length+1) (ts.length+1) (k+1) (u&&false) (ts++[trE es k]),?_,?_,by simp only[mT3];omega,?_⟩
   ·rw[Ac hk,DW h1 hk,p7,oK,AS,Dx (n:=k+1) (by omega) (by omega),Ac (show ts.length=ts.length from rfl),Ac (show(ts.length+1)*48<=140737488355328 by omega)];rfl
   ·simp only[sZ,Aa,Ab,Ap,As,AB];exact⟨⟨⟨⟨⟨⟨h0,trivial⟩,trivial⟩,by omega⟩,by omega⟩,h3⟩,by omega⟩
   ·rw[hr',hj];simp only[fT3,hj2,DT.run,sW]
  ·have hz:((es.length:Int)-k).toNat=0:=by omega
   rw[Ai hk];exact .inl (by rw[hr',hz,show ts.length=es.length by omega];rfl)
 ·cases hp
def MX3:CY:=MX2.Dl 88 3 [0,3,4] [false] Qn sZ fT3
theorem s7:CG Try.prog MX3.env:=
 aci.Dl (n:=60) Try.func88 (show Try.f88.body=some (DY Try.f88) by kernel_rfl) (show(loops (DY Try.f88)).filter (fun b=>Ew b==3)=[Dg Try.f88 3] by kernel_rfl) [0,3,4] [3] [false] Qn mT3 sT3
def Qo(es:List PV):List PV:=(sW es ((es.length:Int)-0).toNat 0 (true,[])).2
theorem qTr(f:Bool)(es:List PV):DD Try.prog MX3 60 88 [.C9 f 147 es] =
 bif sZ (wB f es 0 0 0 true []) then HM (Qo es) es.length (some (.C9 false 159 (((Qo es).drop 0).take es.length))) else none:=by kernel_rfl
theorem VB(es:List PV):(Qo es).length=es.length:=by
 unfold Qo;rw[cz];simp
theorem ack(f:Bool){es:List PV}(h:PY es=true)(hl:es.length<=1000):DD Try.prog MX3 60 88 [.C9 f 147 es]=some (.C9 false 159 (Qo es)):=by
 have hp:sZ (wB f es 0 0 0 true [])=true:=by
  simp only[sZ,Aa,Ab,AB,Dp];exact⟨⟨⟨⟨h,by omega⟩,by omega⟩,hl⟩,rfl⟩
 rw[qTr,hp,Aj,DJ (VB es),AF,A7 (by rw[VB];exact Al _)]
def wC:List PV->Option (DT PV)
 | [.C9 _ 147 es]=>some (.br (PY es&&decide (es.length<=1000)) (.leaf (.C9 false 159 (Qo es))) .no)
 |_=>none
theorem ahl:Hx.Dd Try.prog 88:=(Cy s7 (n:=60) (ack false (es:=[]) rfl (by simp))).1
theorem ahm(args:List PV)(d:DT PV)(r:PV)(h:wC args=some d)(hr:d.run=some r):Dr Try.prog 88 args r:=by
 unfold wC at h;split at h
 ·rename_i f es;cases h;obtain⟨h1,rfl⟩:=DN hr;rw[Aa,Ab]at h1;exact(Cy s7 (n:=60) (ack f h1.1 h1.2)).2
 ·cases h
abbrev e0(e:PV):Int:=(e.cellAt 0).DL
abbrev e1(e:PV):Int:=(e.cellAt 1).DL
abbrev e2(e:PV):Int:=(e.cellAt 2).DL
abbrev e3(e:PV):Int:=(e.cellAt 3).DL
abbrev s8(x y:Int):Row:=r1 28 2 (F0 x y)
def Qp:S1:=⟨120,[(0,.C9 159),(3,.ptr 0 1 0 0),(4,Dk),(5,.bool),(6,Dk),(7,Dk)],[.one 28 2 (.agg [Dk,Dk])]⟩
abbrev wE(f:Bool)(es:List PV)(z:Int)(zb:Bool)(k i x y:Int):LS:=([.l f es,.i z,.b zb,.i k,.i i],[.i x,.i y])
abbrev xA7(f:Bool)(es:List PV)(z:Int)(zb:Bool)(k x y:Int):PX×List PV×List Row:=(.exit 2,tm 120 [(0,.C9 f 159 es),(3,.ptr 0 1 0 0),(4,iv z),(5,bv zb),(6,iv k)],[s8 x y])
abbrev rA7(f:Bool)(es:List PV)(k x y:Int):PX×List PV×List Row:=(.ret,tm 120 [(0,.C9 f 159 es),(3,.ptr 0 1 0 0),(4,iv 0),(5,bv false),(6,iv k)],[s8 x y])
theorem qA7(f:Bool)(es:List PV)(z:Int)(zb:Bool)(k i x y:Int):Db Try.prog M7 60 87 (Dg Try.f87 7) [0,3,4,5,6,7] [0,3,4,5,6] (Qp.put (wE f es z zb k i x y)).1 (Qp.put (wE f es z zb k i x y)).2 =
 bif F8 es k then bif decide (i<((DZ es k).length:Int)) then bif F8 es k then bif F8 (DZ es k) i then
  bif !Zm (e0 ((DZ es k).getD i.toNat .any)) (e1 ((DZ es k).getD i.toNat .any)) (e2 ((DZ es k).getD i.toNat .any)) then some (rA7 f es k x y) else some (.normal,Qp.put (wE f es z zb k (W (i+1)) x y)) else none else none
 else some (xA7 f es z zb k x y) else none:=by kernel_rfl
def I6:S1:=⟨120,[(0,.C9 159),(3,.ptr 0 1 0 0),(4,Dk),(5,.bool),(8,.bool),(9,.ptr 1 1 0 0),(10,Dk),(11,Dk)],[.one 28 2 (.agg [Dk,Dk]),.one 161 7 (.agg [Dk,Dk,Dk,Dk,Dk,Dk,Dk])]⟩
structure BR where
 s:Bool
 a:Int
 b:Int
 c:Int
 d:Int
 e:Int
 f:Int
 g:Int
abbrev BR.row(B:BR):Row:=r1 161 7 (.agg [iv B.a,iv B.b,iv B.c,iv B.d,iv B.e,iv B.f,iv B.g])
abbrev VC(f:Bool)(es:List PV)(z:Int)(zb:Bool)(k i x y:Int)(B:BR):LS:=([.l f es,.i z,.b zb,.b B.s,.i k,.i i],[.i x,.i y,.i B.a,.i B.b,.i B.c,.i B.d,.i B.e,.i B.f,.i B.g])
abbrev acm(f:Bool)(es:List PV)(z:Int)(zb:Bool)(k x y:Int)(B:BR):PX×List PV×List Row:=(.exit 6,tm 120 [(0,.C9 f 159 es),(3,.ptr 0 1 0 0),(4,iv z),(5,bv zb),(8,bv B.s),(9,.ptr 1 1 0 0),(10,iv k)],[s8 x y,B.row])
abbrev acn(f:Bool)(es:List PV)(k x y:Int)(B:BR):PX×List PV×List Row:=(.ret,tm 120 [(0,.C9 f 159 es),(3,.ptr 0 1 0 0),(4,iv 0),(5,bv false),(8,bv B.s),(9,.ptr 1 1 0 0),(10,iv k)],[s8 x y,B.row])
abbrev onE(a b:PV)(x y:Int):Bool:=onJ (e0 a) (e1 a) (e2 a) (e0 b) (e1 b) (e2 b) x y
abbrev ZW(a b:PV)(x y:Int):Int:=y7 (e0 a) (e1 a) (e2 a) (e0 b) (e1 b) (e2 b) x y
abbrev rsB(a b:PV)(d:Int):BR:=⟨true,e0 a,e1 a,e2 a,e0 b,e1 b,e2 b,d⟩
abbrev byE(B:BR)(a b:PV):Bool:=byJ B.a B.b B.c B.d B.e B.f (e0 a) (e1 a) (e2 a) (e0 b) (e1 b) (e2 b)
def eG(f:Bool)(es:List PV)(z:Int)(zb:Bool)(k i x y:Int)(B:BR):Option (PX×List PV×List Row):=some (.normal,I6.put (VC f es z zb k (W (i+1)) x y B))
def oL(f:Bool)(es:List PV)(z:Int)(zb:Bool)(k i x y:Int)(B:BR)(r:Int)(a b:PV)(d:Int):Option (PX×List PV×List Row):=
 bif r != 0 then bif !B.s then eG f es z zb k i x y (rsB a b d) else bif byE B a b then eG f es z zb k i x y (rsB a b d) else eG f es z zb k i x y B else eG f es z zb k i x y B
abbrev Oi(es:List PV)(k i:Int):PV:=(DZ es k).getD i.toNat .any
def s9(ps:List PV):Nat->Int->Bool
 |0,_=>true
 |m+1,i=>bif Zm (e0 (ps.getD i.toNat .any)) (e1 (ps.getD i.toNat .any)) (e2 (ps.getD i.toNat .any)) then s9 ps m (i+1) else false
theorem Oa{α:Type}{c:Bool}{x y r:α}(h:(DT.br c (.leaf x) (.leaf y)).run=some r):r=bif c then x else y:=by
 cases c <;> exact(Ah h).symm
def ta:LS->Bool
 |([.l _ es,.i _,.b _,.i k,.i i],[.i _,.i _])=>F8 es k&&decide (0<=i)&&decide (i<=((DZ es k).length:Int))&&decide ((DZ es k).length<=1000)
 |_=>false
def fA7:LS->DT (PX×List PV×List Row)
 |([.l f es,.i z,.b zb,.i k,.i i],[.i x,.i y])=>.br (s9 (DZ es k) (((DZ es k).length:Int)-i).toNat i) (.leaf (xA7 f es z zb k x y)) (.leaf (rA7 f es k x y))
 |_=>.no
def mA7:LS->Nat
 |([.l _ es,.i _,.b _,.i k,.i i],_)=>(((DZ es k).length:Int)-i).toNat
 |_=>0
theorem sA7:∀ s r,ta s=true->(fA7 s).run=some r->r.1≠.normal/\(Db Try.prog M7 60 87 (Dg Try.f87 7) [0,3,4,5,6,7] [0,3,4,5,6] (Qp.put s).1 (Qp.put s).2=some r \/
   ∃ s',Db Try.prog M7 60 87 (Dg Try.f87 7) [0,3,4,5,6,7] [0,3,4,5,6] (Qp.put s).1 (Qp.put s).2=some (.normal,Qp.put s')/\ta s'=true/\mA7 s'<mA7 s/\(fA7 s').run=some r):=by
 intro t r hp hr;unfold ta at hp;split at hp
 ·rename_i f es z zb k i x y;simp only[Aa,Ab]at hp;obtain⟨⟨⟨h0,h1⟩,h2⟩,h3⟩:=hp;have hr':=Oa hr;refine⟨by rw[hr'];cases s9 _ _ _ <;> simp,?_⟩;rw[show(Qp.put ([.l f es,.i z,.b zb,.i k,.i i],[.i x,.i y]))=Qp.put (wE f es z zb k i x y) from rfl,qA7 f es z zb k i x y,DW h0.1 h0.2];simp only[Aj];by_cases hk:i<((DZ es k).length:Int)
  ·obtain⟨j,hj⟩:∃ j,(((DZ es k).length:Int)-i).toNat=j+1:=⟨(((DZ es k).length:Int)-i).toNat-1,by omega⟩;have hj2:(((DZ es k).length:Int)-(i+1)).toNat=j:=by omega
   rw[Ac hk,DW h1 hk,Dx (n:=i+1) (by omega) (by omega)];simp only[Aj];rw[hj]at hr';simp only[s9]at hr';cases hb:Zm (e0 ((DZ es k).getD i.toNat .any)) (e1 ((DZ es k).getD i.toNat .any)) (e2 ((DZ es k).getD i.toNat .any)) with
   |true=>
    rw[hb,Aj]at hr';refine .inr ⟨wE f es z zb k (i+1) x y,rfl,?_,by simp only[mA7];omega,?_⟩
    ·simp only[ta,Aa,Ab];omega
    ·rw[hr'];simp only[fA7,hj2];cases s9 (DZ es k) j (i+1) <;> rfl
   |false=>
    rw[hb,Ar,Ar]at hr';exact .inl (by rw[hr'];rfl)
  ·have hz:(((DZ es k).length:Int)-i).toNat=0:=by omega
   rw[Ai hk];exact .inl (by rw[hr',hz];rfl)
 ·cases hp
def MY1:CY:=M7.Dl 87 7 [0,3,4,5,6,7] [true] Qp ta fA7
theorem acp:CG Try.prog MY1.env:=
 IP.Dl (n:=60) Try.func87 (show Try.f87.body=some (DY Try.f87) by kernel_rfl) (show(loops (DY Try.f87)).filter (fun b=>Ew b==7)=[Dg Try.f87 7] by kernel_rfl) [0,3,4,5,6,7] [0,3,4,5,6] [true] Qp mA7 sA7
def Qq:S1:=⟨120,[(0,.C9 159),(3,.ptr 0 1 0 0),(4,Dk),(5,.bool),(6,Dk)],[.one 28 2 (.agg [Dk,Dk])]⟩
abbrev wF(f:Bool)(es:List PV)(z:Int)(zb:Bool)(k x y:Int):LS:=([.l f es,.i z,.b zb,.i k],[.i x,.i y])
abbrev xAA(f:Bool)(es:List PV)(z:Int)(zb:Bool)(x y:Int):PX×List PV×List Row:=(.exit 0,tm 120 [(0,.C9 f 159 es),(3,.ptr 0 1 0 0),(4,iv z),(5,bv zb)],[s8 x y])
abbrev rAA(f:Bool)(es:List PV)(x y:Int):PX×List PV×List Row:=(.ret,tm 120 [(0,.C9 f 159 es),(3,.ptr 0 1 0 0),(4,iv 0),(5,bv false)],[s8 x y])
theorem qAA(f:Bool)(es:List PV)(z:Int)(zb:Bool)(k x y:Int):Db Try.prog MY1 60 87 (Dg Try.f87 4) [0,3,4,5,6] [0,3,4,5] (Qq.put (wF f es z zb k x y)).1 (Qq.put (wF f es z zb k x y)).2 =
 bif decide (k<(es.length:Int)) then bif ta (wE f es z zb k 0 x y) then bif s9 (DZ es k) (((DZ es k).length:Int)-0).toNat 0 then some (.normal,Qq.put (wF f es z zb (W (k+1)) x y)) else some (rAA f es x y) else none
 else some (xAA f es z zb x y):=by kernel_rfl
def tc(es:List PV):Nat->Int->Bool
 |0,_=>true
 |m+1,k=>bif s9 (DZ es k) (((DZ es k).length:Int)-0).toNat 0 then tc es m (k+1) else false
def td:LS->Bool
 |([.l _ es,.i _,.b _,.i k],[.i _,.i _])=>PY es&&decide (0<=k)&&decide (k<=(es.length:Int))&&decide (es.length<=1000)
 |_=>false
def fAA:LS->DT (PX×List PV×List Row)
 |([.l f es,.i z,.b zb,.i k],[.i x,.i y])=>.br (tc es ((es.length:Int)-k).toNat k) (.leaf (xAA f es z zb x y)) (.leaf (rAA f es x y))
 |_=>.no
def mAA:LS->Nat
 |([.l _ es,.i _,.b _,.i k],_)=>((es.length:Int)-k).toNat
 |_=>0
theorem sAA:∀ s r,td s=true->(fAA s).run=some r->r.1≠.normal/\(Db Try.prog MY1 60 87 (Dg Try.f87 4) [0,3,4,5,6] [0,3,4,5] (Qq.put s).1 (Qq.put s).2=some r \/
   ∃ s',Db Try.prog MY1 60 87 (Dg Try.f87 4) [0,3,4,5,6] [0,3,4,5] (Qq.put s).1 (Qq.put s).2=some (.normal,Qq.put s')/\td s'=true/\mAA s'<mAA s/\(fAA s').run=some r):=by
 intro t r hp hr;unfold td at hp;split at hp
 ·rename_i f es z zb k x y;simp only[Aa,Ab]at hp;obtain⟨⟨⟨h0,h1⟩,h2⟩,h3⟩:=hp;have hr':=Oa hr;refine⟨by rw[hr'];cases tc _ _ _ <;> simp,?_⟩;rw[show(Qq.put ([.l f es,.i z,.b zb,.i k],[.i x,.i y]))=Qq.put (wF f es z zb k x y) from rfl,qAA f es z zb k x y];by_cases hk:k<(es.length:Int)
  ·obtain⟨j,hj⟩:∃ j,((es.length:Int)-k).toNat=j+1:=⟨((es.length:Int)-k).toNat-1,by omega⟩;have hj2:((es.length:Int)-(k+1)).toNat=j:=by omega
   have hs:=VA h0 h1 hk;have p7:ta (wE f es z zb k 0 x y)=true:=by
    simp only[ta,Aa,Ab];omega
   rw[Ac hk,p7,Dx (n:=k+1) (by omega) (by omega)];simp only[Aj];rw[hj]at hr';simp only[tc]at hr';cases hb:s9 (DZ es k) (((DZ es k).length:Int)-0).toNat 0 with
   |true=>
    rw[hb,Aj]at hr';refine .inr ⟨wF f es z zb (k+1) x y,rfl,?_,by simp only[mAA];omega,?_⟩
    ·simp only[td,Aa,Ab];exact⟨⟨⟨h0,by omega⟩,by omega⟩,h3⟩
    ·rw[hr'];simp only[fAA,hj2];cases tc es j (k+1) <;> rfl
   |false=>
    rw[hb,Ar,Ar]at hr';exact .inl (by rw[hr'];rfl)
  ·have hz:((es.length:Int)-k).toNat=0:=by omega
   rw[Ai hk];exact .inl (by rw[hr',hz];rfl)
 ·cases hp
def yd:CY:=MY1.Dl 87 4 [0,3,4,5,6] [true] Qq td fAA
theorem acq:CG Try.prog yd.env:=
 acp.Dl (n:=60) Try.func87 (show Try.f87.body=some (DY Try.f87) by kernel_rfl) (show(loops (DY Try.f87)).filter (fun b=>Ew b==4)=[Dg Try.f87 4] by kernel_rfl) [0,3,4,5,6] [0,3,4,5] [true] Qq mAA sAA
def gB(B:BR)(r:Int)(a b:PV)(d:Int):BR:=bif r != 0 then bif !B.s then rsB a b d else bif byE B a b then rsB a b d else B else B
theorem oM(f:Bool)(es:List PV)(z:Int)(zb:Bool)(k i x y:Int)(B:BR)(r:Int)(a b:PV)(d:Int):oL f es z zb k i x y B r a b d=eG f es z zb k i x y (gB B r a b d):=by
 unfold oL gB;cases r != 0 <;> cases !B.s <;> cases byE B a b <;> rfl
def brS(es:List PV)(k i x y:Int)(B:BR):BR:=
 bif decide (ZW (Oi es k i) (Oi es k (i+1)) x y<0) then gB B (ZW (Oi es k i) (Oi es k (i+1)) x y) (Oi es k (i+1)) (Oi es k i) (e2 (es.getD k.toNat .any)) else gB B (ZW (Oi es k i) (Oi es k (i+1)) x y) (Oi es k i) (Oi es k (i+1)) (e3 (es.getD k.toNat .any))
def te(es:List PV)(k x y:Int):Nat->Int->BR->Bool×BR
 |0,_,B=>(true,B)
 |m+1,i,B=>bif onE (Oi es k i) (Oi es k (i+1)) x y then (false,B) else te es k x y m (i+1) (brS es k i x y B)
def X0:LS->Bool
 |([.l _ es,.i _,.b _,.b _,.i k,.i i],[.i _,.i _,.i _,.i _,.i _,.i _,.i _,.i _,.i _])=>F8 es k&&decide (0<=i)&&decide (i<=((DZ es k).length:Int))&&decide ((DZ es k).length<=1000)
 |_=>false
def oN:LS->DT (PX×List PV×List Row)
 |([.l f es,.i z,.b zb,.b s,.i k,.i i],[.i x,.i y,.i a,.i b,.i c,.i d,.i e,.i f',.i g])=>
  .br (te es k x y (((DZ es k).length:Int)-1-i).toNat i ⟨s,a,b,c,d,e,f',g⟩).1 (.leaf (acm f es z zb k x y (te es k x y (((DZ es k).length:Int)-1-i).toNat i ⟨s,a,b,c,d,e,f',g⟩).2)) (.leaf (acn f es k x y (te es k x y (((DZ es k).length:Int)-1-i).toNat i ⟨s,a,b,c,d,e,f',g⟩).2))
 |_=>.no
def oO:LS->Nat
 |([.l _ es,.i _,.b _,.b _,.i k,.i i],_)=>(((DZ es k).length:Int)-1-i).toNat
 |_=>0
theorem acr(f:Bool)(es:List PV)(z:Int)(zb:Bool)(k i x y:Int)(s:Bool)(a b c d e f' g:Int):Db Try.prog yd 60 87 (Dg Try.f87 17) [0,3,4,5,8,9,10,11] [0,3,4,5,8,9,10] (I6.put (VC f es z zb k i x y ⟨s,a,b,c,d,e,f',g⟩)).1 (I6.put (VC f es z zb k i x y ⟨s,a,b,c,d,e,f',g⟩)).2 =
 bif F8 es k then bif decide (W (i+1)<((DZ es k).length:Int)) then bif F8 es k then bif F8 (DZ es k) i then bif F8 es k then bif F8 (DZ es k) (W (i+1)) then
  bif onE (Oi es k i) (Oi es k (W (i+1))) x y then some (acn f es k x y ⟨s,a,b,c,d,e,f',g⟩) else
  bif F8 es k then bif decide (ZW (Oi es k i) (Oi es k (W (i+1))) x y<0) then bif F8 es k then
   oL f es z zb k i x y ⟨s,a,b,c,d,e,f',g⟩ (ZW (Oi es k i) (Oi es k (W (i+1))) x y) (Oi es k (W (i+1))) (Oi es k i) (e2 (es.getD k.toNat .any)) else none
  else oL f es z zb k i x y ⟨s,a,b,c,d,e,f',g⟩ (ZW (Oi es k i) (Oi es k (W (i+1))) x y) (Oi es k i) (Oi es k (W (i+1))) (e3 (es.getD k.toNat .any)) else none
 else none else none else none else none else some (acm f es z zb k x y ⟨s,a,b,c,d,e,f',g⟩) else none:=by kernel_rfl
theorem ahp:∀ s r,X0 s=true->(oN s).run=some r->r.1≠.normal/\(Db Try.prog yd 60 87 (Dg Try.f87 17) [0,3,4,5,8,9,10,11] [0,3,4,5,8,9,10] (I6.put s).1 (I6.put s).2=some r \/
   ∃ s',Db Try.prog yd 60 87 (Dg Try.f87 17) [0,3,4,5,8,9,10,11] [0,3,4,5,8,9,10] (I6.put s).1 (I6.put s).2=some (.normal,I6.put s')/\X0 s'=true/\oO s'<oO s/\(oN s').run=some r):=by
 intro t r hp hr;unfold X0 at hp;split at hp
 ·rename_i f es z zb s k i x y a b c d e f' g;simp only[Aa,Ab]at hp;obtain⟨⟨⟨h0,h1⟩,h2⟩,h3⟩:=hp;have hr':=Oa hr;refine⟨by rw[hr'];cases(te _ _ _ _ _ _ _).1 <;> simp,?_⟩;have q:Db Try.prog yd 60 87 (Dg Try.f87 17) [0,3,4,5,8,9,10,11] [0,3,4,5,8,9,10] (I6.put (VC f es z zb k i x y ⟨s,a,b,c,d,e,f',g⟩)).1 (I6.put (VC f es z zb k i x y ⟨s,a,b,c,d,e,f',g⟩)).2=_:=acr f es z zb k i x y s a b c d e f' g;rw[show(I6.put ([.l f es,.i z,.b zb,.b s,.i k,.i i],[.i x,.i y,.i a,.i b,.i c,.i d,.i e,.i f',.i g]))=I6.put (VC f es z zb k i x y ⟨s,a,b,c,d,e,f',g⟩) from rfl,q,DW h0.1 h0.2];simp only[Aj,oM];rw[Dx (n:=i+1) (by omega) (by omega)];by_cases hk:i+1<((DZ es k).length:Int)
  ·obtain⟨j,hj⟩:∃ j,(((DZ es k).length:Int)-1-i).toNat=j+1:=⟨(((DZ es k).length:Int)-1-i).toNat-1,by omega⟩;have hj2:(((DZ es k).length:Int)-1-(i+1)).toNat=j:=by omega
   rw[Ac hk,DW h1 (by omega),DW (i:=i+1) (by omega) hk];simp only[Aj];rw[hj]at hr';simp only[te]at hr';cases hb:onE (Oi es k i) (Oi es k (i+1)) x y with
   |true=>
    rw[hb]at hr';simp only[Aj,Ar]at hr';exact .inl (by rw[hr'];rfl)
   |false=>
    rw[hb]at hr';simp only[Ar]at hr';refine .inr ⟨VC f es z zb k (i+1) x y (brS es k i x y ⟨s,a,b,c,d,e,f',g⟩),?_,?_,by simp only[oO];omega,?_⟩
    ·unfold brS eG;rw[Dx (n:=i+1) (by omega) (by omega)];simp only[Ar];cases decide (ZW (Oi es k i) (Oi es k (i+1)) x y<0) <;> rfl
    ·simp only[X0,Aa,Ab];omega
    ·rw[hr'];simp only[oN,hj2];generalize te es k x y j (i+1) (brS es k i x y ⟨s,a,b,c,d,e,f',g⟩)=w;cases w.1 <;> rfl
  ·have hz:(((DZ es k).length:Int)-1-i).toNat=0:=by omega
   rw[Ai hk];exact .inl (by rw[hr',hz];rfl)
 ·cases hp
def MY3:CY:=yd.Dl 87 17 [0,3,4,5,8,9,10,11] [true,true] I6 X0 oN
theorem acu:CG Try.prog MY3.env:=
 acq.Dl (n:=60) Try.func87 (show Try.f87.body=some (DY Try.f87) by kernel_rfl) (show(loops (DY Try.f87)).filter (fun b=>Ew b==17)=[Dg Try.f87 17] by kernel_rfl) [0,3,4,5,8,9,10,11] [0,3,4,5,8,9,10] [true,true] I6 oO ahp
def Kz:S1:=⟨120,[(0,.C9 159),(3,.ptr 0 1 0 0),(4,Dk),(5,.bool),(8,.bool),(9,.ptr 1 1 0 0),(10,Dk)],[.one 28 2 (.agg [Dk,Dk]),.one 161 7 (.agg [Dk,Dk,Dk,Dk,Dk,Dk,Dk])]⟩
abbrev ZX(f:Bool)(es:List PV)(z:Int)(zb:Bool)(k x y:Int)(B:BR):LS:=([.l f es,.i z,.b zb,.b B.s,.i k],[.i x,.i y,.i B.a,.i B.b,.i B.c,.i B.d,.i B.e,.i B.f,.i B.g])
abbrev acv(z:Int)(zb:Bool)(x y:Int)(B:BR):PX×List PV×List Row:=(.exit 4,tm 120 [(4,iv z),(5,bv zb),(9,.ptr 1 1 0 0)],[s8 x y,B.row])
abbrev acw(x y:Int)(B:BR):PX×List PV×List Row:=(.ret,tm 120 [(4,iv 0),(5,bv false),(9,.ptr 1 1 0 0)],[s8 x y,B.row])
abbrev wG(es:List PV)(k x y:Int)(B:BR):Bool×BR:=te es k x y (((DZ es k).length:Int)-1-0).toNat 0 B
theorem ahq(f:Bool)(es:List PV)(z:Int)(zb:Bool)(k x y:Int)(s:Bool)(a b c d e f' g:Int):Db Try.prog MY3 60 87 (Dg Try.f87 14) [0,3,4,5,8,9,10] [4,5,9] (Kz.put (ZX f es z zb k x y ⟨s,a,b,c,d,e,f',g⟩)).1 (Kz.put (ZX f es z zb k x y ⟨s,a,b,c,d,e,f',g⟩)).2 =
 bif decide (k<(es.length:Int)) then bif X0 (VC f es z zb k 0 x y ⟨s,a,b,c,d,e,f',g⟩) then
  bif (wG es k x y ⟨s,a,b,c,d,e,f',g⟩).1 then some (.normal,Kz.put (ZX f es z zb (W (k+1)) x y (wG es k x y ⟨s,a,b,c,d,e,f',g⟩).2)) else some (acw x y (wG es k x y ⟨s,a,b,c,d,e,f',g⟩).2) else none
 else some (acv z zb x y ⟨s,a,b,c,d,e,f',g⟩):=by kernel_rfl
def eH(es:List PV)(x y:Int):Nat->Int->BR->Bool×BR
 |0,_,B=>(true,B)
 |m+1,k,B=>bif (wG es k x y B).1 then eH es x y m (k+1) (wG es k x y B).2 else (false,(wG es k x y B).2)
def X2:LS->Bool
 |([.l _ es,.i _,.b _,.b _,.i k],[.i _,.i _,.i _,.i _,.i _,.i _,.i _,.i _,.i _])=>PY es&&decide (0<=k)&&decide (k<=(es.length:Int))&&decide (es.length<=1000)
 |_=>false
def oP:LS->DT (PX×List PV×List Row)
 |([.l _ es,.i z,.b zb,.b s,.i k],[.i x,.i y,.i a,.i b,.i c,.i d,.i e,.i f',.i g])=>
  .br (eH es x y ((es.length:Int)-k).toNat k ⟨s,a,b,c,d,e,f',g⟩).1 (.leaf (acv z zb x y (eH es x y ((es.length:Int)-k).toNat k ⟨s,a,b,c,d,e,f',g⟩).2)) (.leaf (acw x y (eH es x y ((es.length:Int)-k).toNat k ⟨s,a,b,c,d,e,f',g⟩).2))
 |_=>.no
def oQ:LS->Nat
 |([.l _ es,.i _,.b _,.b _,.i k],_)=>((es.length:Int)-k).toNat
 |_=>0
theorem ahr:∀ s r,X2 s=true->(oP s).run=some r->r.1≠.normal/\(Db Try.prog MY3 60 87 (Dg Try.f87 14) [0,3,4,5,8,9,10] [4,5,9] (Kz.put s).1 (Kz.put s).2=some r \/
   ∃ s',Db Try.prog MY3 60 87 (Dg Try.f87 14) [0,3,4,5,8,9,10] [4,5,9] (Kz.put s).1 (Kz.put s).2=some (.normal,Kz.put s')/\X2 s'=true/\oQ s'<oQ s/\(oP s').run=some r):=by
 intro t r hp hr;unfold X2 at hp;split at hp
 ·rename_i f es z zb s k x y a b c d e f' g;simp only[Aa,Ab]at hp;obtain⟨⟨⟨h0,h1⟩,h2⟩,h3⟩:=hp;have hr':=Oa hr;refine⟨by rw[hr'];cases(eH _ _ _ _ _ _).1 <;> simp,?_⟩;rw[show(Kz.put ([.l f es,.i z,.b zb,.b s,.i k],[.i x,.i y,.i a,.i b,.i c,.i d,.i e,.i f',.i g]))=Kz.put (ZX f es z zb k x y ⟨s,a,b,c,d,e,f',g⟩) from rfl,ahq f es z zb k x y s a b c d e f' g];by_cases hk:k<(es.length:Int)
  ·obtain⟨j,hj⟩:∃ j,((es.length:Int)-k).toNat=j+1:=⟨((es.length:Int)-k).toNat-1,by omega⟩;have hj2:((es.length:Int)-(k+1)).toNat=j:=by omega
   have hs:=VA h0 h1 hk;have p7:X0 (VC f es z zb k 0 x y ⟨s,a,b,c,d,e,f',g⟩)=true:=by
    simp only[X0,Aa,Ab];omega
   rw[Ac hk,p7,Dx (n:=k+1) (by omega) (by omega)];simp only[Aj];rw[hj]at hr';simp only[eH]at hr';generalize wG es k x y ⟨s,a,b,c,d,e,f',g⟩=w at hr';cases hb:w.1 with
   |true=>
    rw[hb,Aj]at hr';refine .inr ⟨ZX f es z zb (k+1) x y w.2,rfl,?_,by simp only[oQ];omega,?_⟩
    ·simp only[X2,Aa,Ab];exact⟨⟨⟨h0,by omega⟩,by omega⟩,h3⟩
    ·rw[hr'];simp only[oP,hj2];show(DT.br (eH es x y j (k+1) w.2).1 _ _).run=_
     generalize eH es x y j (k+1) w.2=v;cases v.1 <;> rfl
   |false=>
    rw[hb,Ar]at hr';simp only[Ar]at hr';exact .inl (by rw[hr'];rfl)
  ·have hz:((es.length:Int)-k).toNat=0:=by omega
   rw[Ai hk];exact .inl (by rw[hr',hz];rfl)
 ·cases hp
def MY4:CY:=MY3.Dl 87 14 [0,3,4,5,8,9,10] [true,true] Kz X2 oP
theorem tf:CG Try.prog MY4.env:=
 acu.Dl (n:=60) Try.func87 (show Try.f87.body=some (DY Try.f87) by kernel_rfl) (show(loops (DY Try.f87)).filter (fun b=>Ew b==14)=[Dg Try.f87 14] by kernel_rfl) [0,3,4,5,8,9,10] [4,5,9] [true,true] Kz oQ ahr
abbrev wH:BR:=⟨false,0,0,0,0,0,0,0⟩
theorem aht(f:Bool)(es:List PV)(x y:Int):DD Try.prog MY4 60 87 [.C9 f 159 es,F0 x y] =
 bif !Zm x y 1 then some (.El [iv 0,bv false]) else bif td (wF f es 0 false 0 x y) then bif tc es ((es.length:Int)-0).toNat 0 then
  bif X2 (ZX f es 0 false 0 x y wH) then bif (eH es x y ((es.length:Int)-0).toNat 0 wH).1 then some (.El [iv (eH es x y ((es.length:Int)-0).toNat 0 wH).2.g,bv true]) else some (.El [iv 0,bv false]) else none
 else some (.El [iv 0,bv false]) else none:=by kernel_rfl
def ku(es:List PV)(x y:Int):Bool:=bif !Zm x y 1 then false else bif tc es ((es.length:Int)-0).toNat 0 then (eH es x y ((es.length:Int)-0).toNat 0 wH).1 else false
def fc(es:List PV)(x y:Int):Int:=bif ku es x y then (eH es x y ((es.length:Int)-0).toNat 0 wH).2.g else 0
theorem tg(f:Bool){es:List PV}(x y:Int)(h:PY es=true)(hl:es.length<=1000):DD Try.prog MY4 60 87 [.C9 f 159 es,F0 x y]=some (.El [iv (fc es x y),bv (ku es x y)]):=by
 have h1:td (wF f es 0 false 0 x y)=true:=by
  simp only[td,Aa,Ab];exact⟨⟨⟨h,by omega⟩,by omega⟩,hl⟩
 have h2:X2 (ZX f es 0 false 0 x y wH)=true:=by
  simp only[X2,Aa,Ab];exact⟨⟨⟨h,by omega⟩,by omega⟩,hl⟩
 rw[aht,h1,h2];unfold fc ku;cases Zm x y 1 <;> cases tc es ((es.length:Int)-0).toNat 0 <;> cases(eH es x y ((es.length:Int)-0).toNat 0 wH).1 <;> rfl
def wJ:List PV->Option (DT PV)
 | [.C9 _ 159 es,.agg [.val (.int .i64 x),.val (.int .i64 y)]]=>some (.br (PY es&&decide (es.length<=1000)) (.leaf (.El [iv (fc es x y),bv (ku es x y)])) .no)
 |_=>none
theorem ahu:Hx.Dd Try.prog 87:=(Cy tf (n:=60) (tg false (es:=[]) 0 0 rfl (by simp))).1
theorem ahv(args:List PV)(d:DT PV)(r:PV)(h:wJ args=some d)(hr:d.run=some r):Dr Try.prog 87 args r:=by
 unfold wJ at h;split at h
 ·rename_i f es x y;cases h;obtain⟨h1,rfl⟩:=DN hr;rw[Aa,Ab]at h1;exact(Cy tf (n:=60) (tg f x y h1.1 h1.2)).2
 ·cases h
theorem cA{es:List PV}(h:PY es=true):∀(m:Nat) (k:Int) (s:Bool×List PV),0<=k->k+m<=(es.length:Int)->(∀ e∈s.2,((e.cellAt 1).Tf).length<=1000)->∀ e∈(sW es m k s).2,((e.cellAt 1).Tf).length<=1000
 |0,_,_,_,_,h2=>h2
 |m+1,k,s,h0,h1,h2=>cA h m (k+1) _ (by omega) (by omega) (fun e he=>by
   rcases A3.1 he with he |he
   ·exact h2 e he
   ·rw[AI]at he;subst he;show(((ssE es k).drop 0).take (DZ es k).length).length<=1000
    have:=VA h h0 (by omega);rw[Az];omega)
theorem wK{es:List PV}(h:PY es=true):PY (Qo es)=true:=by
 unfold PY;rw[Ao];intro e he;exact Ac (cA h ((es.length:Int)-0).toNat 0 (true,[]) (by omega) (by omega) (by intro e he;cases he) e he)
def MZ1:CY:=(M7.DE 88 wC).DE 87 wJ
theorem th:CG Try.prog MZ1.env:=(IP.DE ahl ahm).DE ahu ahv
theorem qAt(f:Bool)(es:List PV)(x y:Int):DD Try.prog MZ1 60 79 [.C9 f 147 es,F0 x y] =
 bif PY es&&decide (es.length<=1000) then bif PY (Qo es)&&decide ((Qo es).length<=1000) then some (.El [iv (fc (Qo es) x y),bv (ku (Qo es) x y)]) else none else none:=by kernel_rfl
theorem acx(f:Bool){es:List PV}(x y:Int)(h:PY es=true)(hl:es.length<=1000):DD Try.prog MZ1 60 79 [.C9 f 147 es,F0 x y]=some (.El [iv (fc (Qo es) x y),bv (ku (Qo es) x y)]):=by
 rw[qAt,h,wK h,VB,Ac hl];rfl
def cAt:List PV->Option (DT PV)
 | [.C9 _ 147 es,.agg [.val (.int .i64 x),.val (.int .i64 y)]]=>some (.br (PY es&&decide (es.length<=1000)) (.leaf (.El [iv (fc (Qo es) x y),bv (ku (Qo es) x y)])) .no)
 |_=>none
theorem eAt:Hx.Dd Try.prog 79:=(Cy th (n:=60) (acx false (es:=[]) 0 0 rfl (by simp))).1
theorem oAt(args:List PV)(d:DT PV)(r:PV)(h:cAt args=some d)(hr:d.run=some r):Dr Try.prog 79 args r:=by
 unfold cAt at h;split at h
 ·rename_i f es x y;cases h;obtain⟨h1,rfl⟩:=DN hr;rw[Aa,Ab]at h1;exact(Cy th (n:=60) (acx f x y h1.1 h1.2)).2
 ·cases h
def Ob:S1:=⟨27,[(1,Dk),(2,.ptr 0 1 0 0),(4,Dk),(5,Dk)],[.GJ 73 4 (.agg [.C9 147,.C9 106,.C9 49,.nil])]⟩
abbrev oR(id z k:Int)(g:Bool)(E:List PV)(f:Bool)(F:List PV)(h:Bool)(D:List PV):LS:=([.i id,.i z,.i k],[.l g E,.l f F,.l h D])
abbrev xFd(z:Int)(g:Bool)(E:List PV)(f:Bool)(F:List PV)(h:Bool)(D:List PV):PX×List PV×List Row:=(.exit 0,tm 27 [(4,iv z)],(Ob.put (oR 0 0 0 g E f F h D)).2)
abbrev rFd(z:Int)(g:Bool)(E:List PV)(f:Bool)(F:List PV)(h:Bool)(D:List PV):PX×List PV×List Row:=(.ret,tm 27 [(4,iv z)],(Ob.put (oR 0 0 0 g E f F h D)).2)
theorem qFd(id z k:Int)(g:Bool)(E:List PV)(f:Bool)(F:List PV)(h:Bool)(D:List PV):Db Try.prog M7 60 80 (Dg Try.f80 2) [1,2,4,5] [4] (Ob.put (oR id z k g E f F h D)).1 (Ob.put (oR id z k g E f F h D)).2 =
 bif decide (k<(F.length:Int)) then bif F8 F k then bif ((F.getD k.toNat .any).cellAt 0).DL==id then bif F8 F k then some (rFd ((F.getD k.toNat .any).cellAt 4).DL g E f F h D) else none
  else some (.normal,Ob.put (oR id z (W (k+1)) g E f F h D)) else none
 else some (xFd z g E f F h D):=by kernel_rfl
def lK(F:List PV)(id:Int):Nat->Int->Option Int
 |0,_=>none
 |m+1,k=>bif ((F.getD k.toNat .any).cellAt 0).DL==id then some ((F.getD k.toNat .any).cellAt 4).DL else lK F id m (k+1)
def ti:LS->Bool
 |([.i _,.i _,.i k],[.l _ _,.l _ F,.l _ _])=>decide (0<=k)&&decide (k<=(F.length:Int))&&decide (F.length<=1000)
 |_=>false
def fFd:LS->DT (PX×List PV×List Row)
 |([.i id,.i z,.i k],[.l g E,.l f F,.l h D])=>.br (lK F id ((F.length:Int)-k).toNat k).isSome (.leaf (rFd ((lK F id ((F.length:Int)-k).toNat k).getD 0) g E f F h D)) (.leaf (xFd z g E f F h D))
 |_=>.no
def mFd:LS->Nat
 |([.i _,.i _,.i k],[.l _ _,.l _ F,.l _ _])=>((F.length:Int)-k).toNat
 |_=>0
theorem sFd:∀ s r,ti s=true->(fFd s).run=some r->r.1≠.normal/\(Db Try.prog M7 60 80 (Dg Try.f80 2) [1,2,4,5] [4] (Ob.put s).1 (Ob.put s).2=some r \/
   ∃ s',Db Try.prog M7 60 80 (Dg Try.f80 2) [1,2,4,5] [4] (Ob.put s).1 (Ob.put s).2=some (.normal,Ob.put s')/\ti s'=true/\mFd s'<mFd s/\(fFd s').run=some r):=by
 intro t r hp hr;unfold ti at hp;split at hp
 ·rename_i id z k g E f F h D;simp only[Aa,Ab]at hp;obtain⟨⟨h1,h2⟩,h3⟩:=hp;have hr':=Oa hr;refine⟨by rw[hr'];cases(lK _ _ _ _).isSome <;> simp,?_⟩;rw[show(Ob.put ([.i id,.i z,.i k],[.l g E,.l f F,.l h D]))=Ob.put (oR id z k g E f F h D) from rfl,qFd];by_cases hk:k<(F.length:Int)
  ·obtain⟨j,hj⟩:∃ j,((F.length:Int)-k).toNat=j+1:=⟨((F.length:Int)-k).toNat-1,by omega⟩;have hj2:((F.length:Int)-(k+1)).toNat=j:=by omega
   rw[Ac hk,DW h1 hk,Dx (n:=k+1) (by omega) (by omega)];simp only[Aj];rw[hj]at hr';simp only[lK]at hr';cases hb:((F.getD k.toNat .any).cellAt 0).DL==id with
   |true=>
    rw[hb]at hr';simp only[Aj,Cg,Bx]at hr';exact .inl (by rw[hr'];rfl)
   |false=>
    rw[hb]at hr';simp only[Ar]at hr';refine .inr ⟨oR id z (k+1) g E f F h D,rfl,?_,by simp only[mFd];omega,?_⟩
    ·simp only[ti,Aa,Ab];omega
    ·rw[hr'];simp only[fFd,hj2];generalize lK F id j (k+1)=w;cases w <;> rfl
  ·have hz:((F.length:Int)-k).toNat=0:=by omega
   rw[Ai hk];exact .inl (by rw[hr',hz];rfl)
 ·cases hp
def MW1:CY:=M7.Dl 80 2 [1,2,4,5] [true] Ob ti fFd
theorem tj:CG Try.prog MW1.env:=
 IP.Dl (n:=60) Try.func80 (show Try.f80.body=some (DY Try.f80) by kernel_rfl) (show(loops (DY Try.f80)).filter (fun b=>Ew b==2)=[Dg Try.f80 2] by kernel_rfl) [1,2,4,5] [4] [true] Ob mFd sFd
abbrev oS(g:Bool)(E:List PV)(f:Bool)(F:List PV)(h:Bool)(D:List PV):PV:=.agg [.C9 g 147 E,.C9 f 106 F,.C9 h 49 D,.val (.slice none 0 0)]
theorem ahz(g:Bool)(E:List PV)(f:Bool)(F:List PV)(h:Bool)(D:List PV)(id:Int):DD Try.prog MW1 60 80 [oS g E f F h D,iv id] =
 bif ti (oR id 0 0 g E f F h D) then bif (lK F id ((F.length:Int)-0).toNat 0).isSome then some (iv ((lK F id ((F.length:Int)-0).toNat 0).getD 0)) else some (iv 0) else none:=by kernel_rfl
def oT(F:List PV)(id:Int):Int:=(lK F id ((F.length:Int)-0).toNat 0).getD 0
theorem tk(g:Bool)(E:List PV)(f:Bool){F:List PV}(h:Bool)(D:List PV)(id:Int)(hl:F.length<=1000):DD Try.prog MW1 60 80 [oS g E f F h D,iv id]=some (iv (oT F id)):=by
 have h1:ti (oR id 0 0 g E f F h D)=true:=by
  simp only[ti,Aa,Ab];omega
 rw[ahz,h1];unfold oT;cases lK F id ((F.length:Int)-0).toNat 0 <;> rfl
def wM:List PV->Option (DT PV)
 | [.agg [.C9 _ 147 _,.C9 _ 106 F,.C9 _ 49 _,.val (.slice none 0 0)],.val (.int .i64 id)]=>some (.br (decide (F.length<=1000)) (.leaf (iv (oT F id))) .no)
 |_=>none
theorem ahA:Hx.Dd Try.prog 80:=(Cy tj (n:=60) (tk false [] false (F:=[]) false [] 0 (by simp))).1
theorem ahB(args:List PV)(d:DT PV)(r:PV)(h:wM args=some d)(hr:d.run=some r):Dr Try.prog 80 args r:=by
 unfold wM at h;split at h
 ·rename_i g E f F h' D id;cases h;obtain⟨h1,rfl⟩:=DN hr;exact(Cy tj (n:=60) (tk g E f h' D id (AN h1))).2
 ·cases h
theorem kx(f:Bool)(ls:List PV)(k:Int):DD Try.prog M7 60 54 [.C9 f 38 ls,iv k] =
 bif decide (k ≥ (ls.length:Int)) then some (.val (.slice none 0 0)) else bif F8 ls k then some (.C9 false 3 ((ls.getD k.toNat .any).cellAt 0).Tf) else none:=by kernel_rfl
theorem oU{ls:List PV}{k:Nat}(h:ls.length<=k):nth ls k=[]:=by
 unfold nth;rw[Av,AG h];rfl
def ky:List PV->Option (DT PV)
 | [.C9 _ 38 ls,.val (.int .i64 k)]=>some (.br (decide (0<=k)) (.leaf (.C9 false 3 (nth ls k.toNat))) .no)
 |_=>none
theorem acy:Hx.Dd Try.prog 54:=(Cy IP (n:=60) ((kx false [] 0).trans (by rfl))).1
theorem acz(args:List PV)(d:DT PV)(r:PV)(h:ky args=some d)(hr:d.run=some r):Dr Try.prog 54 args r:=by
 unfold ky at h;split at h
 ·rename_i f ls k;cases h;obtain⟨h1,rfl⟩:=DN hr;have h0:=AN h1;by_cases hk:k ≥ (ls.length:Int)
  ·rw[oU (by omega)];exact OI (Cy IP (n:=60) ((kx f ls k).trans (by rw[Ac hk];rfl))).2
  ·exact(Cy IP (n:=60) ((kx f ls k).trans (by rw[Ai hk,DW h0 (by omega)];rfl))).2
 ·cases h
def MW2:CY:=(M7.FF 77 19 4).Iz 77 19 [12,13,14,15,16,17,18,19,20,21,22,23,24,25,26,27,28,29,30,31,32,33,34,35,36,37,38,39,40,41,42,43,44,45,46,47,48,49,50,51,52,53,54,55,56,57,58,59,60,61,62,63,64,65,66,67,68,69,70,71,72,73,74,75,76,77,78,79,80,81,82,83,84,85,86,87,88,89,90,91,92,93,94,95,96,97,98,99,100,101,102,103,104,105,106,107,108,109,110,111,112,113,114,115,116,117,118]
theorem acB:CG Try.prog MW2.env:=(IP.FF 77 19 4).Iz 77 19 [12,13,14,15,16,17,18,19,20,21,22,23,24,25,26,27,28,29,30,31,32,33,34,35,36,37,38,39,40,41,42,43,44,45,46,47,48,49,50,51,52,53,54,55,56,57,58,59,60,61,62,63,64,65,66,67,68,69,70,71,72,73,74,75,76,77,78,79,80,81,82,83,84,85,86,87,88,89,90,91,92,93,94,95,96,97,98,99,100,101,102,103,104,105,106,107,108,109,110,111,112,113,114,115,116,117,118]
abbrev wO(nl:Bool)(es:List PV):Row:={ es,s:=8,t:=49,bv:=true,nl }
def O4:S1:=⟨123,[(0,.sl 0),(4,.ptr 1 1 0 0),(6,.ptr 2 1 0 0),(7,.ptr 3 1 0 0),(11,.ptr 5 1 0 0),(12,Dk),(13,Dk)],[.many 49 8,.one 103 2 (.agg [.C9 3,Dk]),.one 28 2 aP,.one 28 2 aP,.many 28 2,.GJ 49 8 (.agg [Dk,.sl 4,Dk,.str,.str,.bool,Dk,Dk])]⟩
abbrev tn(n l:Nat)(m k:Int)(nl:Bool)(es:List PV)(f:Bool)(L:List PV)(a ax ay bx b':Int)(u:Bool)(ps:List PV)(id:Int)(p q:Nat)(lv:Int)(s3 s4:ByteArray)(st:Bool)(c6 c7:Int):LS:=
 ([.n n,.n l,.i m,.i k],[.l nl es,.l f L,.i a,.i ax,.i ay,.i bx,.i b',.l u ps,.i id,.n p,.n q,.i lv,.s s3,.s s4,.b st,.i c6,.i c7])
abbrev xWa(n l:Nat)(nl:Bool)(es:List PV)(f:Bool)(L:List PV)(a ax ay bx b':Int)(u:Bool)(ps:List PV)(id:Int)(p q:Nat)(lv:Int)(s3 s4:ByteArray)(st:Bool)(c6 c7:Int):PX×List PV×List Row:=
 (.exit 0,tm 123 [(0,.sl 0 n 0 l),(4,.ptr 1 1 0 0),(7,.ptr 3 1 0 0),(11,.ptr 5 1 0 0)],(O4.put (tn n l 0 0 nl es f L a ax ay bx b' u ps id p q lv s3 s4 st c6 c7)).2)
def wyP(ax ay bx b' m k d:Int):PV:=F0 (bif ax==bx then W (T9 ax (W (bx-ax)) m k+W (d-8)) else T9 ax (W (bx-ax)) m k) (bif ay==b' then W (T9 ay (W (b'-ay)) m k+W (d-8)) else T9 ay (W (b'-ay)) m k)
abbrev cB(ps:List PV)(p q:Nat):Bool:=true&&decide (ps.length=p)&&decide (p=q)&&decide ((p+1)*16<=140737488355328)
def nWa(n l:Nat)(m k:Int)(nl:Bool)(es:List PV)(f:Bool)(L:List PV)(a ax ay bx b':Int)(u:Bool)(ps:List PV)(id:Int)(p q:Nat)(lv:Int)(s3 s4:ByteArray)(st:Bool)(c6 c7:Int)(X Y:Int):Option (PX×List PV×List Row):=
 bif cB ps p q then some (.normal,O4.put (tn n l m (W (k+1)) nl es (fI f L a) L (aI L a) ax ay bx b' (u&&false) (ps++[F0 X Y]) id (p+1) (p+1) lv s3 s4 st c6 c7)) else none
theorem qWa(n l:Nat)(m k:Int)(nl:Bool)(es:List PV)(f:Bool)(L:List PV)(a ax ay bx b':Int)(u:Bool)(ps:List PV)(id:Int)(p q:Nat)(lv:Int)(s3 s4:ByteArray)(st:Bool)(c6 c7:Int):
 Db Try.prog MW2 60 77 (Dg Try.f77 4) [0,4,6,7,11,12,13] [0,4,7,11] (O4.put (tn n l m k nl es f L a ax ay bx b' u ps id p q lv s3 s4 st c6 c7)).1 (O4.put (tn n l m k nl es f L a ax ay bx b' u ps id p q lv s3 s4 st c6 c7)).2 =
 bif decide (k<=m) then bif true && !decide (W (m+1)=0) then bif true && !decide (W (m+1)=0) then bif E3 a 17 then
  bif ay==b' then
   bif ax==bx then nWa n l m k nl es f L a ax ay bx b' u ps id p q lv s3 s4 st c6 c7 (W (T9 ax (W (bx-ax)) m k+W (dI L a 17-8))) (W (T9 ay (W (b'-ay)) m k+W (dI L a 17-8))) else nWa n l m k nl es f L a ax ay bx b' u ps id p q lv s3 s4 st c6 c7 (T9 ax (W (bx-ax)) m k) (W (T9 ay (W (b'-ay)) m k+W (dI L a 17-8)))
  else
   bif ax==bx then nWa n l m k nl es f L a ax ay bx b' u ps id p q lv s3 s4 st c6 c7 (W (T9 ax (W (bx-ax)) m k+W (dI L a 17-8))) (T9 ay (W (b'-ay)) m k) else nWa n l m k nl es f L a ax ay bx b' u ps id p q lv s3 s4 st c6 c7 (T9 ax (W (bx-ax)) m k) (T9 ay (W (b'-ay)) m k)
 else none else none else none else some (xWa n l nl es f L a ax ay bx b' u ps id p q lv s3 s4 st c6 c7):=by kernel_rfl
def wP(ax ay bx b' m:Int)(L:List PV):Nat->Int->Int->List PV
 |0,_,_=>[]
 |j+1,k,a=>wyP ax ay bx b' m k (dI L a 17)::wP ax ay bx b' m L j (k+1) (aI L a)
theorem cC{ax ay bx b' m:Int}{L:List PV}:∀{j:Nat} {k a:Int},(wP ax ay bx b' m L j k a).length=j
 |0,_,_=>rfl
 |j+1,k,a=>by rw[wP,As,cC]
def tp:LS->Bool
 |([.n _,.n _,.i m,.i k],[.l _ _,.l _ _,.i a,.i _,.i _,.i _,.i _,.l u ps,.i _,.n p,.n q,.i _,.s _,.s _,.b _,.i _,.i _])=>decide (p=ps.length)&&decide (q=ps.length)&&decide (0<=m)&&decide (m<=2)&&decide (1<=k)&&decide (k<=m+1)&&decide ((ps.length:Int)<=10+k)&&decide (0<=a)&&decide (a<=1000000000+k) && !u
 |_=>false
def fWa:LS->DT (PX×List PV×List Row)
 |([.n n,.n l,.i m,.i k],[.l nl es,.l f L,.i a,.i ax,.i ay,.i bx,.i b',.l _ ps,.i id,.n _,.n _,.i lv,.s s3,.s s4,.b st,.i c6,.i c7])=>
  .leaf (xWa n l nl es (f1 f L a (m+1-k).toNat) L (a1 L a (m+1-k).toNat) ax ay bx b' false (ps++wP ax ay bx b' m L (m+1-k).toNat k a) id (ps.length+(m+1-k).toNat) (ps.length+(m+1-k).toNat) lv s3 s4 st c6 c7)
 |_=>.no
def mWa:LS->Nat
 |([.n _,.n _,.i m,.i k],_)=>(m+1-k).toNat
 |_=>0
theorem sWa:∀ s r,tp s=true->(fWa s).run=some r->r.1≠.normal/\(Db Try.prog MW2 60 77 (Dg Try.f77 4) [0,4,6,7,11,12,13] [0,4,7,11] (O4.put s).1 (O4.put s).2=some r \/
   ∃ s',Db Try.prog MW2 60 77 (Dg Try.f77 4) [0,4,6,7,11,12,13] [0,4,7,11] (O4.put s).1 (O4.put s).2=some (.normal,O4.put s')/\tp s'=true/\mWa s'<mWa s/\(fWa s').run=some r):=by
 intro t r hp hr;unfold tp at hp;split at hp
 ·rename_i n l m k nl es f L a ax ay bx b' u ps id p q lv s3 s4 st c6 c7;simp only[Aa,Ab,Am]at hp;obtain⟨⟨⟨⟨⟨⟨⟨⟨⟨rfl,rfl⟩,h2⟩,h3⟩,h4⟩,h5⟩,h6⟩,h7⟩,h8⟩,rfl⟩:=hp;have hr':=(Ah hr).symm;refine⟨by rw[hr'];simp,?_⟩;rw[show(O4.put ([.n n,.n l,.i m,.i k],[.l nl es,.l f L,.i a,.i ax,.i ay,.i bx,.i b',.l false ps,.i id,.n ps.length,.n ps.length,.i lv,.s s3,.s s4,.b st,.i c6,.i c7]))=O4.put (tn n l m k nl es f L a ax ay bx b' false ps id ps.length ps.length lv s3 s4 st c6 c7) from rfl,qWa];by_cases hi:k<=m
  ·obtain⟨j,hj⟩:∃ j,(m+1-k).toNat=j+1:=⟨(m+1-k).toNat-1,by omega⟩;have hj2:(m+1-(k+1)).toNat=j:=by omega
   have hroom:cB ps ps.length ps.length=true:=by show(true&&_&&_&&_)=true;simp;omega
   have hok:E3 a 17=true:=by unfold E3;simp;omega
   have ha:=F7 L a;rw[Ac hi,hok,show(!decide (W (m+1)=0))=true by rw[Dx (n:=m+1) (by omega) (by omega)];simp;omega];simp only[Bg,Aj];unfold nWa;rw[hroom,Dx (n:=k+1) (by omega) (by omega)];simp only[Aj];rw[hj]at hr';simp only[wP]at hr';refine .inr ⟨tn n l m (k+1) nl es (fI f L a) L (aI L a) ax ay bx b' (false&&false) (ps++[wyP ax ay bx b' m k (dI L a 17)]) id (ps.length+1) (ps.length+1) lv s3 s4 st c6 c7,?_,?_,by simp only[mWa];omega,?_⟩
   ·unfold wyP;cases ax==bx <;> cases ay==b' <;> rfl
   ·simp only[tp,Aa,Ab,Ap,As,AB,Am,BC];exact⟨⟨⟨⟨⟨⟨⟨⟨⟨trivial,trivial⟩,h2⟩,h3⟩,by omega⟩,by omega⟩,by omega⟩,by omega⟩,by omega⟩,trivial⟩
   ·rw[hr'];simp only[fWa,hj2,DT.run,Ap,As,AB,Bu,List.cons_append,A9,QJ,NX];rw[show ps.length+(0+1)+j=ps.length+(j+1) by omega]
  ·have hz:(m+1-k).toNat=0:=by omega
   rw[Ai hi];exact .inl (by rw[hr',hz];simp only[wP,BL,BA,f1,a1];rfl)
 ·cases hp
def MW3:CY:=MW2.Dl 77 4 [0,4,6,7,11,12,13] [false,true,true,true,false,true] O4 tp fWa
theorem tq:CG Try.prog MW3.env:=
 acB.Dl (n:=60) Try.func77 (show Try.f77.body=some (DY Try.f77) by kernel_rfl) (show(loops (DY Try.f77)).filter (fun b=>Ew b==4)=[Dg Try.f77 4] by kernel_rfl) [0,4,6,7,11,12,13] [0,4,7,11] [false,true,true,true,false,true] O4 mWa sWa
abbrev acD:List PV:=[.val (.string ⟨#[112,97,116,104]⟩),.val (.string ⟨#[114,111,97,100]⟩)]
abbrev acE:List PV:=[.val (.string ⟨#[]⟩),.val (.string ⟨#[]⟩),.val (.string ⟨#[82,105,110,103]⟩),.val (.string ⟨#[79,108,100,32,87,97,121]⟩)]
def X3(L:List PV)(a:Int):Nat:=(dI L a 3+1-1).toNat
abbrev Na(L:List PV)(a:Int):Int:=a1 L (aI L a) (X3 L a)
abbrev wyF(f:Bool)(L:List PV)(a:Int):Bool:=f1 (fI f L a) L (aI L a) (X3 L a)
abbrev SU(ax ay bx b':Int)(L:List PV)(a:Int):List PV:=[F0 ax ay]++wP ax ay bx b' (dI L a 3) L (X3 L a) 1 (aI L a)
abbrev wQ(ps:List PV)(k:Nat)(i lv:Int)(L:List PV)(c:Int):PV:=
 .agg [iv (W (41+i)),.C9 false 28 ((ps.drop 0).take k),iv lv,.val (.string ((acD.getD (0+(dI L (a1 L c 0) 2).toNat) .any).cellAt 0).GU),.val (.string ((acE.getD (0+(dI L (a1 L c 1) 4).toNat) .any).cellAt 0).GU),
  bv (dI L (a1 L c 2) 4==0),iv (W (1+dI L (a1 L c 3) 60)),iv (W (1+W (dI L (a1 L c 4) 3*dI L (a1 L c 5) 2)))]
abbrev VD(L:List PV)(c n:Int):Bool:=decide (0<=dI L c n)&&decide (dI L c n<n)
theorem ahE(n l:Nat)(nl:Bool)(es:List PV)(ax ay bx b' lv:Int)(f:Bool)(L:List PV)(a:Int):Jx Try.prog MW3 60 77 [.sl 0 n 0 l,F0 ax ay,F0 bx b',iv lv,.ptr 1 1 0 0] [wO nl es,Ic f L a] =
 bif E3 a 3 then bif tp (tn n l (dI L a 3) 1 nl es (fI f L a) L (aI L a) ax ay bx b' false [F0 ax ay] (W (41+(l:Int))) 1 1 lv .empty .empty false 0 0) then
 bif cB (SU ax ay bx b' L a) (1+X3 L a) (1+X3 L a) then bif E3 (a1 L (Na L a) 0) 2 then bif VD L (a1 L (Na L a) 0) 2 then bif E3 (a1 L (Na L a) 1) 4 then bif VD L (a1 L (Na L a) 1) 4 then
 bif E3 (a1 L (Na L a) 2) 4 then bif E3 (a1 L (Na L a) 3) 60 then bif E3 (a1 L (Na L a) 4) 3 then bif E3 (a1 L (Na L a) 5) 2 then
 bif ((((SU ax ay bx b' L a++[F0 bx b']).length==(1+X3 L a)+1)&&true)&&true)&&true then
 bif true&&decide (es.length=n)&&decide (n=l)&&decide ((n+1)*96<=140737488355328) then
  some (.sl 0 (n+1) 0 (n+1),[wO (nl&&false) (es++[wQ (SU ax ay bx b' L a++[F0 bx b']) ((1+X3 L a)+1) (l:Int) lv L (Na L a)]),Ic (f1 (wyF f L a) L (Na L a) 6) L (a1 L (Na L a) 6)])
 else none else none else none else none else none else none else none else none else none else none else none else none else none:=by kernel_rfl
theorem ZY(L:List PV)(a:Int):X3 L a<=2:=by
 have:=IF L a (n:=3) (by omega);unfold X3;omega
theorem Oc(ax ay bx b':Int)(L:List PV)(a:Int):(SU ax ay bx b' L a).length=1+X3 L a:=by
 rw[Ap,cC];rfl
def oV(ax ay bx b' lv:Int)(i:Nat)(L:List PV)(a:Int):PV:=
 .agg [iv (41+(i:Int)),.C9 false 28 (SU ax ay bx b' L a++[F0 bx b']),iv lv,.val (.string ((acD.getD (0+(dI L (a1 L (Na L a) 0) 2).toNat) .any).cellAt 0).GU),.val (.string ((acE.getD (0+(dI L (a1 L (Na L a) 1) 4).toNat) .any).cellAt 0).GU),
  bv (dI L (a1 L (Na L a) 2) 4==0),iv (W (1+dI L (a1 L (Na L a) 3) 60)),iv (W (1+W (dI L (a1 L (Na L a) 4) 3*dI L (a1 L (Na L a) 5) 2)))]
def Uq(ax ay bx b' lv:Int)(L:List PV)(s:EV):EV:=
 (s.1++[oV ax ay bx b' lv s.1.length L s.2.2.1],f1 (wyF s.2.1 L s.2.2.1) L (Na L s.2.2.1) 6,a1 L (Na L s.2.2.1) 6,false)
theorem tu(ax ay bx b' lv:Int)(L:List PV)(s:EV):s.2.2.1<=(Uq ax ay bx b' lv L s).2.2.1/\(Uq ax ay bx b' lv L s).2.2.1<=s.2.2.1+9:=by
 have h1:=F7 L s.2.2.1;have h2:=Hu L (aI L s.2.2.1) (X3 L s.2.2.1);have h3:=Hu L (Na L s.2.2.1) 6;have h4:=ZY L s.2.2.1;show _<=a1 L (Na L s.2.2.1) 6/\a1 L (Na L s.2.2.1) 6<=_
 change _<=Na L s.2.2.1/\Na L s.2.2.1<=_ at h2
 omega
def VE(n l:Nat)(es:List PV)(a:Int):Bool:=decide (n=es.length)&&decide (l=es.length)&&decide (es.length<=1000)&&decide (0<=a)&&decide (a<=1000000)
theorem acF{n l:Nat}{nl:Bool}{es:List PV}(ax ay bx b' lv:Int){f:Bool}{L:List PV}{a:Int}(h:VE n l es a=true):Jx Try.prog MW3 60 77 [.sl 0 n 0 l,F0 ax ay,F0 bx b',iv lv,.ptr 1 1 0 0] [wO nl es,Ic f L a] =
  some (.sl 0 (es.length+1) 0 (es.length+1),[wO false (Uq ax ay bx b' lv L (es,f,a,nl)).1,Ic (Uq ax ay bx b' lv L (es,f,a,nl)).2.1 L (Uq ax ay bx b' lv L (es,f,a,nl)).2.2.1]):=by
 unfold VE at h;simp only[Aa,Ab]at h;obtain⟨⟨⟨⟨rfl,rfl⟩,h1⟩,h2⟩,h3⟩:=h;have i1:=F7 L a;have i2:=Hu L (aI L a) (X3 L a);have i3:=ZY L a;have d1:=I4 L a (n:=3) (by omega);have d2:=IF L a (n:=3) (by omega);change _<=Na L a/\Na L a<=_ at i2
 have ok:∀(k:Nat) (n:Int),k<=6->0<n->n<=100->E3 (a1 L (Na L a) k) n=true:=fun k n hk hn hn2=>by
  have:=Hu L (Na L a) k;unfold E3;simp;omega
 have ind:∀(k:Nat) (n:Int),0<n->VD L (a1 L (Na L a) k) n=true:=fun k n hn=>by
  rw[Aa];exact⟨Ac (I4 _ _ hn),Ac (IF _ _ hn)⟩
 have p1:tp (tn es.length es.length (dI L a 3) 1 nl es (fI f L a) L (aI L a) ax ay bx b' false [F0 ax ay] (W (41+(es.length:Int))) 1 1 lv .empty .empty false 0 0)=true:=by
  simp only[tp,Aa,Ab,As,AB,Am];exact⟨⟨⟨⟨⟨⟨⟨⟨⟨trivial,trivial⟩,by omega⟩,by omega⟩,by omega⟩,by omega⟩,by omega⟩,by omega⟩,by omega⟩,trivial⟩
 have p2:cB (SU ax ay bx b' L a) (1+X3 L a) (1+X3 L a)=true:=by
  show(true&&_&&_&&_)=true
  rw[Oc];simp;omega
 have p3:(((((SU ax ay bx b' L a++[F0 bx b']).length==(1+X3 L a)+1)&&true)&&true)&&true)=true:=by
  rw[Ap,Oc];simp
 rw[ahE,show E3 a 3=true by unfold E3;simp;omega,p1,p2,ok 0 2 (by omega) (by omega) (by omega),ind 0 2 (by omega),ok 1 4 (by omega) (by omega) (by omega),ind 1 4 (by omega),ok 2 4 (by omega) (by omega) (by omega),ok 3 60 (by omega) (by omega) (by omega),ok 4 3 (by omega) (by omega) (by omega),ok 5 2 (by omega) (by omega) (by omega),p3,
  show(true&&decide (es.length=es.length)&&decide (es.length=es.length)&&decide ((es.length+1)*96<=140737488355328))=true by simp;omega]
 simp only[Aj];have e1:(((SU ax ay bx b' L a++[F0 bx b']).drop 0).take ((1+X3 L a)+1))=SU ax ay bx b' L a++[F0 bx b']:=by
  rw[AF,A7 (by rw[Ap,Oc];simp)]
 have e2:wQ (SU ax ay bx b' L a++[F0 bx b']) ((1+X3 L a)+1) (es.length:Int) lv L (Na L a)=oV ax ay bx b' lv es.length L a:=by
  unfold wQ oV;rw[e1,Dx (n:=41+(es.length:Int)) (by omega) (by omega)]
 rw[e2,BC];rfl
def cWay':List PV->List Row->Option (DT (PV×List Row))
 | [.sl 0 n 0 l,.agg [.val (.int .i64 ax),.val (.int .i64 ay)],.agg [.val (.int .i64 bx),.val (.int .i64 b')],.val (.int .i64 lv),.ptr 1 1 0 0],[⟨es,8,49,true,true,nl,none,false⟩,⟨[.agg [.C9 f 3 L,.val (.int .i64 a)]],2,103,true,true,false,none,false⟩]=>
  some (.br (VE n l es a) (.leaf (.sl 0 (es.length+1) 0 (es.length+1),[wO false (Uq ax ay bx b' lv L (es,f,a,nl)).1,Ic (Uq ax ay bx b' lv L (es,f,a,nl)).2.1 L (Uq ax ay bx b' lv L (es,f,a,nl)).2.2.1])) .no)
 |_,_=>none
theorem eWay':Hx.Dd Try.prog 77:=(DH tq (acF (n:=0) (l:=0) (nl:=false) (es:=[]) 0 0 0 0 0 (f:=false) (L:=[]) (a:=0) (by rfl))).1
theorem oWay'(args:List PV)(H:List Row)(d:DT (PV×List Row))(q:PV)(H':List Row)(h:cWay' args H=some d)(hd:d.run=some (q,H')):Fa Try.prog 0 77 args H q H':=by
 unfold cWay' at h;split at h
 ·rename_i n l ax ay bx b' lv es nl f L a;cases h;obtain⟨hc,he⟩:=FU hd;cases he;exact(DH tq (acF ax ay bx b' lv hc)).2
 ·cases h
def cStp':List PV->Option PV | [.val (.int .i64 i),.val (.int .i64 j)]=>some (F0 (W (55+W (80*i))) (W (65+W (70*j)))) |_=>none
theorem oStp'(args:List PV)(r:PV)(h:cStp' args=some r):Hx.Dd Try.prog 78/\Dr Try.prog 78 args r:=by
 unfold cStp' at h;split at h
 ·rename_i i j;cases h;exact Cy IP (n:=60) (by kernel_rfl)
 ·cases h
def ye:CY:=(((((M7.E7 77 cWay').EJ 78 cStp').F4 56 4 [(4,49,8)])))
theorem acG:CG Try.prog ye.env:=(((((IP.E7 eWay' oWay').EJ oStp').F4 56 4 [(4,49,8)])))
abbrev HZ(i:Int):Int:=W (55+W (80*i))
abbrev H5(j:Int):Int:=W (65+W (70*j))
abbrev Od(L:List PV)(s:EV):EV:=(s.1,fI s.2.1 L s.2.2.1,aI L s.2.2.1,s.2.2.2)
def VF(L:List PV)(x0 y0 x1 y1:Int)(s:EV):EV:=bif dI L s.2.2.1 2==0 then Uq x0 y0 x1 y1 0 L (Od L s) else Od L s
theorem VG(L:List PV)(x0 y0 x1 y1:Int)(s:EV):s.1.length<=(VF L x0 y0 x1 y1 s).1.length/\(VF L x0 y0 x1 y1 s).1.length<=s.1.length+1/\s.2.2.1<=(VF L x0 y0 x1 y1 s).2.2.1/\(VF L x0 y0 x1 y1 s).2.2.1<=s.2.2.1+10:=by
 have h1:=F7 L s.2.2.1;have h2:=tu x0 y0 x1 y1 0 L (Od L s);have h3:(Uq x0 y0 x1 y1 0 L (Od L s)).1.length=s.1.length+1:=by
  show(s.1++[_]).length=_;simp
 change aI L s.2.2.1<=_/\_<=aI L s.2.2.1+9 at h2
 unfold VF;cases dI L s.2.2.1 2==0
 ·exact⟨Al _,CD _,h1.1,by show aI L s.2.2.1<=_;omega⟩
 ·simp only[Aj];omega
def Mg:S1:=⟨71,[(3,.ptr 0 1 0 0),(4,.sl 1),(5,Dk),(6,Dk)],[.one 103 2 (.agg [.C9 3,Dk]),.many 49 8]⟩
abbrev lM(L:List PV)(n l:Nat)(j i:Int)(s:EV):LS:=([.n n,.n l,.i j,.i i],[.l s.2.1 L,.i s.2.2.1,.l s.2.2.2 s.1])
abbrev rwV(L:List PV)(s:EV):List Row:=[Ic s.2.1 L s.2.2.1,wO s.2.2.2 s.1]
abbrev xV7(L:List PV)(n l:Nat)(j:Int)(s:EV):PX×List PV×List Row:=(.exit 2,tm 71 [(3,.ptr 0 1 0 0),(4,.sl 1 n 0 l),(5,iv j)],rwV L s)
theorem qV7(L:List PV)(n l:Nat)(j i:Int)(es:List PV)(f:Bool)(a:Int)(nl:Bool):Db Try.prog ye 60 56 (Dg Try.f56 7) [3,4,5,6] [3,4,5] (Mg.put (lM L n l j i (es,f,a,nl))).1 (Mg.put (lM L n l j i (es,f,a,nl))).2 =
 bif decide (i<3) then bif E3 a 2 then bif dI L a 2==0 then bif es.length==n then bif VE n l es (aI L a) then
   some (.normal,Mg.put (lM L (es.length+1) (es.length+1) j (W (i+1)) (Uq (HZ i) (H5 j) (HZ (W (i+1))) (H5 j) 0 L (Od L (es,f,a,nl))))) else none else none
  else some (.normal,Mg.put (lM L n l j (W (i+1)) (Od L (es,f,a,nl)))) else none
 else some (xV7 L n l j (es,f,a,nl)):=by kernel_rfl
def eI(L:List PV)(j:Int):Nat->Int->EV->EV
 |0,_,s=>s
 |m+1,i,s=>eI L j m (i+1) (VF L (HZ i) (H5 j) (HZ (i+1)) (H5 j) s)
theorem ZZ(L:List PV)(j:Int):∀(m:Nat) (i:Int) (s:EV),s.1.length<=(eI L j m i s).1.length/\(eI L j m i s).1.length<=s.1.length+m/\s.2.2.1<=(eI L j m i s).2.2.1/\(eI L j m i s).2.2.1<=s.2.2.1+10*m
 |0,_,s=>by simp[eI]
 |m+1,i,s=>by
  obtain⟨a1,a2,a3,a4⟩:=VG L (HZ i) (H5 j) (HZ (i+1)) (H5 j) s;obtain⟨b1,b2,b3,b4⟩:=ZZ L j m (i+1) (VF L (HZ i) (H5 j) (HZ (i+1)) (H5 j) s);simp only[eI];refine⟨by omega,by omega,by omega,?_⟩;have:((m+1:Nat):Int)=(m:Int)+1:=by simp
  omega
def tv:LS->Bool
 |([.n n,.n l,.i j,.i i],[.l _ _,.i a,.l _ es])=>decide (n=es.length)&&decide (l=es.length)&&decide (0<=i)&&decide (i<=3)&&decide (0<=j)&&decide (j<=2)&&decide ((es.length:Int)<=3*j+i)&&decide (0<=a)&&decide (a<=30*j+10*i)
 |_=>false
def fV7:LS->DT (PX×List PV×List Row)
 |([.n _,.n _,.i j,.i i],[.l f L,.i a,.l nl es])=>.leaf (xV7 L (eI L j (3-i).toNat i (es,f,a,nl)).1.length (eI L j (3-i).toNat i (es,f,a,nl)).1.length j (eI L j (3-i).toNat i (es,f,a,nl)))
 |_=>.no
def mV7:LS->Nat
 |([.n _,.n _,.i _,.i i],_)=>(3-i).toNat
 |_=>0
theorem QQ{es:List PV}{a:Int}(h:es.length<=1000)(h0:0<=a)(h1:a<=1000000):VE es.length es.length es a=true:=by
 unfold VE;simp only[Aa,Ab];exact⟨⟨⟨⟨trivial,trivial⟩,h⟩,h0⟩,h1⟩
theorem ahG{L:List PV}{j i:Int}{es:List PV}{f:Bool}{a:Int}{nl:Bool}(h:i<3)(h0:0<=i)(he:es.length<=100)(ha:0<=a)(ha2:a<=10000):Db Try.prog ye 60 56 (Dg Try.f56 7) [3,4,5,6] [3,4,5] (Mg.put (lM L es.length es.length j i (es,f,a,nl))).1 (Mg.put (lM L es.length es.length j i (es,f,a,nl))).2 =
  some (.normal,Mg.put (lM L (VF L (HZ i) (H5 j) (HZ (i+1)) (H5 j) (es,f,a,nl)).1.length (VF L (HZ i) (H5 j) (HZ (i+1)) (H5 j) (es,f,a,nl)).1.length j (i+1) (VF L (HZ i) (H5 j) (HZ (i+1)) (H5 j) (es,f,a,nl)))):=by
 have hb:=F7 L a;rw[qV7,Ac h,show E3 a 2=true by unfold E3;simp;omega,QQ (by omega) (by omega) (by omega),AS,Dx (n:=i+1) (by omega) (by omega)];simp only[Aj];unfold VF;cases hd:dI L a 2==0
 ·simp only[Ar]
 ·simp only[Aj];have hl:(Uq (HZ i) (H5 j) (HZ (i+1)) (H5 j) 0 L (Od L (es,f,a,nl))).1.length=es.length+1:=by
   show(es++[_]).length=_;simp
  rw[hl]
theorem sV7:∀ s r,tv s=true->(fV7 s).run=some r->r.1≠.normal/\(Db Try.prog ye 60 56 (Dg Try.f56 7) [3,4,5,6] [3,4,5] (Mg.put s).1 (Mg.put s).2=some r \/
   ∃ s',Db Try.prog ye 60 56 (Dg Try.f56 7) [3,4,5,6] [3,4,5] (Mg.put s).1 (Mg.put s).2=some (.normal,Mg.put s')/\tv s'=true/\mV7 s'<mV7 s/\(fV7 s').run=some r):=by
 intro t r hp hr;unfold tv at hp;split at hp
 ·rename_i n l j i f L a nl es;simp only[Aa,Ab]at hp;obtain⟨⟨⟨⟨⟨⟨⟨⟨rfl,rfl⟩,h1⟩,h2⟩,h3⟩,h4⟩,h5⟩,h6⟩,h7⟩:=hp;have hr':=(Ah hr).symm;refine⟨by rw[hr'];simp,?_⟩;rw[show Mg.put ([.n es.length,.n es.length,.i j,.i i],[.l f L,.i a,.l nl es])=Mg.put (lM L es.length es.length j i (es,f,a,nl)) from rfl];by_cases hi:i<3
  ·obtain⟨k,hk⟩:∃ k,(3-i).toNat=k+1:=⟨(3-i).toNat-1,by omega⟩;have hk2:(3-(i+1)).toNat=k:=by omega
   obtain⟨b1,b2,b3,b4⟩:=VG L (HZ i) (H5 j) (HZ (i+1)) (H5 j) (es,f,a,nl);simp only at b1 b2 b3 b4;refine .inr ⟨_,ahG hi h1 (by omega) h6 (by omega),?_,by simp only[mV7];omega,?_⟩
   ·simp only[tv,Aa,Ab];exact⟨⟨⟨⟨⟨⟨⟨⟨trivial,trivial⟩,by omega⟩,by omega⟩,h3⟩,h4⟩,by omega⟩,by omega⟩,by omega⟩
   ·rw[hr',hk];simp only[fV7,hk2,DT.run,eI]
  ·have hz:(3-i).toNat=0:=by omega
   rw[qV7,Ai hi];exact .inl (by rw[hr',hz];rfl)
 ·cases hp
def MV2:CY:=ye.Dl 56 7 [3,4,5,6] [true,false] Mg tv fV7
theorem acI:CG Try.prog MV2.env:=
 acG.Dl (n:=60) Try.func56 (show Try.f56.body=some (DY Try.f56) by kernel_rfl) (show(loops (DY Try.f56)).filter (fun b=>Ew b==7)=[Dg Try.f56 7] by kernel_rfl) [3,4,5,6] [3,4,5] [true,false] Mg mV7 sV7
def Qr:S1:=⟨71,[(3,.ptr 0 1 0 0),(4,.sl 1),(5,Dk)],[.one 103 2 (.agg [.C9 3,Dk]),.many 49 8]⟩
abbrev yf(L:List PV)(n l:Nat)(j:Int)(s:EV):LS:=([.n n,.n l,.i j],[.l s.2.1 L,.i s.2.2.1,.l s.2.2.2 s.1])
abbrev xV4(L:List PV)(n l:Nat)(s:EV):PX×List PV×List Row:=(.exit 0,tm 71 [(3,.ptr 0 1 0 0),(4,.sl 1 n 0 l)],rwV L s)
abbrev cj(L:List PV)(j:Int)(s:EV):EV:=eI L j (3-0:Int).toNat 0 s
theorem qV4(L:List PV)(n l:Nat)(j:Int)(es:List PV)(f:Bool)(a:Int)(nl:Bool):Db Try.prog MV2 60 56 (Dg Try.f56 4) [3,4,5] [3,4] (Qr.put (yf L n l j (es,f,a,nl))).1 (Qr.put (yf L n l j (es,f,a,nl))).2 =
 bif decide (j<2) then bif tv (lM L n l j 0 (es,f,a,nl)) then some (.normal,Qr.put (yf L (cj L j (es,f,a,nl)).1.length (cj L j (es,f,a,nl)).1.length (W (j+1)) (cj L j (es,f,a,nl)))) else none
 else some (xV4 L n l (es,f,a,nl)):=by kernel_rfl
def eJ(L:List PV):Nat->Int->EV->EV
 |0,_,s=>s
 |m+1,j,s=>eJ L m (j+1) (cj L j s)
theorem kz(L:List PV):∀(m:Nat) (j:Int) (s:EV),s.1.length<=(eJ L m j s).1.length/\(eJ L m j s).1.length<=s.1.length+3*m/\s.2.2.1<=(eJ L m j s).2.2.1/\(eJ L m j s).2.2.1<=s.2.2.1+30*m
 |0,_,s=>by simp[eJ]
 |m+1,j,s=>by
  obtain⟨a1,a2,a3,a4⟩:=ZZ L j (3-0:Int).toNat 0 s;obtain⟨b1,b2,b3,b4⟩:=kz L m (j+1) (cj L j s);have e3:((3-0:Int)).toNat=3:=rfl;rw[e3]at a1 a2 a3 a4;simp only[eJ];change _<=(cj L j s).1.length at a1
  change (cj L j s).1.length<=_ at a2
  change _<=(cj L j s).2.2.1 at a3
  change (cj L j s).2.2.1<=_ at a4
  refine⟨by omega,by omega,by omega,?_⟩;have:((m+1:Nat):Int)=(m:Int)+1:=by simp
  omega
def tw:LS->Bool
 |([.n n,.n l,.i j],[.l _ _,.i a,.l _ es])=>decide (n=es.length)&&decide (l=es.length)&&decide (0<=j)&&decide (j<=2)&&decide ((es.length:Int)<=3*j)&&decide (0<=a)&&decide (a<=30*j)
 |_=>false
def fV4:LS->DT (PX×List PV×List Row)
 |([.n _,.n _,.i j],[.l f L,.i a,.l nl es])=>.leaf (xV4 L (eJ L (2-j).toNat j (es,f,a,nl)).1.length (eJ L (2-j).toNat j (es,f,a,nl)).1.length (eJ L (2-j).toNat j (es,f,a,nl)))
 |_=>.no
def mV4:LS->Nat
 |([.n _,.n _,.i j],_)=>(2-j).toNat
 |_=>0
theorem sV4:∀ s r,tw s=true->(fV4 s).run=some r->r.1≠.normal/\(Db Try.prog MV2 60 56 (Dg Try.f56 4) [3,4,5] [3,4] (Qr.put s).1 (Qr.put s).2=some r \/
   ∃ s',Db Try.prog MV2 60 56 (Dg Try.f56 4) [3,4,5] [3,4] (Qr.put s).1 (Qr.put s).2=some (.normal,Qr.put s')/\tw s'=true/\mV4 s'<mV4 s/\(fV4 s').run=some r):=by
 intro t r hp hr;unfold tw at hp;split at hp
 ·rename_i n l j f L a nl es;simp only[Aa,Ab]at hp;obtain⟨⟨⟨⟨⟨⟨rfl,rfl⟩,h1⟩,h2⟩,h3⟩,h4⟩,h5⟩:=hp;have hr':=(Ah hr).symm;refine⟨by rw[hr'];simp,?_⟩;rw[show Qr.put ([.n es.length,.n es.length,.i j],[.l f L,.i a,.l nl es])=Qr.put (yf L es.length es.length j (es,f,a,nl)) from rfl,qV4];by_cases hi:j<2
  ·obtain⟨k,hk⟩:∃ k,(2-j).toNat=k+1:=⟨(2-j).toNat-1,by omega⟩;have hk2:(2-(j+1)).toNat=k:=by omega
   obtain⟨b1,b2,b3,b4⟩:=ZZ L j (3-0:Int).toNat 0 (es,f,a,nl);have e3:((3-0:Int)).toNat=3:=rfl;rw[e3]at b1 b2 b3 b4;simp only at b1 b2 b3 b4;change _<=(cj L j (es,f,a,nl)).1.length at b1
   change (cj L j (es,f,a,nl)).1.length<=_ at b2
   change _<=(cj L j (es,f,a,nl)).2.2.1 at b3
   change (cj L j (es,f,a,nl)).2.2.1<=_ at b4
   have p7:tv (lM L es.length es.length j 0 (es,f,a,nl))=true:=by
    simp only[tv,Aa,Ab,CZ];omega
   rw[Ac hi,p7,Dx (n:=j+1) (by omega) (by omega)];refine .inr ⟨_,rfl,?_,by simp only[mV4];omega,?_⟩
   ·simp only[tw,Aa,Ab];exact⟨⟨⟨⟨⟨⟨trivial,trivial⟩,by omega⟩,by omega⟩,by omega⟩,by omega⟩,by omega⟩
   ·rw[hr',hk];simp only[fV4,hk2,DT.run,eJ]
  ·have hz:(2-j).toNat=0:=by omega
   rw[Ai hi];exact .inl (by rw[hr',hz];rfl)
 ·cases hp
def yg:CY:=MV2.Dl 56 4 [3,4,5] [true,false] Qr tw fV4
theorem acJ:CG Try.prog yg.env:=
 acI.Dl (n:=60) Try.func56 (show Try.f56.body=some (DY Try.f56) by kernel_rfl) (show(loops (DY Try.f56)).filter (fun b=>Ew b==4)=[Dg Try.f56 4] by kernel_rfl) [3,4,5] [3,4] [true,false] Qr mV4 sV4
def HO:S1:=⟨71,[(3,.ptr 0 1 0 0),(4,.sl 1),(7,Dk)],[.one 103 2 (.agg [.C9 3,Dk]),.many 49 8]⟩
abbrev Ts(L:List PV)(n l:Nat)(i:Int)(s:EV):LS:=([.n n,.n l,.i i],[.l s.2.1 L,.i s.2.2.1,.l s.2.2.2 s.1])
abbrev wR(L:List PV)(n l:Nat)(s:EV):PX×List PV×List Row:=(.exit 4,tm 71 [(3,.ptr 0 1 0 0),(4,.sl 1 n 0 l)],rwV L s)
theorem wS(L:List PV)(n l:Nat)(i:Int)(es:List PV)(f:Bool)(a:Int)(nl:Bool):Db Try.prog yg 60 56 (Dg Try.f56 12) [3,4,7] [3,4] (HO.put (Ts L n l i (es,f,a,nl))).1 (HO.put (Ts L n l i (es,f,a,nl))).2 =
 bif decide (i<4) then bif decide ((l:Int)<5) then bif E3 a 2 then bif dI L a 2==0 then bif es.length==n then bif VE n l es (aI L a) then
   some (.normal,HO.put (Ts L (es.length+1) (es.length+1) (W (i+1)) (Uq (HZ i) (H5 0) (HZ i) (H5 1) 0 L (Od L (es,f,a,nl))))) else none else none
  else some (.normal,HO.put (Ts L n l (W (i+1)) (Od L (es,f,a,nl)))) else none
 else some (wR L n l (es,f,a,nl)) else some (wR L n l (es,f,a,nl)):=by kernel_rfl
def Z0(L:List PV):Nat->Int->EV->EV
 |0,_,s=>s
 |m+1,i,s=>bif decide ((s.1.length:Int)<5) then Z0 L m (i+1) (VF L (HZ i) (H5 0) (HZ i) (H5 1) s) else s
theorem kA(L:List PV):∀(m:Nat) (i:Int) (s:EV),s.1.length<=(Z0 L m i s).1.length/\(Z0 L m i s).1.length<=s.1.length+m/\s.2.2.1<=(Z0 L m i s).2.2.1/\(Z0 L m i s).2.2.1<=s.2.2.1+10*m
 |0,_,s=>by simp[Z0]
 |m+1,i,s=>by
  obtain⟨a1,a2,a3,a4⟩:=VG L (HZ i) (H5 0) (HZ i) (H5 1) s;obtain⟨b1,b2,b3,b4⟩:=kA L m (i+1) (VF L (HZ i) (H5 0) (HZ i) (H5 1) s);have:((m+1:Nat):Int)=(m:Int)+1:=by simp
  simp only[Z0];cases decide ((s.1.length:Int)<5)
  ·simp only[Ar];exact⟨Al _,by omega,BG _,by omega⟩
  ·simp only[Aj];exact⟨by omega,by omega,by omega,by omega⟩
def X4:LS->Bool
 |([.n n,.n l,.i i],[.l _ _,.i a,.l _ es])=>decide (n=es.length)&&decide (l=es.length)&&decide (0<=i)&&decide (i<=4)&&decide ((es.length:Int)<=6+i)&&decide (0<=a)&&decide (a<=60+10*i)
 |_=>false
def oW:LS->DT (PX×List PV×List Row)
 |([.n _,.n _,.i i],[.l f L,.i a,.l nl es])=>.leaf (wR L (Z0 L (4-i).toNat i (es,f,a,nl)).1.length (Z0 L (4-i).toNat i (es,f,a,nl)).1.length (Z0 L (4-i).toNat i (es,f,a,nl)))
 |_=>.no
def oX:LS->Nat
 |([.n _,.n _,.i i],_)=>(4-i).toNat
 |_=>0
theorem acK{L:List PV}{i:Int}{es:List PV}{f:Bool}{a:Int}{nl:Bool}(h:i<4)(h0:0<=i)(he:(es.length:Int)<5)(ha:0<=a)(ha2:a<=10000):Db Try.prog yg 60 56 (Dg Try.f56 12) [3,4,7] [3,4] (HO.put (Ts L es.length es.length i (es,f,a,nl))).1 (HO.put (Ts L es.length es.length i (es,f,a,nl))).2 =
  some (.normal,HO.put (Ts L (VF L (HZ i) (H5 0) (HZ i) (H5 1) (es,f,a,nl)).1.length (VF L (HZ i) (H5 0) (HZ i) (H5 1) (es,f,a,nl)).1.length (i+1) (VF L (HZ i) (H5 0) (HZ i) (H5 1) (es,f,a,nl)))):=by
 have hb:=F7 L a;rw[wS,Ac h,Ac he,show E3 a 2=true by unfold E3;simp;omega,QQ (by omega) (by omega) (by omega),AS,Dx (n:=i+1) (by omega) (by omega)];simp only[Aj];unfold VF;cases hd:dI L a 2==0
 ·simp only[Ar]
 ·simp only[Aj];have hl:(Uq (HZ i) (H5 0) (HZ i) (H5 1) 0 L (Od L (es,f,a,nl))).1.length=es.length+1:=by
   show(es++[_]).length=_;simp
  rw[hl]
theorem ahH:∀ s r,X4 s=true->(oW s).run=some r->r.1≠.normal/\(Db Try.prog yg 60 56 (Dg Try.f56 12) [3,4,7] [3,4] (HO.put s).1 (HO.put s).2=some r \/
   ∃ s',Db Try.prog yg 60 56 (Dg Try.f56 12) [3,4,7] [3,4] (HO.put s).1 (HO.put s).2=some (.normal,HO.put s')/\X4 s'=true/\oX s'<oX s/\(oW s').run=some r):=by
 intro t r hp hr;unfold X4 at hp;split at hp
 ·rename_i n l i f L a nl es;simp only[Aa,Ab]at hp;obtain⟨⟨⟨⟨⟨⟨rfl,rfl⟩,h1⟩,h2⟩,h5⟩,h6⟩,h7⟩:=hp;have hr':=(Ah hr).symm;refine⟨by rw[hr'];simp,?_⟩;rw[show HO.put ([.n es.length,.n es.length,.i i],[.l f L,.i a,.l nl es])=HO.put (Ts L es.length es.length i (es,f,a,nl)) from rfl];by_cases hi:i<4
  ·obtain⟨k,hk⟩:∃ k,(4-i).toNat=k+1:=⟨(4-i).toNat-1,by omega⟩;have hk2:(4-(i+1)).toNat=k:=by omega
   by_cases hl:(es.length:Int)<5
   ·obtain⟨b1,b2,b3,b4⟩:=VG L (HZ i) (H5 0) (HZ i) (H5 1) (es,f,a,nl);simp only at b1 b2 b3 b4;refine .inr ⟨_,acK hi h1 hl h6 (by omega),?_,by simp only[oX];omega,?_⟩
    ·simp only[X4,Aa,Ab];exact⟨⟨⟨⟨⟨⟨trivial,trivial⟩,by omega⟩,by omega⟩,by omega⟩,by omega⟩,by omega⟩
    ·rw[hr',hk];simp only[oW,hk2,DT.run,Z0];rw[Ac hl];rfl
   ·rw[wS,Ac hi,Ai hl];refine .inl ?_;rw[hr',hk];simp only[Z0];rw[Ai hl];rfl
  ·have hz:(4-i).toNat=0:=by omega
   rw[wS,Ai hi];exact .inl (by rw[hr',hz];rfl)
 ·cases hp
def MV4:CY:=yg.Dl 56 12 [3,4,7] [true,false] HO X4 oW
theorem tx:CG Try.prog MV4.env:=
 acJ.Dl (n:=60) Try.func56 (show Try.f56.body=some (DY Try.f56) by kernel_rfl) (show(loops (DY Try.f56)).filter (fun b=>Ew b==12)=[Dg Try.f56 12] by kernel_rfl) [3,4,7] [3,4] [true,false] HO oX ahH
end Go.Hr
