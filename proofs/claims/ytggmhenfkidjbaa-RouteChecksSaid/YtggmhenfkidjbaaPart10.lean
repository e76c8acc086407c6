import Derived.Test.YtggmhenfkidjbaaPart9
import Derived.Test.YtggmhenfkidjbaaPart8
import Derived.Test.YtggmhenfkidjbaaPart5
namespace Go.Hr
open Go.Hx Go.Hg Go.Hn Go.Proofs
noncomputable def R73:C9:=R72.SV
theorem jR:C4 Try.prog R73.env:=aa5.SV
theorem vG(f:Bool)(ws:List PV)(x y z:Int)(fl:Bool):OB Try.prog R73 60 0 16 [.Db f 49 ws,DU x y z,bv fl] [] =
 bif decide (ws.length<=1000)&&EL Ee ws then
 bif rk (rj false (Dg (Dd false) ws) ((Dg (Dd false) ws).length:Int) 0 x y z [] x y z []) then
 bif Hp [GP x y z,DD k0 30 3 [],GP x y z] [GP x y z,DD k0 30 3 [],GP x y z] then
 bif !Tm (mD ws) x y z then some (.mp 1,[GP x y z,DD k0 30 3 [],GP x y z,DD k0 30 4 (mD ws),Dz .any .nil])
 else
 bif decide (ws.length<=1000)&&EL Ee ws then
 bif Mw (false,nZ false (Dg (Dd fl) ws) 1 1 x y z [] x y z (mD ws) [] x y z 0) then
 bif pC ([],[.i x,.i y,.i z,.m [],.i x,.i y,.i z,.m (mD ws),.m (L7 (Dg (Dd fl) ws) (x,y,z)),.n (L7 (Dg (Dd fl) ws) (x,y,z)).length]) then
  some (.mp 1,(xC x y z x y z (mD ws) (L7 (Dg (Dd fl) ws) (x,y,z))).2.2) else none
 else none else none
 else none else none else none:=by kernel_rfl
noncomputable def Ks(ws:List PV)(fl:Bool)(s:T3):List Rc:=@ite _ (E7 ws s) (Classical.propDecidable _) (XA (gU (Dg (Dd fl) ws)) (ZE (Dg (Dd fl) ws) s) s) []
theorem JC{ws:List PV}{fl:Bool}{s:T3}(h:E7 ws s):Ks ws fl s=XA (gU (Dg (Dd fl) ws)) (ZE (Dg (Dd fl) ws) s) s:=Ak h
theorem Uk{ws:List PV}{fl:Bool}{s:T3}(h:¬E7 ws s):Ks ws fl s=[]:=Aq h
theorem JD{ws:List PV}{fl:Bool}{s v:T3}{k:Ky}(h:IF ws):(v,k)∈Ks ws fl s ↔ Jz ws fl s v=some k:=by
 by_cases hs:E7 ws s
 ·rw[JC hs,N6 hs,EO,<- QV];exact Lk (Mu s (GM (fl:=fl) h)) (AL ..)
 ·rw[Uk hs,LI hs];simp
theorem vH{ws:List PV}(h:IF ws)(x y z:Int):rk (rj false (Dg (Dd false) ws) ((Dg (Dd false) ws).length:Int) 0 x y z [] x y z [])=true:=by
 have:=EE (d:=Dd false) ws;have:=h.SO;simp only[rk,Aa,Ab];exact⟨⟨⟨⟨trivial,by omega⟩,by omega⟩,by omega⟩,NY h.G6⟩
theorem jS{ws:List PV}(fl:Bool)(h:IF ws)(s:T3):ZF (L7 (Dg (Dd fl) ws) s):=by
 have hG:=Mu s (GM (fl:=fl) h);have hD:=HZ hG (AL (a:=s) ..);rw[N4];unfold Tl ZF;rw[Kf];refine⟨rfl,hD.nd,?_⟩;have h0:=hD.cap;have h1:=Vi (Dg (Dd fl) ws);have:=EE (d:=Dd fl) ws;have:=h.SO;rw[AV];have h2:(ZE (Dg (Dd fl) ws) s).length=1+(gU (Dg (Dd fl) ws)).length:=by simp[Nat.add_comm]
 omega
noncomputable def ZG:List PV->Option (Bool×List (PV×PV))
 | [.Db _ 49 ws,.agg [.val (.int .i64 x),.val (.int .i64 y),.val (.int .i64 z)],.val (.bool fl)]=>some (dB (IF ws)&&EL Ee ws,(Ks ws fl (x,y,z)).map MW)
 |_=>none
theorem jT{L:List Rc}:∀ x∈L.map MW,x.2.flat=true:=fun x hx=>by
 obtain⟨r,_,rfl⟩:=AY.1 hx;rfl
theorem SX(f:Bool)(ws:List PV)(x y z:Int)(fl:Bool)(h:IF ws)(hN:Ei Ee ws):Hx.Df Try.prog 16/\∀ ro H,Fh Try.prog ro 16 [.Db f 49 ws,DU x y z,bv fl] H (.mp H.length) (H++[Qf 30 3 ((Ks ws fl (x,y,z)).map MW)]):=by
 have hf:=h.SO;have hk:=EE (d:=Dd fl) ws;have hq:=vG f ws x y z fl;rw[Ac (show ws.length<=1000 by omega),DX.2 hN,vH h,E5]at hq;simp only[A_,Aj]at hq;by_cases hs:E7 ws (x,y,z)
 ·have hp:Mw (false,nZ false (Dg (Dd fl) ws) 1 1 x y z [] x y z (mD ws) [] x y z 0)=true:=by
   simp only[Mw,Aa,Ab,DB];exact⟨⟨⟨trivial,trivial,trivial,trivial,trivial,trivial,trivial⟩,GM h⟩,by omega⟩
  have hD:=jS fl h (x,y,z);have hpc:pC ([],[.i x,.i y,.i z,.m [],.i x,.i y,.i z,.m (mD ws),.m (L7 (Dg (Dd fl) ws) (x,y,z)),.n (L7 (Dg (Dd fl) ws) (x,y,z)).length])=true:=by
   simp only[pC,List.isEmpty_nil,BW,Aa,Ab,DB];exact⟨trivial,hD⟩
  rw[Jy.2 hs,hp,hpc]at hq;simp only[BZ,Ap,Aj]at hq;have he:(L7 (Dg (Dd fl) ws) (x,y,z)).map Nb=(Ks ws fl (x,y,z)).map MW:=by
   rw[hD.Nb,JC hs,N4];unfold Tl;rw[Kf]
  rw[<- he];exact ed jR (n:=60) (i:=1) (k:=k0) (by rfl) hq rfl (by rw[he];exact jT)
 ·have hg:Tm (mD ws) x y z=false:=by
   cases hh:Tm (mD ws) x y z with
   |true=>exact absurd (Jy.1 hh) hs
   |false=>rfl
  rw[hg]at hq;simp only[BT,Aj]at hq;rw[Uk hs];exact jN jR (n:=60) (i:=1) (k:=k0) (by rfl) hq rfl (fun x hx=>by cases hx) .nil
theorem vI(args:List PV)(r:Bool×List (PV×PV))(h:ZG args=some r)(hr:r.1=true):∀ ro H,Fh Try.prog ro 16 args H (.mp H.length) (H++[Qf 30 3 r.2]):=by
 unfold ZG at h;split at h
 ·rename_i f ws x y z fl;cases h;simp only[Aa,DB,DX]at hr;exact(SX f ws x y z fl hr.1 hr.2).2
 ·cases h
theorem vJ:Hx.Df Try.prog 16:=(SX false [] 0 0 0 false ZD Vl).1
noncomputable def R74:C9:=(R73.b6 16 30 3 ZG).Si Try.prog xe
theorem aa7:C4 Try.prog R74.env:=(jR.b6 vJ vI).Si UW

abbrev fnK(j:Nat):X1:=.fn 40 [] [.ptr j 1 0 0]
def N8:S1:=⟨19,[(0,.Db 49),(1,fnK 0),(7,Dm),(8,Dm)],[.one 3 1 Dm]⟩
abbrev n9(f:Bool)(es:List PV)(len i id:Int):LS:=([.l f es,.i len,.i i],[.i id])
noncomputable abbrev aa8(id:Int):PX×List PV×List Row:=(.exit 0,tm 19 [],(N8.put (n9 false [] 0 0 id)).2)
noncomputable abbrev aa9(i id:Int):PX×List PV×List Row:=(.ret,tm 19 [(4,iv i)],(N8.put (n9 false [] 0 0 id)).2)
theorem qIx(f:Bool)(es:List PV)(len i id:Int):Dc Try.prog R74 60 39 (Dh Try.f39 2) [0,1,7,8] [4] (N8.put (n9 f es len i id)).1 (N8.put (n9 f es len i id)).2 =
 bif decide (i<len) then bif F7 es i then bif wI (aE es i)==id then some (aa9 i id) else some (.normal,N8.put (n9 f es len (W (i+1)) id)) else none else some (aa8 id):=by kernel_rfl
def Qg(id:Int)(i:Int):List PV->Int
 | []=>-1
 |e::es=>bif wI e==id then i else Qg id (i+1) es
def rn:LS->Bool
 |([.l _ es,.i len,.i i],[.i _])=>decide (len=(es.length:Int))&&decide (0<=i)&&decide (i<=len)&&decide (es.length<=10000)
 |_=>false
noncomputable def fIx:LS->DT (PX×List PV×List Row)
 |([.l _ es,.i _,.i i],[.i id])=>.br (Qg id i (es.drop i.toNat) == -1) (.leaf (aa8 id)) (.leaf (aa9 (Qg id i (es.drop i.toNat)) id))
 |_=>.no
def mIx:LS->Nat
 |([.l _ _,.i len,.i i],_)=>(len-i).toNat
 |_=>0
theorem sIx:∀ s r,rn s=true->(fIx s).run=some r->r.1≠.normal/\(Dc Try.prog R74 60 39 (Dh Try.f39 2) [0,1,7,8] [4] (N8.put s).1 (N8.put s).2=some r \/
   ∃ s',Dc Try.prog R74 60 39 (Dh Try.f39 2) [0,1,7,8] [4] (N8.put s).1 (N8.put s).2=some (.normal,N8.put s')/\rn s'=true/\mIx s'<mIx s/\(fIx s').run=some r):=by
 intro t r hp hr;unfold rn at hp;split at hp
 ·rename_i f es len i id;simp only[Aa,Ab]at hp;obtain⟨⟨⟨rfl,h2⟩,h3⟩,h4⟩:=hp;have hr':=Gb hr;refine⟨by rw[hr'];cases Qg id i (es.drop i.toNat) == -1 <;> simp,?_⟩;rw[show N8.put ([.l f es,.i (es.length:Int),.i i],[.i id])=N8.put (n9 f es es.length i id) from rfl,qIx];by_cases hi:i<(es.length:Int)
  ·rw[Ac hi,D1 h2 hi,Dx (by omega) (by omega)];simp only[Aj];rw[Dt h2 hi]at hr';simp only[Qg]at hr';rw[show wI (es.getD i.toNat .any)=wI (aE es i) from rfl]at hr';cases c1:wI (aE es i)==id with
   |true=>
    rw[c1,Aj,show(i == -1)=false by rw[AM];omega]at hr';exact .inl (by rw[hr'];rfl)
   |false=>
    rw[c1]at hr';refine .inr ⟨n9 f es es.length (i+1) id,rfl,by simp only[rn,Aa,Ab];exact⟨⟨⟨trivial,by omega⟩,by omega⟩,h4⟩,by simp only[mIx];omega,?_⟩;rw[hr'];simp only[fIx,Ap];cases Qg id (i+1) (es.drop (i+1).toNat) == -1 <;> rfl
  ·rw[Ai hi];rw[AB (by omega)]at hr';exact .inl (by rw[hr'];rfl)
 ·cases hp
noncomputable def R78:C9:=R74.Dr 39 2 [0,1,7,8] [false] N8 rn fIx
theorem jU:C4 Try.prog R78.env:=
 aa7.Dr (n:=60) Try.func39 (show Try.f39.body=some (D3 Try.f39) by kernel_rfl) (show(loops (D3 Try.f39)).filter (fun b=>Ev b==2)=[Dh Try.f39 2] by kernel_rfl) [0,1,7,8] [4] [false] N8 mIx sIx
abbrev Ul(id:Int):Row:={ es:=[iv id],s:=1,t:=3,bv:=true }
theorem agh(f:Bool)(es:List PV)(id:Int):Kz Try.prog R78 60 39 [.Db f 49 es,.fn (.func 40) [] [.ptr 0 1 0 0]] [Ul id] =
 bif rn (n9 f es (es.length:Int) 0 id) then bif Qg id 0 (es.drop (0:Int).toNat) == -1 then some (iv (-1),[Ul id]) else some (iv (Qg id 0 (es.drop (0:Int).toNat)),[Ul id]) else none:=by kernel_rfl
theorem rq(f:Bool)(es:List PV)(id:Int)(h:es.length<=10000):Kz Try.prog R78 60 39 [.Db f 49 es,.fn (.func 40) [] [.ptr 0 1 0 0]] [Ul id]=some (iv (Qg id 0 es),[Ul id]):=by
 have hp:rn (n9 f es (es.length:Int) 0 id)=true:=by
  simp only[rn,Aa,Ab];exact⟨⟨⟨trivial,by omega⟩,by omega⟩,h⟩
 rw[agh,hp,Aj,show(0:Int).toNat=0 from rfl,AH];cases hq:Qg id 0 es == -1 with
 |true=>rw[eq_of_beq hq];rfl
 |false=>rfl
def cIx:List PV->List Row->Option (DT (PV×List Row))
 | [.Db _ 49 es,.fn (.func 40) [] [.ptr 0 1 0 0]],[⟨[.val (.int .i64 id)],1,3,true,true,false,none,false⟩]=>
  some (.br (decide (es.length<=10000)) (.leaf (iv (Qg id 0 es),[Ul id])) .no)
 |_,_=>none
theorem eIx:Hx.Df Try.prog 39:=(DP jU (rq false [] 0 (by simp))).1
theorem oIx(args:List PV)(H:List Row)(d:DT (PV×List Row))(q:PV)(H':List Row)(h:cIx args H=some d)(hd:d.run=some (q,H')):Fh Try.prog 0 39 args H q H':=by
 unfold cIx at h;split at h
 ·rename_i f es id;cases h;obtain⟨hc,he⟩:=Gc hd;cases he;exact(DP jU (rq f es id (AO hc))).2
 ·cases h
noncomputable def R79:C9:=R78.Ff 39 cIx
theorem abb:C4 Try.prog R79.env:=jU.Ff eIx oIx
def OZ:S1:=⟨27,[(3,.mp 2),(10,.Db 49),(11,Dm),(12,Dm)],[.one 30 3 aS,.one 30 3 aS,.map 30 4]⟩
abbrev ru(f:Bool)(es:List PV)(len i:Int)(p0 p1 p2 q0 q1 q2:Int)(D:List (PV×PV)):LS:=([.l f es,.i len,.i i],[.i p0,.i p1,.i p2,.i q0,.i q1,.i q2,.m D])
noncomputable abbrev xSK(p0 p1 p2 q0 q1 q2:Int)(D:List (PV×PV)):PX×List PV×List Row:=(.exit 0,tm 27 [(3,.mp 2)],(OZ.put (ru false [] 0 0 p0 p1 p2 q0 q1 q2 D)).2)
theorem qSK(f:Bool)(es:List PV)(len i:Int)(p0 p1 p2 q0 q1 q2:Int)(D:List (PV×PV)):Dc Try.prog R79 60 37 (Dh Try.f37 3) [3,10,11,12] [3] (OZ.put (ru f es len i p0 p1 p2 q0 q1 q2 D)).1 (OZ.put (ru f es len i p0 p1 p2 q0 q1 q2 D)).2 =
 bif decide (i<len) then bif decide (0<=i)&&decide (i<(es.length:Int)) then bif PE (wL (es.getD i.toNat .any)) then
  some (.normal,OZ.put (ru f es len (W (i+1)) p0 p1 p2 q0 q1 q2 (D9 D (es.getD i.toNat .any)))) else none else none else some (xSK p0 p1 p2 q0 q1 q2 D):=by kernel_rfl
def ry:LS->Bool
 |([.l _ es,.i len,.i i],[.i _,.i _,.i _,.i _,.i _,.i _,.m _])=>decide (len=(es.length:Int))&&decide (0<=i)&&decide (i<=len)&&decide (es.length<=1000)&&(es.drop i.toNat).all fun e=>PE (wL e)
 |_=>false
noncomputable def fSK:LS->DT (PX×List PV×List Row)
 |([.l _ es,.i _,.i i],[.i p0,.i p1,.i p2,.i q0,.i q1,.i q2,.m D])=>.leaf (xSK p0 p1 p2 q0 q1 q2 (G4 (es.drop i.toNat) D))
 |_=>.no
def mSK:LS->Nat
 |([.l _ _,.i len,.i i],_)=>(len-i).toNat
 |_=>0
theorem sSK:∀ s r,ry s=true->(fSK s).run=some r->r.1≠.normal/\(Dc Try.prog R79 60 37 (Dh Try.f37 3) [3,10,11,12] [3] (OZ.put s).1 (OZ.put s).2=some r \/
   ∃ s',Dc Try.prog R79 60 37 (Dh Try.f37 3) [3,10,11,12] [3] (OZ.put s).1 (OZ.put s).2=some (.normal,OZ.put s')/\ry s'=true/\mSK s'<mSK s/\(fSK s').run=some r):=by
 intro t r hp hr;unfold ry at hp;split at hp
 ·rename_i f es len i p0 p1 p2 q0 q1 q2 D;simp only[Aa,Ab]at hp;obtain⟨⟨⟨⟨rfl,h2⟩,h3⟩,h4⟩,h5⟩:=hp;have hr':=(Ah hr).symm;refine⟨by rw[hr'];simp,?_⟩;rw[show OZ.put ([.l f es,.i (es.length:Int),.i i],[.i p0,.i p1,.i p2,.i q0,.i q1,.i q2,.m D])=OZ.put (ru f es (es.length:Int) i p0 p1 p2 q0 q1 q2 D) from rfl,qSK];by_cases hi:i<(es.length:Int)
  ·rw[Dt h2 hi,Cu,Aa]at h5;rw[Ac hi,Ac h2,h5.1,Dx (by omega) (by omega)];refine .inr ⟨ru f es es.length (i+1) p0 p1 p2 q0 q1 q2 (D9 D (es.getD i.toNat .any)),rfl,by simp only[ry,Aa,Ab];exact⟨⟨⟨⟨trivial,by omega⟩,by omega⟩,h4⟩,h5.2⟩,by simp only[mSK];omega,?_⟩;rw[hr',Dt h2 hi];rfl
  ·rw[Ai hi,AB (by omega)] at *;exact .inl (by rw[hr'];rfl)
 ·cases hp
noncomputable def R80:C9:=R79.Dr 37 3 [3,10,11,12] [false,false,false] OZ ry fSK
theorem abc:C4 Try.prog R80.env:=
 abb.Dr (n:=60) Try.func37 (show Try.f37.body=some (D3 Try.f37) by kernel_rfl) (show(loops (D3 Try.f37)).filter (fun b=>Ev b==3)=[Dh Try.f37 3] by kernel_rfl) [3,10,11,12] [3] [false,false,false] OZ mSK sSK

noncomputable def xy:C9:=R80.Ez 21 1
theorem abd:C4 Try.prog xy.env:=abc.Ez 21 1
def Lm:S1:=⟨76,[(3,.bool),(6,.ptr 0 1 0 0),(7,.ptr 1 1 0 0),(12,.Db 49),(13,Dm),(26,.Db 3),(27,Dm),(28,Dm)],[.one 30 3 aS,.one 30 3 aS,.map 30 4]⟩
abbrev eO(fl f:Bool)(us:List PV)(sm:Int)(g:Bool)(ids:List PV)(len i x y z a b c:Int)(D:List (PV×PV)):LS:=([.b fl,.l f us,.i sm,.l g ids,.i len,.i i],[.i x,.i y,.i z,.i a,.i b,.i c,.m D])
noncomputable abbrev hCk(x y z a b c:Int)(D:List (PV×PV)):List Row:=(Lm.put (eO false false [] 0 false [] 0 0 x y z a b c D)).2
noncomputable abbrev xCk(sm x y z a b c:Int)(D:List (PV×PV)):PX×List PV×List Row:=(.exit 0,tm 76 [(6,.ptr 0 1 0 0),(7,.ptr 1 1 0 0),(13,iv sm)],hCk x y z a b c D)
noncomputable abbrev xz(sm x y z a b c:Int)(D:List (PV×PV)):PX×List PV×List Row:=(.ret,tm 76 [(6,.ptr 0 1 0 0),(7,.ptr 1 1 0 0),(10,iv 0),(11,bv false),(13,iv sm)],hCk x y z a b c D)
noncomputable def ckT(fl f:Bool)(us:List PV)(sm:Int)(g:Bool)(ids:List PV)(len i x y z a b c:Int)(D:List (PV×PV))(j:Int):Option (PX×List PV×List Row):=
 bif F7 us j then bif PE (wL (aE us j)) then bif MS x y z (gX (eF (aE us j))) (gY (eF (aE us j))) (gL (eF (aE us j))) then
  bif F7 us j then bif decide ((wL (aE us j)).length<=100000) then some (.normal,Lm.put (eO fl f us (W (sm+Du (wL (aE us j)))) g ids len (W (i+1)) (gX (eL (aE us j))) (gY (eL (aE us j))) (gL (eL (aE us j))) a b c D)) else none else none
 else bif MS x y z (gX (eL (aE us j))) (gY (eL (aE us j))) (gL (eL (aE us j))) then
  bif F7 us j then bif decide ((wL (aE us j)).length<=100000) then some (.normal,Lm.put (eO fl f us (W (sm+Du (wL (aE us j)))) g ids len (W (i+1)) (gX (eF (aE us j))) (gY (eF (aE us j))) (gL (eF (aE us j))) a b c D)) else none else none
 else some (xz sm x y z a b c D) else none else none
theorem qCk(fl f:Bool)(us:List PV)(sm:Int)(g:Bool)(ids:List PV)(len i x y z a b c:Int)(D:List (PV×PV)):Dc Try.prog xy 60 21 (Dh Try.f21 6) [3,6,7,12,13,26,27,28] [6,7,10,11,13] (Lm.put (eO fl f us sm g ids len i x y z a b c D)).1 (Lm.put (eO fl f us sm g ids len i x y z a b c D)).2 =
 bif decide (i<len) then bif F7 ids i then bif decide (us.length<=10000) then bif decide (Qg (nI ids i) 0 us<0) then some (xz sm x y z a b c D) else
  bif fl then bif F7 us (Qg (nI ids i) 0 us) then bif cond false true (cond true (IX (aE us (Qg (nI ids i) 0 us))) false) then some (xz sm x y z a b c D) else ckT fl f us sm g ids len i x y z a b c D (Qg (nI ids i) 0 us) else none
  else ckT fl f us sm g ids len i x y z a b c D (Qg (nI ids i) 0 us)
 else none else none else some (xCk sm x y z a b c D):=by kernel_rfl
def Vn(fl:Bool)(us:List PV)(t:T3)(id:Int):Option (T3×Int):=
 match us.find? fun e=>wI e==id with
 |none=>none
 |some e=>bif fl&&IX e then none else bif decide (t=DA (eF e)) then some (DA (eL e),Du (wL e)) else bif decide (t=DA (eL e)) then some (DA (eF e),Du (wL e)) else none
def EB(fl:Bool)(us:List PV):T3->Int->List Int->Bool×T3×Int
 |t,s,[]=>(true,t,s)
 |t,s,id::ids=>match Vn fl us t id with |none=>(false,t,s) |some r=>EB fl us r.1 (s+r.2) ids
theorem XN{id:Int}:∀{es:List PV} {i:Int},0<=i->(Qg id i es = -1/\es.find? (fun e=>wI e==id)=none)\/(i<=Qg id i es/\Qg id i es<i+es.length/\es.find? (fun e=>wI e==id)=some (es.getD (Qg id i es-i).toNat .any))
 | [],i,_=>.inl ⟨rfl,rfl⟩
 |e::es,i,h=>by
  simp only[Qg,CQ];cases hq:wI e==id with
  |true=>
   refine .inr ⟨by simp,by simp only[Aj,As];omega,?_⟩;simp only[Aj,Int.sub_self];rfl
  |false=>
   simp only[Ap];rcases XN (id:=id) (es:=es) (i:=i+1) (by omega) with ⟨h1,h2⟩ |⟨h1,h2,h3⟩
   ·exact .inl ⟨h1,h2⟩
   ·refine .inr ⟨by omega,by simp only[As];omega,?_⟩;rw[h3];have:(Qg id (i+1) es-i).toNat=(Qg id (i+1) es-(i+1)).toNat+1:=by omega
    rw[this];rfl
theorem XO{fl:Bool}{us:List PV}{t:T3}{id:Int}{r:T3×Int}(hu:us.all G9=true)(h:Vn fl us t id=some r):0<=r.2/\r.2<=3037000499000:=by
 unfold Vn at h;split at h
 ·cases h
 ·rename_i e he;have hm:=Ao.1 hu e (B6 he);simp only[G9,Aa,Ab]at hm;have hf:=F9 hm.2
  revert h
  cases fl&&IX e with
  |true=>intro h;cases h
  |false=>
   rw[Ap];cases decide (t=DA (eF e)) with
   |true=>intro h;cases h;exact hf
   |false=>
    rw[Ap];cases decide (t=DA (eL e)) with
    |true=>intro h;cases h;exact hf
    |false=>intro h;cases h
theorem O0{x y z:Int}{p:PV}:MS x y z (gX p) (gY p) (gL p)=decide ((x,y,z)=DA p):=by
 rw[Bool.eq_iff_iff];simp only[MS,Br,Aa,Av,Ab,CN,and_assoc]
noncomputable abbrev nCk(fl f:Bool)(us:List PV)(sm:Int)(g:Bool)(ids:List PV)(len i:Int)(t:T3)(a b c:Int)(D:List (PV×PV)):PX×List PV×List Row:=(.normal,Lm.put (eO fl f us sm g ids len i t.1 t.2.1 t.2.2 a b c D))
theorem agk(fl f:Bool)(us:List PV)(sm:Int)(g:Bool)(ids:List PV)(i x y z a b c:Int)(D:List (PV×PV))(h0:0<=i)(hi:i<(ids.length:Int))(hu:us.all G9=true)(hl:us.length<=1000)(hs:0<=sm)(hs2:sm<=1000000000000000000)(hids:ids.length<=1000000):
 Dc Try.prog xy 60 21 (Dh Try.f21 6) [3,6,7,12,13,26,27,28] [6,7,10,11,13] (Lm.put (eO fl f us sm g ids ids.length i x y z a b c D)).1 (Lm.put (eO fl f us sm g ids ids.length i x y z a b c D)).2 =
 match Vn fl us (x,y,z) (nI ids i) with |none=>some (xz sm x y z a b c D) |some r=>some (nCk fl f us (sm+r.2) g ids ids.length (i+1) r.1 a b c D):=by
 rw[qCk,Ac hi,D1 h0 hi,Ac (show us.length<=10000 by omega)];simp only[Aj];unfold Vn;rcases XN (id:=nI ids i) (es:=us) (i:=0) (BK _) with ⟨h1,h2⟩ |⟨h1,h2,h3⟩
 ·rw[h1,h2,Ac (show(-1:Int)<0 by omega)];rfl
 ·rw[h3,Ai (show ¬Qg (nI ids i) 0 us<0 by omega)];rw[Int.sub_zero]at h3 ⊢;generalize Qg (nI ids i) 0 us=j at *;have hj:j<(us.length:Int):=by omega
  have hm:=Ao.1 hu _ (B6 h3);simp only[G9,Aa,Am,AM,Ab]at hm;have hf:=F9 hm.2;have hT:ckT fl f us sm g ids ids.length i x y z a b c D j=match (bif decide ((x,y,z)=DA (eF (aE us j))) then some (DA (eL (aE us j)),Du (wL (aE us j))) else bif decide ((x,y,z)=DA (eL (aE us j))) then some (DA (eF (aE us j)),Du (wL (aE us j))) else none:Option (T3×Int)) with
    |none=>some (xz sm x y z a b c D) |some r=>some (nCk fl f us (sm+r.2) g ids ids.length (i+1) r.1 a b c D):=by
   unfold ckT;rw[D1 h1 hj,J5 hm.1 (by omega),O0,O0,Ac (show(wL (aE us j)).length<=100000 by have:=hm.2;show(wL (us.getD j.toNat .any)).length<=_;omega),Dx (n:=i+1) (by omega) (by omega),Dx (n:=sm+Du (wL (aE us j))) (by show _<=sm+Du (wL (us.getD j.toNat .any));omega) (by show sm+Du (wL (us.getD j.toNat .any))<_;omega)];simp only[Aj];cases decide ((x,y,z)=DA (eF (aE us j))) with
   |true=>rfl
   |false=>
    simp only[Ap];cases decide ((x,y,z)=DA (eL (aE us j))) <;> rfl
  rw[hT,D1 h1 hj];simp only[Ap,Aj];cases fl with
  |false=>rfl
  |true=>
   show(bif IX (aE us j) then _ else _)=(match (bif IX (aE us j) then none else _:Option (T3×Int)) with |none=>_ |some r=>_)
   cases IX (aE us j) <;> rfl
def rz:LS->Bool
 |([.b _,.l _ us,.i sm,.l _ ids,.i len,.i i],[.i _,.i _,.i _,.i _,.i _,.i _,.m _])=>decide (len=(ids.length:Int))&&decide (0<=i)&&decide (i<=len)&&decide (ids.length<=100000)&&us.all G9&&decide (us.length<=1000)&&decide (0<=sm)&&decide (sm<=3037000499000*i)
 |_=>false
noncomputable def fCk:LS->DT (PX×List PV×List Row)
 |([.b fl,.l _ us,.i sm,.l _ ids,.i _,.i i],[.i x,.i y,.i z,.i a,.i b,.i c,.m D])=>
  .br (EB fl us (x,y,z) sm ((Dj ids).drop i.toNat)).1
   (.leaf (xCk (EB fl us (x,y,z) sm ((Dj ids).drop i.toNat)).2.2 (EB fl us (x,y,z) sm ((Dj ids).drop i.toNat)).2.1.1 (EB fl us (x,y,z) sm ((Dj ids).drop i.toNat)).2.1.2.1 (EB fl us (x,y,z) sm ((Dj ids).drop i.toNat)).2.1.2.2 a b c D))
   (.leaf (xz (EB fl us (x,y,z) sm ((Dj ids).drop i.toNat)).2.2 (EB fl us (x,y,z) sm ((Dj ids).drop i.toNat)).2.1.1 (EB fl us (x,y,z) sm ((Dj ids).drop i.toNat)).2.1.2.1 (EB fl us (x,y,z) sm ((Dj ids).drop i.toNat)).2.1.2.2 a b c D))
 |_=>.no
def mCk:LS->Nat
 |([.b _,.l _ _,.i _,.l _ _,.i len,.i i],_)=>(len-i).toNat
 |_=>0
theorem sCk:∀ s r,rz s=true->(fCk s).run=some r->r.1≠.normal/\(Dc Try.prog xy 60 21 (Dh Try.f21 6) [3,6,7,12,13,26,27,28] [6,7,10,11,13] (Lm.put s).1 (Lm.put s).2=some r \/
   ∃ s',Dc Try.prog xy 60 21 (Dh Try.f21 6) [3,6,7,12,13,26,27,28] [6,7,10,11,13] (Lm.put s).1 (Lm.put s).2=some (.normal,Lm.put s')/\rz s'=true/\mCk s'<mCk s/\(fCk s').run=some r):=by
 intro t r hp hr;unfold rz at hp;split at hp
 ·rename_i fl f us sm g ids len i x y z a b c D;simp only[Aa,Ab]at hp;obtain⟨⟨⟨⟨⟨⟨⟨rfl,h2⟩,h3⟩,h4⟩,h5⟩,h6⟩,h7⟩,h8⟩:=hp;have hr':=Gb hr;refine⟨by rw[hr'];cases(EB fl us (x,y,z) sm ((Dj ids).drop i.toNat)).1 <;> simp,?_⟩;rw[show Lm.put ([.b fl,.l f us,.i sm,.l g ids,.i (ids.length:Int),.i i],[.i x,.i y,.i z,.i a,.i b,.i c,.m D])=Lm.put (eO fl f us sm g ids ids.length i x y z a b c D) from rfl];by_cases hi:i<(ids.length:Int)
  ·rw[agk fl f us sm g ids i x y z a b c D h2 hi h5 h6 h7 (by omega) (by omega)];rw[Hw h2 hi]at hr';simp only[EB]at hr';rw[show((ids.getD i.toNat .any).cellAt 0).DN=nI ids i from rfl]at hr';cases hst:Vn fl us (x,y,z) (nI ids i) with
   |none=>rw[hst]at hr';exact .inl (by rw[hr'];rfl)
   |some q=>
    rw[hst]at hr';have hf:=XO h5 hst;obtain⟨⟨u0,u1,u2⟩,w⟩:=q;dsimp only at hf hr';refine .inr ⟨eO fl f us (sm+w) g ids ids.length (i+1) u0 u1 u2 a b c D,rfl,?_,by simp only[mCk];omega,?_⟩
    ·simp only[rz,Aa,Ab];exact⟨⟨⟨⟨⟨⟨⟨trivial,by omega⟩,by omega⟩,h4⟩,h5⟩,h6⟩,by omega⟩,by omega⟩
    ·rw[hr'];show(DT.br (EB fl us (u0,u1,u2) (sm+w) ((Dj ids).drop (i+1).toNat)).1 (.leaf _) (.leaf _)).run=_
     cases(EB fl us (u0,u1,u2) (sm+w) ((Dj ids).drop (i+1).toNat)).1 <;> rfl
  ·rw[qCk,Ai hi];rw[AB (by rw[EG];omega)]at hr';exact .inl (by rw[hr'];rfl)
 ·cases hp
noncomputable def R82:C9:=xy.Dr 21 6 [3,6,7,12,13,26,27,28] [false,false,false] Lm rz fCk
theorem jV:C4 Try.prog R82.env:=
 abd.Dr (n:=60) Try.func21 (show Try.f21.body=some (D3 Try.f21) by kernel_rfl) (show(loops (D3 Try.f21)).filter (fun b=>Ev b==6)=[Dh Try.f21 6] by kernel_rfl) [3,6,7,12,13,26,27,28] [6,7,10,11,13] [false,false,false] Lm mCk sCk
abbrev Mx(ws:List PV):List PV:=Dg (Dd false) ws
abbrev eP(fl:Bool)(ws:List PV)(s:T3)(ids:List PV):Bool×T3×Int:=EB fl (Mx ws) s 0 ((Dj ids).drop (0:Int).toNat)
theorem vK(f:Bool)(ws:List PV)(x y z a b c:Int)(fl:Bool)(g:Bool)(ids:List PV):DC Try.prog R82 60 21 [.Db f 49 ws,DU x y z,DU a b c,bv fl,.Db g 3 ids] =
 bif decide (ws.length<=1000)&&EL Ee ws then
 bif ry (ru false (Mx ws) ((Mx ws).length:Int) 0 x y z a b c []) then
 bif Hp [GP x y z,GP a b c] [GP x y z,GP a b c] then
 bif !Tm (mD ws) x y z then some (.D8 [iv 0,bv false]) else
 bif decide (ws.length<=1000)&&EL Ee ws then
 bif rz (eO fl false (Mx ws) 0 g ids (ids.length:Int) 0 x y z a b c (mD ws)) then
 bif (eP fl ws (x,y,z) ids).1 then
  bif !MS (eP fl ws (x,y,z) ids).2.1.1 (eP fl ws (x,y,z) ids).2.1.2.1 (eP fl ws (x,y,z) ids).2.1.2.2 a b c then some (.D8 [iv 0,bv false]) else some (.D8 [iv (eP fl ws (x,y,z) ids).2.2,bv true])
 else some (.D8 [iv 0,bv false]) else none else none else none else none else none:=by kernel_rfl
noncomputable def O1(ws:List PV)(fl:Bool)(s t:T3)(ids:List Int):Int×Bool:=
 @ite _ (E7 ws s) (Classical.propDecidable _) (bif (EB fl (Mx ws) s 0 ids).1&&decide ((EB fl (Mx ws) s 0 ids).2.1=t) then ((EB fl (Mx ws) s 0 ids).2.2,true) else (0,false)) (0,false)
theorem vL{ws:List PV}(h:IF ws)(x y z a b c:Int):ry (ru false (Mx ws) ((Mx ws).length:Int) 0 x y z a b c [])=true:=by
 have:(Mx ws).length<=ws.length:=EE (d:=Dd false) ws;have:=h.SO;simp only[ry,Aa,Ab];exact⟨⟨⟨⟨trivial,by omega⟩,by omega⟩,by omega⟩,NY h.G6⟩
theorem vM{fl g:Bool}{ws ids:List PV}(h:IF ws)(hi:ids.length<=100000)(x y z a b c:Int):rz (eO fl false (Mx ws) 0 g ids (ids.length:Int) 0 x y z a b c (mD ws))=true:=by
 have:(Mx ws).length<=ws.length:=EE (d:=Dd false) ws;have:=h.SO;simp only[rz,Aa,Ab];exact⟨⟨⟨⟨⟨⟨⟨trivial,by omega⟩,by omega⟩,hi⟩,GM h⟩,by omega⟩,by omega⟩,by omega⟩
theorem b7(f:Bool)(ws:List PV)(x y z a b c:Int)(fl:Bool)(g:Bool)(ids:List PV)(h:IF ws)(hN:Ei Ee ws)(hi:ids.length<=100000):
  DC Try.prog R82 60 21 [.Db f 49 ws,DU x y z,DU a b c,bv fl,.Db g 3 ids]=some (.D8 [iv (O1 ws fl (x,y,z) (a,b,c) (Dj ids)).1,bv (O1 ws fl (x,y,z) (a,b,c) (Dj ids)).2]):=by
 have hf:=h.SO;rw[vK,Ac (show ws.length<=1000 by omega),DX.2 hN,vL h,E5,vM h hi];simp only[A_,Aj];unfold O1;by_cases hs:E7 ws (x,y,z)
 ·have e0:eP fl ws (x,y,z) ids=EB fl (Mx ws) (x,y,z) 0 (Dj ids):=rfl;rw[Jy.2 hs,Ak hs,e0];simp only[BZ,Ap];generalize EB fl (Mx ws) (x,y,z) 0 (Dj ids)=r;obtain⟨r1,⟨u0,u1,u2⟩,r3⟩:=r;dsimp only;rw[show MS u0 u1 u2 a b c=decide ((u0,u1,u2)=(a,b,c)) from O0 (p:=DU a b c)];cases r1 with
  |false=>rfl
  |true=>cases decide ((u0,u1,u2)=(a,b,c)) <;> rfl
 ·have hg:Tm (mD ws) x y z=false:=by
   cases hh:Tm (mD ws) x y z with
   |true=>exact absurd (Jy.1 hh) hs
   |false=>rfl
  rw[hg,Aq hs];rfl
noncomputable def O2:List PV->Option (DT PV)
 | [.Db _ 49 ws,.agg [.val (.int .i64 x),.val (.int .i64 y),.val (.int .i64 z)],.agg [.val (.int .i64 a),.val (.int .i64 b),.val (.int .i64 c)],.val (.bool fl),.Db _ 3 ids]=>
  some (.br (dB (IF ws)&&EL Ee ws&&decide (ids.length<=100000)) (.leaf (.D8 [iv (O1 ws fl (x,y,z) (a,b,c) (Dj ids)).1,bv (O1 ws fl (x,y,z) (a,b,c) (Dj ids)).2])) .no)
 |_=>none
theorem vN:Hx.Df Try.prog 21:=(Cz jV (n:=60) (b7 false [] 0 0 0 0 0 0 false false [] ZD Vl (by simp))).1
theorem vO(args:List PV)(d:DT PV)(r:PV)(h:O2 args=some d)(hr:d.run=some r):Ds Try.prog 21 args r:=by
 unfold O2 at h;split at h
 ·rename_i f ws x y z a b c fl g ids;cases h;obtain⟨h1,rfl⟩:=DO hr;simp only[Aa,DB,DX,Ab]at h1;exact(Cz jV (n:=60) (b7 f ws x y z a b c fl g ids h1.1.1 h1.1.2 h1.2)).2
 ·cases h
noncomputable def oa:C9:=R82.DH 21 O2
theorem rA:C4 Try.prog oa.env:=jV.DH vN vO
def L9:S1:=⟨34,[(0,.Db 49),(1,Dm),(4,.ptr 0 1 0 0),(6,Dm)],[.Gx 49 8 (.agg [Dm,.nil,Dm,.str,.str,.bool,Dm,Dm])]⟩
abbrev lq(f:Bool)(ws:List PV)(id i:Int)(a b:Int)(cs nm:ByteArray)(st:Bool)(wt ds:Int):LS:=([.l f ws,.i id,.i i],[.i a,.i b,.s cs,.s nm,.b st,.i wt,.i ds])
noncomputable abbrev xWy(a b:Int)(cs nm:ByteArray)(st:Bool)(wt ds:Int):PX×List PV×List Row:=(.exit 0,tm 34 [(4,.ptr 0 1 0 0)],(L9.put (lq false [] 0 0 a b cs nm st wt ds)).2)
abbrev rWy(e:PV):PX×List PV×List Row:=(.ret,tm 34 [(4,.ptr 0 1 0 0),(5,bv true)],[{ es:=[Ee e],s:=8,t:=49,bv:=false }])
theorem qWy(f:Bool)(ws:List PV)(id i:Int)(a b:Int)(cs nm:ByteArray)(st:Bool)(wt ds:Int):Dc Try.prog oa 60 42 (Dh Try.f42 2) [0,1,4,6] [4,5] (L9.put (lq f ws id i a b cs nm st wt ds)).1 (L9.put (lq f ws id i a b cs nm st wt ds)).2 =
 bif decide (i<(ws.length:Int)) then bif F7 ws i then bif wI (aE ws i)==id then bif F7 ws i then bif cond true (decide (((wL (aE ws i)).length:Int) > 0)) false then bif F7 ws i then some (rWy (aE ws i)) else none
  else some (.normal,L9.put (lq f ws id (W (i+1)) a b cs nm st wt ds)) else none else some (.normal,L9.put (lq f ws id (W (i+1)) a b cs nm st wt ds)) else none else some (xWy a b cs nm st wt ds):=by kernel_rfl
def IG(id:Int)(e:PV):Bool:=wI e==id&&decide (((wL e).length:Int) > 0)
def oc:LS->Bool
 |([.l _ ws,.i _,.i i],[.i _,.i _,.s _,.s _,.b _,.i _,.i _])=>decide (0<=i)&&decide (i<=(ws.length:Int))&&decide (ws.length<=10000)
 |_=>false
noncomputable def fWy:LS->DT (PX×List PV×List Row)
 |([.l _ ws,.i id,.i i],[.i a,.i b,.s cs,.s nm,.b st,.i wt,.i ds])=>.br ((ws.drop i.toNat).any (IG id)) (.leaf (rWy (((ws.drop i.toNat).find? (IG id)).getD .any))) (.leaf (xWy a b cs nm st wt ds))
 |_=>.no
def xA:LS->Nat
 |([.l _ ws,.i _,.i i],_)=>((ws.length:Int)-i).toNat
 |_=>0
theorem sWy:∀ s r,oc s=true->(fWy s).run=some r->r.1≠.normal/\(Dc Try.prog oa 60 42 (Dh Try.f42 2) [0,1,4,6] [4,5] (L9.put s).1 (L9.put s).2=some r \/
   ∃ s',Dc Try.prog oa 60 42 (Dh Try.f42 2) [0,1,4,6] [4,5] (L9.put s).1 (L9.put s).2=some (.normal,L9.put s')/\oc s'=true/\xA s'<xA s/\(fWy s').run=some r):=by
 intro t r hp hr;unfold oc at hp;split at hp
 ·rename_i f ws id i a b cs nm st wt ds;simp only[Aa,Ab]at hp;obtain⟨⟨h2,h3⟩,h4⟩:=hp;have hr':=Gb hr;refine⟨by rw[hr'];cases(ws.drop i.toNat).any (IG id) <;> simp,?_⟩;rw[show L9.put ([.l f ws,.i id,.i i],[.i a,.i b,.s cs,.s nm,.b st,.i wt,.i ds])=L9.put (lq f ws id i a b cs nm st wt ds) from rfl,qWy];by_cases hi:i<(ws.length:Int)
  ·rw[Ac hi,D1 h2 hi,Dx (by omega) (by omega)];simp only[Aj];rw[Dt h2 hi,List.any_cons,CQ]at hr';have e0:IG id (ws.getD i.toNat .any)=(wI (aE ws i)==id&&decide (((wL (aE ws i)).length:Int) > 0)):=rfl;rw[e0]at hr';have hgo:(((ws.drop (i+1).toNat).any (IG id)=true->r=rWy (((ws.drop (i+1).toNat).find? (IG id)).getD .any))/\((ws.drop (i+1).toNat).any (IG id)=false->r=xWy a b cs nm st wt ds)) ->
     ∃ s',some (PX.normal,L9.put (lq f ws id (i+1) a b cs nm st wt ds))=some (PX.normal,L9.put s')/\oc s'=true/\xA s'<xA ([.l f ws,.i id,.i i],[.i a,.i b,.s cs,.s nm,.b st,.i wt,.i ds])/\(fWy s').run=some r:=fun hh=>by
    refine⟨lq f ws id (i+1) a b cs nm st wt ds,rfl,by simp only[oc,Aa,Ab];exact⟨⟨by omega,by omega⟩,h4⟩,by simp only[xA];omega,?_⟩;show(DT.br ((ws.drop (i+1).toNat).any (IG id)) (.leaf _) (.leaf _)).run=some r
    cases hq:(ws.drop (i+1).toNat).any (IG id) with
    |true=>rw[hh.1 hq];rfl
    |false=>rw[hh.2 hq];rfl
   cases h1:wI (aE ws i)==id with
   |false=>
    rw[h1]at hr';simp only[Cf,Bk]at hr';exact .inr (hgo ⟨fun hq=>by rw[hr',hq];rfl,fun hq=>by rw[hr',hq];rfl⟩)
   |true=>
    cases h5:decide (((wL (aE ws i)).length:Int) > 0) with
    |false=>
     rw[h1,h5]at hr';simp only[BW,Bk]at hr';exact .inr (hgo ⟨fun hq=>by rw[hr',hq];rfl,fun hq=>by rw[hr',hq];rfl⟩)
    |true=>
     rw[h1,h5]at hr';simp only[BW,Bool.true_or,Aj]at hr';exact .inl (by rw[hr'];rfl)
  ·rw[Ai hi,AB (by omega)] at *;exact .inl (by rw[hr'];rfl)
 ·cases hp
noncomputable def R84:C9:=oa.Dr 42 2 [0,1,4,6] [true] L9 oc fWy
theorem jW:C4 Try.prog R84.env:=
 rA.Dr (n:=60) Try.func42 (show Try.f42.body=some (D3 Try.f42) by kernel_rfl) (show(loops (D3 Try.f42)).filter (fun b=>Ev b==2)=[Dh Try.f42 2] by kernel_rfl) [0,1,4,6] [4,5] [true] L9 xA sWy
abbrev wy0:PV:=.agg [iv 0,.val (.slice none 0 0),iv 0,.val (.string .empty),.val (.string .empty),bv false,iv 0,iv 0]
theorem agp(f:Bool)(ws:List PV)(id:Int):DC Try.prog R84 60 42 [.Db f 49 ws,iv id] =
 bif oc (lq f ws id 0 0 0 .empty .empty false 0 0) then bif ((ws.drop (0:Int).toNat).any (IG id)) then some (.D8 [Ee (((ws.drop (0:Int).toNat).find? (IG id)).getD .any),bv true]) else some (.D8 [wy0,bv false]) else none:=by kernel_rfl
theorem rB(f:Bool)(ws:List PV)(id:Int)(h:ws.length<=10000):DC Try.prog R84 60 42 [.Db f 49 ws,iv id] =
 bif ws.any (IG id) then some (.D8 [Ee ((ws.find? (IG id)).getD .any),bv true]) else some (.D8 [wy0,bv false]):=by
 have hp:oc (lq f ws id 0 0 0 .empty .empty false 0 0)=true:=by
  simp only[oc,Aa,Ab];exact⟨⟨by omega,by omega⟩,h⟩
 rw[agp,hp,Aj,show(0:Int).toNat=0 from rfl,AH]
def vP:List PV->Option (DT PV)
 | [.Db _ 49 ws,.val (.int .i64 id)]=>some (.br (decide (ws.length<=10000)) (.br (ws.any (IG id)) (.leaf (.D8 [Ee ((ws.find? (IG id)).getD .any),bv true])) (.leaf (.D8 [wy0,bv false]))) .no)
 |_=>none
theorem agq:Hx.Df Try.prog 42:=(Cz jW (n:=60) ((rB false [] 0 (by simp)).trans (by rfl))).1
theorem agr(args:List PV)(d:DT PV)(r:PV)(h:vP args=some d)(hr:d.run=some r):Ds Try.prog 42 args r:=by
 unfold vP at h;split at h
 ·rename_i f ws id;cases h;obtain⟨h1,rfl⟩:=bF hr;refine(Cz jW (n:=60) ((rB f ws id (AO h1)).trans ?_)).2;cases ws.any (IG id) <;> rfl
 ·cases h
noncomputable def xB:C9:=(R84.DH 42 vP).DH 19 Zx
theorem abe:C4 Try.prog xB.env:=(jW.DH agq agr).DH qg qh
def Ln:S1:=⟨75,[(0,.Db 49),(3,.bool),(4,.Db 3),(7,.ptr 1 1 0 0),(12,.ptr 2 1 0 0),(13,Dm),(14,Dm)],[.one 30 3 aS,.one 30 3 aS,.one 30 3 aS]⟩
abbrev eQ(f:Bool)(ws:List PV)(fl g:Bool)(ids:List PV)(sm i p0 p1 p2 a b c x y z:Int):LS:=([.l f ws,.b fl,.l g ids,.i sm,.i i],[.i p0,.i p1,.i p2,.i a,.i b,.i c,.i x,.i y,.i z])
noncomputable abbrev hRk(p0 p1 p2 a b c x y z:Int):List Row:=(Ln.put (eQ false [] false false [] 0 0 p0 p1 p2 a b c x y z)).2
noncomputable abbrev xRk(sm p0 p1 p2 a b c x y z:Int):PX×List PV×List Row:=(.exit 0,tm 75 [(7,.ptr 1 1 0 0),(12,.ptr 2 1 0 0),(13,iv sm)],hRk p0 p1 p2 a b c x y z)
noncomputable abbrev xD(sm p0 p1 p2 a b c x y z:Int):PX×List PV×List Row:=(.ret,tm 75 [(7,.ptr 1 1 0 0),(10,iv 0),(11,bv false),(12,.ptr 2 1 0 0),(13,iv sm)],hRk p0 p1 p2 a b c x y z)
noncomputable def rkG(f:Bool)(ws:List PV)(fl g:Bool)(ids:List PV)(sm i p0 p1 p2 a b c x y z:Int)(e:PV):Option (PX×List PV×List Row):=
 bif MS x y z (gX (eF e)) (gY (eF e)) (gL (eF e)) then
  bif decide ((wL e).length<=100000) then some (.normal,Ln.put (eQ f ws fl g ids (W (sm+Du (wL e))) (W (i+1)) p0 p1 p2 a b c (gX (eL e)) (gY (eL e)) (gL (eL e)))) else none
 else bif decide ((wL e).length<=100000) then some (.normal,Ln.put (eQ f ws fl g ids (W (sm+Du (wL e))) (W (i+1)) p0 p1 p2 a b c (gX (eF e)) (gY (eF e)) (gL (eF e)))) else none
noncomputable def rkT(f:Bool)(ws:List PV)(fl g:Bool)(ids:List PV)(sm i p0 p1 p2 a b c x y z:Int)(e:PV):Option (PX×List PV×List Row):=
 bif PE (wL e) then bif !MS x y z (gX (eF e)) (gY (eF e)) (gL (eF e)) then bif cond true (!MS x y z (gX (eL e)) (gY (eL e)) (gL (eL e))) false then some (xD sm p0 p1 p2 a b c x y z) else rkG f ws fl g ids sm i p0 p1 p2 a b c x y z e
  else rkG f ws fl g ids sm i p0 p1 p2 a b c x y z e else none
abbrev fnW(ws:List PV)(id:Int):PV:=(ws.find? (IG id)).getD .any
theorem qRk(f:Bool)(ws:List PV)(fl g:Bool)(ids:List PV)(sm i p0 p1 p2 a b c x y z:Int):Dc Try.prog xB 60 22 (Dh Try.f22 6) [0,3,4,7,12,13,14] [7,10,11,12,13] (Ln.put (eQ f ws fl g ids sm i p0 p1 p2 a b c x y z)).1 (Ln.put (eQ f ws fl g ids sm i p0 p1 p2 a b c x y z)).2 =
 bif decide (i<(ids.length:Int)) then bif F7 ids i then bif decide (ws.length<=10000) then bif ws.any (IG (nI ids i)) then
  bif fl then bif cond false true (cond true (IX (fnW ws (nI ids i))) false) then some (xD sm p0 p1 p2 a b c x y z) else rkT f ws fl g ids sm i p0 p1 p2 a b c x y z (fnW ws (nI ids i))
  else rkT f ws fl g ids sm i p0 p1 p2 a b c x y z (fnW ws (nI ids i))
 else some (xD sm p0 p1 p2 a b c x y z) else none else none else some (xRk sm p0 p1 p2 a b c x y z):=by kernel_rfl
theorem od{id:Int}{ws:List PV}:(Mx ws).find? (fun e=>wI e==id)=ws.find? (IG id):=by
 show(ws.filter _).find? _=_
 rw[List.find?_filter];congr 1
 funext e
 unfold IG Dd;rw[Bool.eq_iff_iff];simp only[Cf,CC,Aa,Ab,Am,AM,Av];omega
noncomputable abbrev nRk(f:Bool)(ws:List PV)(fl g:Bool)(ids:List PV)(sm i p0 p1 p2 a b c:Int)(t:T3):PX×List PV×List Row:=(.normal,Ln.put (eQ f ws fl g ids sm i p0 p1 p2 a b c t.1 t.2.1 t.2.2))
theorem agu(f:Bool)(ws:List PV)(fl g:Bool)(ids:List PV)(sm i p0 p1 p2 a b c x y z:Int)(h0:0<=i)(hi:i<(ids.length:Int))(hu:(Mx ws).all G9=true)(hl:ws.length<=1000)(hs:0<=sm)(hs2:sm<=1000000000000000000)(hids:ids.length<=1000000):
 Dc Try.prog xB 60 22 (Dh Try.f22 6) [0,3,4,7,12,13,14] [7,10,11,12,13] (Ln.put (eQ f ws fl g ids sm i p0 p1 p2 a b c x y z)).1 (Ln.put (eQ f ws fl g ids sm i p0 p1 p2 a b c x y z)).2 =
 match Vn fl (Mx ws) (x,y,z) (nI ids i) with |none=>some (xD sm p0 p1 p2 a b c x y z) |some r=>some (nRk f ws fl g ids (sm+r.2) (i+1) p0 p1 p2 a b c r.1):=by
 rw[qRk,Ac hi,D1 h0 hi,Ac (show ws.length<=10000 by omega)];simp only[Aj];unfold Vn;have hfk:=od (id:=nI ids i) (ws:=ws);cases hq:ws.find? (IG (nI ids i)) with
 |none=>
  have ha:ws.any (IG (nI ids i))=false:=by
   rw[List.any_eq_false];intro e he hh;rw[List.find?_eq_none]at hq;exact hq e he hh
  rw[ha,hfk,hq];rfl
 |some e=>
  have ha:ws.any (IG (nI ids i))=true:=by
   rw[List.any_eq_true];exact⟨e,B6 hq,List.find?_some hq⟩
  have hm:=Ao.1 hu e (B6 (hfk.trans hq));simp only[G9,Aa,Am,AM,Ab]at hm;have hf:=F9 hm.2;have hfn:fnW ws (nI ids i)=e:=by show(ws.find? _).getD _=_;rw[hq];rfl
  have hT:rkT f ws fl g ids sm i p0 p1 p2 a b c x y z e=match (bif decide ((x,y,z)=DA (eF e)) then some (DA (eL e),Du (wL e)) else bif decide ((x,y,z)=DA (eL e)) then some (DA (eF e),Du (wL e)) else none:Option (T3×Int)) with
    |none=>some (xD sm p0 p1 p2 a b c x y z) |some r=>some (nRk f ws fl g ids (sm+r.2) (i+1) p0 p1 p2 a b c r.1):=by
   unfold rkT rkG;rw[J5 hm.1 (by omega),O0,O0,Ac (show(wL e).length<=100000 by omega),Dx (n:=i+1) (by omega) (by omega),Dx (n:=sm+Du (wL e)) (by omega) (by omega)];simp only[Aj];cases decide ((x,y,z)=DA (eF e)) with
   |true=>rfl
   |false=>
    simp only[BT,Aj,Ap];cases decide ((x,y,z)=DA (eL e)) <;> rfl
  rw[ha,hfk,hq,hfn,hT];simp only[Aj,Ap];cases fl with
  |false=>rfl
  |true=>
   show(bif IX e then _ else _)=(match (bif IX e then none else _:Option (T3×Int)) with |none=>_ |some r=>_)
   cases IX e <;> rfl
noncomputable def rD:LS->Bool
 |([.l _ ws,.b _,.l _ ids,.i sm,.i i],[.i _,.i _,.i _,.i _,.i _,.i _,.i _,.i _,.i _])=>decide (0<=i)&&decide (i<=(ids.length:Int))&&decide (ids.length<=100000)&&dB (IF ws)&&decide (0<=sm)&&decide (sm<=3037000499000*i)
 |_=>false
noncomputable def fRk:LS->DT (PX×List PV×List Row)
 |([.l _ ws,.b fl,.l _ ids,.i sm,.i i],[.i p0,.i p1,.i p2,.i a,.i b,.i c,.i x,.i y,.i z])=>
  .br (EB fl (Mx ws) (x,y,z) sm ((Dj ids).drop i.toNat)).1
   (.leaf (xRk (EB fl (Mx ws) (x,y,z) sm ((Dj ids).drop i.toNat)).2.2 p0 p1 p2 a b c (EB fl (Mx ws) (x,y,z) sm ((Dj ids).drop i.toNat)).2.1.1 (EB fl (Mx ws) (x,y,z) sm ((Dj ids).drop i.toNat)).2.1.2.1 (EB fl (Mx ws) (x,y,z) sm ((Dj ids).drop i.toNat)).2.1.2.2))
   (.leaf (xD (EB fl (Mx ws) (x,y,z) sm ((Dj ids).drop i.toNat)).2.2 p0 p1 p2 a b c (EB fl (Mx ws) (x,y,z) sm ((Dj ids).drop i.toNat)).2.1.1 (EB fl (Mx ws) (x,y,z) sm ((Dj ids).drop i.toNat)).2.1.2.1 (EB fl (Mx ws) (x,y,z) sm ((Dj ids).drop i.toNat)).2.1.2.2))
 |_=>.no
def mRk:LS->Nat
 |([.l _ _,.b _,.l _ ids,.i _,.i i],_)=>((ids.length:Int)-i).toNat
 |_=>0
theorem sRk:∀ s r,rD s=true->(fRk s).run=some r->r.1≠.normal/\(Dc Try.prog xB 60 22 (Dh Try.f22 6) [0,3,4,7,12,13,14] [7,10,11,12,13] (Ln.put s).1 (Ln.put s).2=some r \/
   ∃ s',Dc Try.prog xB 60 22 (Dh Try.f22 6) [0,3,4,7,12,13,14] [7,10,11,12,13] (Ln.put s).1 (Ln.put s).2=some (.normal,Ln.put s')/\rD s'=true/\mRk s'<mRk s/\(fRk s').run=some r):=by
 intro t r hp hr;unfold rD at hp;split at hp
 ·rename_i f ws fl g ids sm i p0 p1 p2 a b c x y z;simp only[Aa,Ab,DB]at hp;obtain⟨⟨⟨⟨⟨h2,h3⟩,h4⟩,h5⟩,h7⟩,h8⟩:=hp;have hr':=Gb hr;refine⟨by rw[hr'];cases(EB fl (Mx ws) (x,y,z) sm ((Dj ids).drop i.toNat)).1 <;> simp,?_⟩;rw[show Ln.put ([.l f ws,.b fl,.l g ids,.i sm,.i i],[.i p0,.i p1,.i p2,.i a,.i b,.i c,.i x,.i y,.i z])=Ln.put (eQ f ws fl g ids sm i p0 p1 p2 a b c x y z) from rfl];by_cases hi:i<(ids.length:Int)
  ·have hfw:=h5.SO;rw[agu f ws fl g ids sm i p0 p1 p2 a b c x y z h2 hi (GM h5) (by omega) h7 (by omega) (by omega)];rw[Hw h2 hi]at hr';simp only[EB]at hr';rw[show((ids.getD i.toNat .any).cellAt 0).DN=nI ids i from rfl]at hr';cases hst:Vn fl (Mx ws) (x,y,z) (nI ids i) with
   |none=>rw[hst]at hr';exact .inl (by rw[hr'];rfl)
   |some q=>
    rw[hst]at hr';have hf:=XO (GM h5) hst;obtain⟨⟨u0,u1,u2⟩,w⟩:=q;dsimp only at hf hr';refine .inr ⟨eQ f ws fl g ids (sm+w) (i+1) p0 p1 p2 a b c u0 u1 u2,rfl,?_,by simp only[mRk];omega,?_⟩
    ·simp only[rD,Aa,Ab,DB];exact⟨⟨⟨⟨⟨by omega,by omega⟩,h4⟩,h5⟩,by omega⟩,by omega⟩
    ·rw[hr'];show(DT.br (EB fl (Mx ws) (u0,u1,u2) (sm+w) ((Dj ids).drop (i+1).toNat)).1 (.leaf _) (.leaf _)).run=_
     cases(EB fl (Mx ws) (u0,u1,u2) (sm+w) ((Dj ids).drop (i+1).toNat)).1 <;> rfl
  ·rw[qRk,Ai hi];rw[AB (by rw[EG];omega)]at hr';exact .inl (by rw[hr'];rfl)
 ·cases hp
noncomputable def R86:C9:=xB.Dr 22 6 [0,3,4,7,12,13,14] [false,false,false] Ln rD fRk
theorem rF:C4 Try.prog R86.env:=
 abe.Dr (n:=60) Try.func22 (show Try.f22.body=some (D3 Try.f22) by kernel_rfl) (show(loops (D3 Try.f22)).filter (fun b=>Ev b==6)=[Dh Try.f22 6] by kernel_rfl) [0,3,4,7,12,13,14] [7,10,11,12,13] [false,false,false] Ln mRk sRk
theorem agx(f:Bool)(ws:List PV)(x y z a b c:Int)(fl:Bool)(g:Bool)(ids:List PV):DC Try.prog R86 60 22 [.Db f 49 ws,DU x y z,DU a b c,bv fl,.Db g 3 ids] =
 bif decide (ws.length<=1000)&&G6 ws then bif decide ((DL ws []).length<=10000) then bif decide (DI x y z 0 (DL ws [])<0) then some (.D8 [iv 0,bv false]) else
 bif rD (eQ f ws fl g ids 0 0 x y z a b c x y z) then
 bif (eP fl ws (x,y,z) ids).1 then
  bif !MS (eP fl ws (x,y,z) ids).2.1.1 (eP fl ws (x,y,z) ids).2.1.2.1 (eP fl ws (x,y,z) ids).2.1.2.2 a b c then some (.D8 [iv 0,bv false]) else some (.D8 [iv (eP fl ws (x,y,z) ids).2.2,bv true])
 else some (.D8 [iv 0,bv false]) else none else none else none:=by kernel_rfl
theorem rG(f:Bool)(ws:List PV)(x y z a b c:Int)(fl:Bool)(g:Bool)(ids:List PV)(h:IF ws)(hi:ids.length<=100000):
  DC Try.prog R86 60 22 [.Db f 49 ws,DU x y z,DU a b c,bv fl,.Db g 3 ids]=some (.D8 [iv (O1 ws fl (x,y,z) (a,b,c) (Dj ids)).1,bv (O1 ws fl (x,y,z) (a,b,c) (Dj ids)).2]):=by
 obtain⟨h1,h2⟩:=jd h;have hf:=h.SO;have hp:rD (eQ f ws fl g ids 0 0 x y z a b c x y z)=true:=by
  simp only[rD,Aa,Ab,DB];exact⟨⟨⟨⟨⟨by omega,by omega⟩,hi⟩,h⟩,by omega⟩,by omega⟩
 rw[agx,Ac (show ws.length<=1000 by omega),h.G6,Ac h1.len,hp];simp only[A_,Aj];unfold O1;cases hd:decide (DI x y z 0 (DL ws [])<0) with
 |true=>
  rw[Ab,Gu (by omega),FW]at hd;rw[Aq hd];rfl
 |false=>
  rw[AS,Gu (by omega),C7,FW]at hd;have e0:eP fl ws (x,y,z) ids=EB fl (Mx ws) (x,y,z) 0 (Dj ids):=rfl;rw[Ak hd,e0];generalize EB fl (Mx ws) (x,y,z) 0 (Dj ids)=r;obtain⟨r1,⟨u0,u1,u2⟩,r3⟩:=r;dsimp only;rw[show MS u0 u1 u2 a b c=decide ((u0,u1,u2)=(a,b,c)) from O0 (p:=DU a b c)];cases r1 with
  |false=>rfl
  |true=>cases decide ((u0,u1,u2)=(a,b,c)) <;> rfl
theorem agy:Hx.Df Try.prog 22:=(Cz rF (n:=60) (rG false [] 0 0 0 0 0 0 false false [] ZD (by simp))).1
theorem agz(args:List PV)(d:DT PV)(r:PV)(h:O2 args=some d)(hr:d.run=some r):Ds Try.prog 22 args r:=by
 unfold O2 at h;split at h
 ·rename_i f ws x y z a b c fl g ids;cases h;obtain⟨h1,rfl⟩:=DO hr;simp only[Aa,DB,DX,Ab]at h1;exact(Cz rF (n:=60) (rG f ws x y z a b c fl g ids h1.1.1 h1.2)).2
 ·cases h
def Qh:S1:=⟨26,[(0,.Db 3),(1,.Db 3),(5,Dm)],[]⟩
abbrev vQ(f:Bool)(xs:List PV)(g:Bool)(ys:List PV)(i:Int):LS:=([.l f xs,.l g ys,.i i],[])
theorem qSm(f:Bool)(xs:List PV)(g:Bool)(ys:List PV)(i:Int):Dc Try.prog oa 60 14 (Dh Try.f14 4) [0,1,5] [4] (Qh.put (vQ f xs g ys i)).1 (Qh.put (vQ f xs g ys i)).2 =
 bif decide (i<(xs.length:Int)) then bif F7 xs i then bif F7 ys i then bif nI xs i != nI ys i then some (.ret,tm 26 [(4,bv false)],[]) else some (.normal,Qh.put (vQ f xs g ys (W (i+1)))) else none else none
 else some (.exit 0,tm 26 [],[]):=by kernel_rfl
def rH:LS->Bool
 |([.l _ xs,.l _ ys,.i i],[])=>decide (xs.length=ys.length)&&decide (0<=i)&&decide (i<=(xs.length:Int))&&decide (xs.length<=1000000)
 |_=>false
def fSm:LS->DT (PX×List PV×List Row)
 |([.l _ xs,.l _ ys,.i i],[])=>.br (decide ((Dj xs).drop i.toNat=(Dj ys).drop i.toNat)) (.leaf (.exit 0,tm 26 [],[])) (.leaf (.ret,tm 26 [(4,bv false)],[]))
 |_=>.no
def mSm:LS->Nat
 |([.l _ xs,.l _ _,.i i],_)=>((xs.length:Int)-i).toNat
 |_=>0
theorem sSm:∀ s r,rH s=true->(fSm s).run=some r->r.1≠.normal/\(Dc Try.prog oa 60 14 (Dh Try.f14 4) [0,1,5] [4] (Qh.put s).1 (Qh.put s).2=some r \/
   ∃ s',Dc Try.prog oa 60 14 (Dh Try.f14 4) [0,1,5] [4] (Qh.put s).1 (Qh.put s).2=some (.normal,Qh.put s')/\rH s'=true/\mSm s'<mSm s/\(fSm s').run=some r):=by
 intro t r hp hr;unfold rH at hp;split at hp
 ·rename_i f xs g ys i;simp only[Aa,Ab]at hp;obtain⟨⟨⟨h1,h2⟩,h3⟩,h4⟩:=hp;have hr':=Gb hr;refine⟨by rw[hr'];cases decide ((Dj xs).drop i.toNat=(Dj ys).drop i.toNat) <;> simp,?_⟩;rw[show Qh.put ([.l f xs,.l g ys,.i i],[])=Qh.put (vQ f xs g ys i) from rfl,qSm];by_cases hi:i<(xs.length:Int)
  ·rw[Ac hi,D1 h2 hi,D1 h2 (by omega),Dx (by omega) (by omega)];simp only[Aj];rw[Hw h2 hi,Hw h2 (show i<(ys.length:Int) by omega)]at hr';rw[show((xs.getD i.toNat .any).cellAt 0).DN=nI xs i from rfl,show((ys.getD i.toNat .any).cellAt 0).DN=nI ys i from rfl]at hr';by_cases he:nI xs i=nI ys i
   ·rw[show(nI xs i != nI ys i)=false by simp[he]];refine .inr ⟨vQ f xs g ys (i+1),rfl,by simp only[rH,Aa,Ab];exact⟨⟨⟨h1,by omega⟩,by omega⟩,h4⟩,by simp only[mSm];omega,?_⟩;rw[hr'];have:decide (nI xs i::(Dj xs).drop (i+1).toNat=nI ys i::(Dj ys).drop (i+1).toNat)=decide ((Dj xs).drop (i+1).toNat=(Dj ys).drop (i+1).toNat):=by
     rw[B2,he];simp
    rw[this];show(DT.br (decide ((Dj xs).drop (i+1).toNat=(Dj ys).drop (i+1).toNat)) (.leaf _) (.leaf _)).run=_
    cases decide ((Dj xs).drop (i+1).toNat=(Dj ys).drop (i+1).toNat) <;> rfl
   ·rw[show(nI xs i != nI ys i)=true by simp[he]];rw[Ai (fun hh=>he (List.cons.inj hh).1)]at hr';exact .inl (by rw[hr'];rfl)
  ·rw[Ai hi];rw[AB (by rw[EG];omega),AB (by rw[EG];omega),Ac rfl]at hr';exact .inl (by rw[hr'];rfl)
 ·cases hp
noncomputable def R88:C9:=oa.Dr 14 4 [0,1,5] [] Qh rH fSm
theorem jX:C4 Try.prog R88.env:=
 rA.Dr (n:=60) Try.func14 (show Try.f14.body=some (D3 Try.f14) by kernel_rfl) (show(loops (D3 Try.f14)).filter (fun b=>Ev b==4)=[Dh Try.f14 4] by kernel_rfl) [0,1,5] [4] [] Qh mSm sSm
theorem abf(f:Bool)(xs:List PV)(g:Bool)(ys:List PV):DC Try.prog R88 60 14 [.Db f 3 xs,.Db g 3 ys] =
 bif (xs.length:Int) != (ys.length:Int) then some (bv false) else bif rH (vQ f xs g ys 0) then bif decide ((Dj xs).drop (0:Int).toNat=(Dj ys).drop (0:Int).toNat) then some (bv true) else some (bv false) else none:=by kernel_rfl
theorem jY(f:Bool)(xs:List PV)(g:Bool)(ys:List PV)(h:xs.length<=1000000):DC Try.prog R88 60 14 [.Db f 3 xs,.Db g 3 ys]=some (bv (decide (Dj xs=Dj ys))):=by
 rw[abf];by_cases hl:xs.length=ys.length
 ·have hp:rH (vQ f xs g ys 0)=true:=by
   simp only[rH,Aa,Ab];exact⟨⟨⟨hl,by omega⟩,by omega⟩,h⟩
  rw[show((xs.length:Int) != (ys.length:Int))=false by simp[hl],hp,show(0:Int).toNat=0 from rfl,AH,AH];cases decide (Dj xs=Dj ys) <;> rfl
 ·rw[show((xs.length:Int) != (ys.length:Int))=true by simp;omega,show decide (Dj xs=Dj ys)=false from Ai (fun e=>hl (by have:=congrArg List.length e;rwa [EG,EG]at this))];rfl
def jZ:List PV->Option (DT PV)
 | [.Db _ 3 xs,.Db _ 3 ys]=>some (.br (decide (xs.length<=1000000)) (.leaf (bv (decide (Dj xs=Dj ys)))) .no)
 |_=>none
theorem abg:Hx.Df Try.prog 14:=(Cz jX (n:=60) (jY false [] false [] (by simp))).1
theorem abh(args:List PV)(d:DT PV)(r:PV)(h:jZ args=some d)(hr:d.run=some r):Ds Try.prog 14 args r:=by
 unfold jZ at h;split at h
 ·rename_i f xs g ys;cases h;obtain⟨h1,rfl⟩:=DO hr;exact(Cz jX (n:=60) (jY f xs g ys (AO h1))).2
 ·cases h
noncomputable def R89:C9:=R88.DH 14 jZ
theorem abj:C4 Try.prog R89.env:=jX.DH abg abh
noncomputable def MT1:C9:=M7.GH 85 3 [(1201,28,2)]
theorem abl:C4 Try.prog MT1.env:=IM.GH 85 3 [(1201,28,2)]
def O3:S1:=⟨31,[(1,.ptr 0 1 0 0),(2,.ptr 1 1 0 0),(3,.ptr 2 1 0 0),(4,Dm)],[.one 147 4 (.agg [Dm,.Db 28,Dm,Dm]),.Gx 147 4 (.agg [Dm,.nil,Dm,Dm]),.Gx 147 4 (.agg [Dm,.sl 3,Dm,Dm]),.many 28 2]⟩
abbrev rI(i id:Int)(f:Bool)(ps:List PV)(lf rt b0 b1 b2 c0:Int)(n l:Nat)(c1 c2:Int)(nl:Bool)(es:List PV):LS:=([.i i],[.i id,.l f ps,.i lf,.i rt,.i b0,.i b1,.i b2,.i c0,.n n,.n l,.i c1,.i c2,.l nl es])
noncomputable abbrev xTu(id:Int)(f:Bool)(ps:List PV)(lf rt b0 b1 b2 c0:Int)(n l:Nat)(c1 c2:Int)(nl:Bool)(es:List PV):PX×List PV×List Row:=
 (.exit 0,tm 31 [(2,.ptr 1 1 0 0),(3,.ptr 2 1 0 0)],(O3.put (rI 0 id f ps lf rt b0 b1 b2 c0 n l c1 c2 nl es)).2)
abbrev ptN(e:PV):PV:=FL (e.cellAt 0).DN (e.cellAt 1).DN
theorem qTu(i id:Int)(f:Bool)(ps:List PV)(lf rt b0 b1 b2 c0:Int)(n l:Nat)(c1 c2:Int)(nl:Bool)(es:List PV):Dc Try.prog MT1 60 85 (Dh Try.f85 3) [1,2,3,4] [2,3] (O3.put (rI i id f ps lf rt b0 b1 b2 c0 n l c1 c2 nl es)).1 (O3.put (rI i id f ps lf rt b0 b1 b2 c0 n l c1 c2 nl es)).2 =
 bif decide (i ≥ 0) then bif F7 ps i then bif true&&decide (es.length=n)&&decide (n=l)&&decide ((n+1)*16<=140737488355328) then
  some (.normal,O3.put (rI (W (i-1)) id f ps lf rt b0 b1 b2 c0 (n+1) (n+1) c1 c2 (nl&&false) (es++[ptN (aE ps i)]))) else none else none
 else some (xTu id f ps lf rt b0 b1 b2 c0 n l c1 c2 nl es):=by kernel_rfl
def Qi(ps:List PV):Nat->List PV
 |0=>[]
 |m+1=>ptN (ps.getD m .any)::Qi ps m
theorem N9(ps:List PV):∀ m,(Qi ps m).length=m
 |0=>rfl
 |m+1=>by rw[Qi,As,N9]
def rJ:LS->Bool
 |([.i i],[.i _,.l _ ps,.i _,.i _,.i _,.i _,.i _,.i _,.n n,.n l,.i _,.i _,.l _ es])=>decide (n=es.length)&&decide (l=es.length)&&decide (-1<=i)&&decide (i<(ps.length:Int))&&decide (ps.length<=1000)&&decide ((es.length:Int)+i<=2000)
 |_=>false
noncomputable def fTu:LS->DT (PX×List PV×List Row)
 |([.i i],[.i id,.l f ps,.i lf,.i rt,.i b0,.i b1,.i b2,.i c0,.n _,.n _,.i c1,.i c2,.l nl es])=>
  .leaf (xTu id f ps lf rt b0 b1 b2 c0 (es.length+(i+1).toNat) (es.length+(i+1).toNat) c1 c2 (nl&&decide ((i+1).toNat=0)) (es++Qi ps (i+1).toNat))
 |_=>.no
def mTu:LS->Nat
 |([.i i],_)=>(i+1).toNat
 |_=>0
theorem sTu:∀ s r,rJ s=true->(fTu s).run=some r->r.1≠.normal/\(Dc Try.prog MT1 60 85 (Dh Try.f85 3) [1,2,3,4] [2,3] (O3.put s).1 (O3.put s).2=some r \/
   ∃ s',Dc Try.prog MT1 60 85 (Dh Try.f85 3) [1,2,3,4] [2,3] (O3.put s).1 (O3.put s).2=some (.normal,O3.put s')/\rJ s'=true/\mTu s'<mTu s/\(fTu s').run=some r):=by
 intro t r hp hr;unfold rJ at hp;split at hp
 ·rename_i i id f ps lf rt b0 b1 b2 c0 n l c1 c2 nl es;simp only[Aa,Ab]at hp;obtain⟨⟨⟨⟨⟨rfl,rfl⟩,h2⟩,h3⟩,h4⟩,h5⟩:=hp;have hr':=(Ah hr).symm;refine⟨by rw[hr'];simp,?_⟩;rw[show O3.put ([.i i],[.i id,.l f ps,.i lf,.i rt,.i b0,.i b1,.i b2,.i c0,.n es.length,.n es.length,.i c1,.i c2,.l nl es])=O3.put (rI i id f ps lf rt b0 b1 b2 c0 es.length es.length c1 c2 nl es) from rfl,qTu];by_cases hi:i ≥ 0
  ·obtain⟨m,hm⟩:∃ m,(i+1).toNat=m+1:=⟨(i+1).toNat-1,by omega⟩;have hm2:(i-1+1).toNat=m:=by omega
   have hm3:i.toNat=m:=by omega
   rw[Ac hi,D1 (by omega) h3,Dx (n:=i-1) (by omega) (by omega),show(true&&decide (es.length=es.length)&&decide (es.length=es.length)&&decide ((es.length+1)*16<=140737488355328))=true by simp;omega];simp only[Aj,BG];rw[hm]at hr';refine .inr ⟨rI (i-1) id f ps lf rt b0 b1 b2 c0 (es.length+1) (es.length+1) c1 c2 false (es++[ptN (aE ps i)]),rfl,?_,by simp only[mTu];omega,?_⟩
   ·simp only[rJ,Aa,Ab,Ar,As,AC];exact⟨⟨⟨⟨⟨trivial,trivial⟩,by omega⟩,by omega⟩,h4⟩,by omega⟩
   ·rw[hr'];simp only[fTu,hm2,DT.run,Ar,As,AC,Qi];rw[BA,show es.length+(0+1)+m=es.length+(m+1) by omega,show aE ps i=ps.getD m .any by unfold aE;rw[hm3]];simp
  ·rw[Ai hi];refine .inl ?_;rw[hr',show(i+1).toNat=0 by omega,By];simp only[Qi,BV,CV,Br];rfl
 ·cases hp
noncomputable def MT2:C9:=MT1.Dr 85 3 [1,2,3,4] [true,true,true,true] O3 rJ fTu
theorem rK:C4 Try.prog MT2.env:=
 abl.Dr (n:=60) Try.func85 (show Try.f85.body=some (D3 Try.f85) by kernel_rfl) (show(loops (D3 Try.f85)).filter (fun b=>Ev b==3)=[Dh Try.f85 3] by kernel_rfl) [1,2,3,4] [2,3] [true,true,true,true] O3 mTu sTu
theorem og(id:Int)(f:Bool)(ps:List PV)(lf rt:Int):DC Try.prog MT2 60 85 [.agg [iv id,.Db f 28 ps,iv lf,iv rt]] =
 bif rJ (rI (W ((ps.length:Int)-1)) id f ps lf rt 0 0 0 id 0 0 rt lf true []) then
  HV ([]++Qi ps (W ((ps.length:Int)-1)+1).toNat) (0+(W ((ps.length:Int)-1)+1).toNat) (some (.agg [iv id,.Db false 28 ((([]++Qi ps (W ((ps.length:Int)-1)+1).toNat).drop 0).take (0+(W ((ps.length:Int)-1)+1).toNat)),iv rt,iv lf])) else none:=by kernel_rfl
theorem XP(id:Int)(f:Bool)(ps:List PV)(lf rt:Int)(h:ps.length<=1000):DC Try.prog MT2 60 85 [.agg [iv id,.Db f 28 ps,iv lf,iv rt]]=some (.agg [iv id,.Db false 28 (Qi ps ps.length),iv rt,iv lf]):=by
 have hw:W ((ps.length:Int)-1)=(ps.length:Int)-1:=Dx (by omega) (by omega);have hp:rJ (rI ((ps.length:Int)-1) id f ps lf rt 0 0 0 id 0 0 rt lf true [])=true:=by
  simp only[rJ,Aa,Ab,AC];exact⟨⟨⟨⟨⟨trivial,trivial⟩,by omega⟩,by omega⟩,h⟩,by omega⟩
 rw[og,hw,hp,show((ps.length:Int)-1+1).toNat=ps.length by omega];rw[Aj,Bc,AN,DK (N9 _ _),AH,A7 (by rw[N9];exact Al _)]
def vR:List PV->Option (DT PV)
 | [.agg [.val (.int .i64 id),.Db _ 28 ps,.val (.int .i64 lf),.val (.int .i64 rt)]]=>some (.br (decide (ps.length<=1000)) (.leaf (.agg [iv id,.Db false 28 (Qi ps ps.length),iv rt,iv lf])) .no)
 |_=>none
theorem agD:Hx.Df Try.prog 85:=(Cz rK (n:=60) (XP 0 false [] 0 0 (by simp))).1
theorem agE(args:List PV)(d:DT PV)(r:PV)(h:vR args=some d)(hr:d.run=some r):Ds Try.prog 85 args r:=by
 unfold vR at h;split at h
 ·rename_i id f ps lf rt;cases h;obtain⟨h1,rfl⟩:=DO hr;exact(Cz rK (n:=60) (XP id f ps lf rt (AO h1))).2
 ·cases h
noncomputable def MA1:C9:=M7.DH 85 vR
theorem rL:C4 Try.prog MA1.env:=IM.DH agD agE
abbrev QW(nl:Bool)(es:List PV):Row:={ es,s:=4,t:=147,bv:=true,nl }
abbrev edv(id:Int)(f:Bool)(ps:List PV)(lf rt:Int):PV:=.agg [iv id,.Db f 28 ps,iv lf,iv rt]
abbrev j3(es:List PV)(n l:Nat):Bool:=true&&decide (es.length=n)&&decide (n=l)&&decide ((n+1)*48<=140737488355328)
theorem agG(n l:Nat)(nl:Bool)(es:List PV)(g:Bool)(ps:List PV)(lf rt:Int)(f:Bool)(L:List PV)(a:Int):Kz Try.prog MA1 60 71 [.sl 0 n 0 l,.Db g 28 ps,iv lf,iv rt,.ptr 1 1 0 0] [QW nl es,Ie f L a] =
 bif lf==rt then some (.sl 0 n 0 l,[QW nl es,Ie f L a]) else bif E3 a 2 then bif dI L a 2==1 then bif decide (ps.length<=1000) then bif j3 es n l then
  some (.sl 0 (n+1) 0 (n+1),[QW (nl&&false) (es++[edv (W ((l:Int)+1)) false (Qi ps ps.length) rt lf]),Ie (fI f L a) L (aI L a)]) else none else none
 else bif j3 es n l then some (.sl 0 (n+1) 0 (n+1),[QW (nl&&false) (es++[edv (W ((l:Int)+1)) g ps lf rt]),Ie (fI f L a) L (aI L a)]) else none else none:=by kernel_rfl
def IH(es:List PV)(g:Bool)(ps:List PV)(lf rt:Int)(L:List PV)(a:Int):List PV:=
 bif lf==rt then es else es++[bif dI L a 2==1 then edv (W ((es.length:Int)+1)) false (Qi ps ps.length) rt lf else edv (W ((es.length:Int)+1)) g ps lf rt]
def Vo(lf rt:Int)(L:List PV)(a:Int):Int:=bif lf==rt then a else aI L a
def addF'(lf rt:Int)(f:Bool)(L:List PV)(a:Int):Bool:=bif lf==rt then f else fI f L a
def addN'(lf rt:Int)(nl:Bool):Bool:=bif lf==rt then nl else false
def Vp(n l:Nat)(es ps:List PV)(a:Int):Bool:=decide (n=es.length)&&decide (l=es.length)&&decide (es.length<=1000)&&decide (ps.length<=1000)&&E3 a 2
theorem rM{n l:Nat}{nl:Bool}{es:List PV}{g:Bool}{ps:List PV}{lf rt:Int}{f:Bool}{L:List PV}{a:Int}(h:Vp n l es ps a=true):Kz Try.prog MA1 60 71 [.sl 0 n 0 l,.Db g 28 ps,iv lf,iv rt,.ptr 1 1 0 0] [QW nl es,Ie f L a] =
  some (.sl 0 (IH es g ps lf rt L a).length 0 (IH es g ps lf rt L a).length,[QW (addN' lf rt nl) (IH es g ps lf rt L a),Ie (addF' lf rt f L a) L (Vo lf rt L a)]):=by
 unfold Vp at h;simp only[Aa,Ab]at h;obtain⟨⟨⟨⟨rfl,rfl⟩,h1⟩,h2⟩,h3⟩:=h;rw[agG,h3,Ac h2,show j3 es es.length es.length=true by show(true&&_&&_&&_)=true;simp;omega];unfold IH addN' addF' Vo;cases lf==rt with
 |true=>rfl
 |false=>
  simp only[Ap,Aj,BG,Ar,As,AC];cases dI L a 2==1 <;> rfl
def oh:List PV->List Row->Option (DT (PV×List Row))
 | [.sl 0 n 0 l,.Db g 28 ps,.val (.int .i64 lf),.val (.int .i64 rt),.ptr 1 1 0 0],[⟨es,4,147,true,true,nl,none,false⟩,⟨[.agg [.Db f 3 L,.val (.int .i64 a)]],2,103,true,true,false,none,false⟩]=>
  some (.br (Vp n l es ps a) (.leaf (.sl 0 (IH es g ps lf rt L a).length 0 (IH es g ps lf rt L a).length,[QW (addN' lf rt nl) (IH es g ps lf rt L a),Ie (addF' lf rt f L a) L (Vo lf rt L a)])) .no)
 |_,_=>none
theorem abn:Hx.Df Try.prog 71:=(DP rL (rM (n:=0) (l:=0) (nl:=false) (es:=[]) (g:=false) (ps:=[]) (lf:=0) (rt:=0) (f:=false) (L:=[]) (a:=0) (by rfl))).1
theorem abo(args:List PV)(H:List Row)(d:DT (PV×List Row))(q:PV)(H':List Row)(h:oh args H=some d)(hd:d.run=some (q,H')):Fh Try.prog 0 71 args H q H':=by
 unfold oh at h;split at h
 ·rename_i n l g ps lf rt es nl f L a;cases h;obtain⟨hc,he⟩:=Gc hd;cases he;exact(DP rL (rM hc)).2
 ·cases h
noncomputable def MA2:C9:=M7.Ff 71 oh
theorem abp:C4 Try.prog MA2.env:=IM.Ff abn abo
noncomputable def MA3:C9:=MA2.GI 75 5 3
theorem rO:C4 Try.prog MA3.env:=abp.GI 75 5 3
abbrev xE(L:List PV)(a:Int):Int:=W (6+dI L a 8)
abbrev isA(cx cy r:Int):List PV:=[FL (W (cx-r)) (W (cy-r)),FL (W (cx+r)) (W (cy-r)),FL (W (cx+r)) (W (cy+r)),FL (W (cx-r)) (W (cy-r))]
abbrev isB(cx cy r:Int):List PV:=[FL (W (cx-r)) cy,FL cx (W (cy-r)),FL (W (cx+r)) (W (cy+2)),FL cx (W (cy+r)),FL (W (cx-r)) cy]
noncomputable def isT(n l:Nat)(nl:Bool)(es:List PV)(ps:List PV)(ar:Int)(f:Bool)(L:List PV)(a:Int):Option (PV×List Row):=
 bif es.length==n then bif Vp n l es ps a then
  some (.sl 0 (IH es false ps 28 ar L a).length 0 (IH es false ps 28 ar L a).length,[QW (addN' 28 ar nl) (IH es false ps 28 ar L a),Ie (addF' 28 ar f L a) L (Vo 28 ar L a)]) else none else none
theorem agL(n l:Nat)(nl:Bool)(es:List PV)(cx cy ar:Int)(f:Bool)(L:List PV)(a:Int):Kz Try.prog MA3 60 75 [.sl 0 n 0 l,FL cx cy,iv ar,.ptr 1 1 0 0] [QW nl es,Ie f L a] =
 bif E3 a 8 then bif E3 (aI L a) 2 then bif dI L (aI L a) 2==1 then isT n l nl es (isB cx cy (xE L a)) ar (f1 f L a 2) L (a1 L a 2) else isT n l nl es (isA cx cy (xE L a)) ar (f1 f L a 2) L (a1 L a 2) else none else none:=by kernel_rfl
def oi(cx cy:Int)(L:List PV)(a:Int):List PV:=bif dI L (aI L a) 2==1 then isB cx cy (xE L a) else isA cx cy (xE L a)
def eh(n l:Nat)(es:List PV)(a:Int):Bool:=decide (n=es.length)&&decide (l=es.length)&&decide (es.length<=1000)&&decide (0<=a)&&decide (a<=1000000000)
theorem rQ{n l:Nat}{nl:Bool}{es:List PV}{cx cy ar:Int}{f:Bool}{L:List PV}{a:Int}(h:eh n l es a=true):Kz Try.prog MA3 60 75 [.sl 0 n 0 l,FL cx cy,iv ar,.ptr 1 1 0 0] [QW nl es,Ie f L a] =
  some (.sl 0 (IH es false (oi cx cy L a) 28 ar L (a1 L a 2)).length 0 (IH es false (oi cx cy L a) 28 ar L (a1 L a 2)).length,
   [QW (addN' 28 ar nl) (IH es false (oi cx cy L a) 28 ar L (a1 L a 2)),Ie (addF' 28 ar (f1 f L a 2) L (a1 L a 2)) L (Vo 28 ar L (a1 L a 2))]):=by
 unfold eh at h;simp only[Aa,Ab]at h;obtain⟨⟨⟨⟨rfl,rfl⟩,h1⟩,h2⟩,h3⟩:=h;have ha:=F6 L a;have hb:=Hv L a 2;have hok:∀ ps:List PV,ps.length<=1000->Vp es.length es.length es ps (a1 L a 2)=true:=fun ps hp=>by
  unfold Vp E3;simp only[Aa,Ab];exact⟨⟨⟨⟨trivial,trivial⟩,h1⟩,hp⟩,⟨⟨by omega,by omega⟩,by omega⟩,by omega⟩
 rw[agL,show E3 a 8=true by unfold E3;simp;omega,show E3 (aI L a) 2=true by unfold E3;simp;omega];unfold oi isT;rw[hok (isA cx cy (xE L a)) (by simp),hok (isB cx cy (xE L a)) (by simp),AP];cases dI L (aI L a) 2==1 <;> rfl
def vS:List PV->List Row->Option (DT (PV×List Row))
 | [.sl 0 n 0 l,.agg [.val (.int .i64 cx),.val (.int .i64 cy)],.val (.int .i64 ar),.ptr 1 1 0 0],[⟨es,4,147,true,true,nl,none,false⟩,⟨[.agg [.Db f 3 L,.val (.int .i64 a)]],2,103,true,true,false,none,false⟩]=>
  some (.br (eh n l es a) (.leaf (.sl 0 (IH es false (oi cx cy L a) 28 ar L (a1 L a 2)).length 0 (IH es false (oi cx cy L a) 28 ar L (a1 L a 2)).length,
   [QW (addN' 28 ar nl) (IH es false (oi cx cy L a) 28 ar L (a1 L a 2)),Ie (addF' 28 ar (f1 f L a 2) L (a1 L a 2)) L (Vo 28 ar L (a1 L a 2))])) .no)
 |_,_=>none
theorem agM:Hx.Df Try.prog 75:=(DP rO (rQ (n:=0) (l:=0) (nl:=false) (es:=[]) (cx:=0) (cy:=0) (ar:=0) (f:=false) (L:=[]) (a:=0) (by rfl))).1
theorem agN(args:List PV)(H:List Row)(d:DT (PV×List Row))(q:PV)(H':List Row)(h:vS args H=some d)(hd:d.run=some (q,H')):Fh Try.prog 0 75 args H q H':=by
 unfold vS at h;split at h
 ·rename_i n l cx cy ar es nl f L a;cases h;obtain⟨hc,he⟩:=Gc hd;cases he;exact(DP rO (rQ hc)).2
 ·cases h
noncomputable def MA4:C9:=((M10.Ff 71 oh).Ff 75 vS)
theorem abq:C4 Try.prog MA4.env:=(zC.Ff abn abo).Ff agM agN
abbrev arv(o0 o1 o2 o3 o4 o5:Int):PV:=.agg [iv o0,iv o1,iv o2,iv o3,iv o4,iv o5]
theorem abr(o0 o1 o2 o3 o4 o5 w h i j:Int):DC Try.prog M7 60 74 [arv o0 o1 o2 o3 o4 o5,iv w,iv h,iv i,iv j] =
 bif decide (i<0) then some (iv 0) else bif cond false true (decide (j<0)) then some (iv 0) else bif cond false true (decide (i ≥ w)) then some (iv 0) else bif cond false true (decide (j ≥ h)) then some (iv 0) else
  bif decide (i=2) then bif decide (j=1) then some (iv o5) else bif decide (j=0) then some (iv o4) else none else
  bif decide (i=1) then bif decide (j=1) then some (iv o3) else bif decide (j=0) then some (iv o2) else none else
  bif decide (i=0) then bif decide (j=1) then some (iv o1) else bif decide (j=0) then some (iv o0) else none else none:=by kernel_rfl
def Vq(o0 o1 o2 o3 o4 o5 w h i j:Int):Int:=bif decide (i<0) then 0 else bif decide (j<0) then 0 else bif decide (i ≥ w) then 0 else bif decide (j ≥ h) then 0 else
 bif decide (i=2) then bif decide (j=1) then o5 else o4 else bif decide (i=1) then bif decide (j=1) then o3 else o2 else bif decide (j=1) then o1 else o0
def j4:List PV->Option (DT PV)
 | [.agg [.val (.int .i64 o0),.val (.int .i64 o1),.val (.int .i64 o2),.val (.int .i64 o3),.val (.int .i64 o4),.val (.int .i64 o5)],.val (.int .i64 w),.val (.int .i64 h),.val (.int .i64 i),.val (.int .i64 j)]=>
  some (.br (decide (w<=3)&&decide (h<=2)) (.leaf (iv (Vq o0 o1 o2 o3 o4 o5 w h i j))) .no)
 |_=>none
theorem j5(o0 o1 o2 o3 o4 o5 w h i j:Int)(hw:w<=3)(hh:h<=2):DC Try.prog M7 60 74 [arv o0 o1 o2 o3 o4 o5,iv w,iv h,iv i,iv j]=some (iv (Vq o0 o1 o2 o3 o4 o5 w h i j)):=by
 rw[abr];unfold Vq;by_cases c1:i<0
 ·rw[Ac c1];rfl
 rw[Ai c1];by_cases c2:j<0
 ·rw[Ac c2];rfl
 rw[Ai c2];by_cases c3:i ≥ w
 ·rw[Ac c3];rfl
 rw[Ai c3];by_cases c4:j ≥ h
 ·rw[Ac c4];rfl
 rw[Ai c4];have hi:i=0\/i=1\/i=2:=by omega
 have hj:j=0\/j=1:=by omega
 rcases hi with rfl |rfl |rfl <;> rcases hj with rfl |rfl <;> rfl
theorem abt:Hx.Df Try.prog 74:=(Cz IM (n:=60) (j5 0 0 0 0 0 0 0 0 0 0 (by omega) (by omega))).1
theorem abu(args:List PV)(d:DT PV)(r:PV)(h:j4 args=some d)(hr:d.run=some r):Ds Try.prog 74 args r:=by
 unfold j4 at h;split at h
 ·rename_i o0 o1 o2 o3 o4 o5 w h' i j;cases h;obtain⟨h1,rfl⟩:=DO hr;simp only[Aa,Ab]at h1;exact(Cz IM (n:=60) (j5 o0 o1 o2 o3 o4 o5 w h' i j h1.1 h1.2)).2
 ·cases h
noncomputable def MA5:C9:=MA4.DH 74 j4
theorem abv:C4 Try.prog MA5.env:=abq.DH abt abu
noncomputable def MB1:C9:=((((((MA5.Ez 53 33).Ez 53 40).Gf 73).Gf 74).Gf 72).Gf 71)
theorem abx:C4 Try.prog MB1.env:=((((((abv.Ez 53 33).Ez 53 40).Gf 73).Gf 74).Gf 72).Gf 71)
abbrev EW:=List PV×Bool×Int×Bool
def Um(N:List PV)(x0 y0 x1 y1 lf rt:Int)(s:EW):EW:=
 (IH s.1 false (dQ x0 y0 x1 y1 N s.2.2.1) lf rt N (a1 N s.2.2.1 (LW N s.2.2.1+1)),addF' lf rt (f1 s.2.1 N s.2.2.1 (LW N s.2.2.1+1)) N (a1 N s.2.2.1 (LW N s.2.2.1+1)),Vo lf rt N (a1 N s.2.2.1 (LW N s.2.2.1+1)),addN' lf rt s.2.2.2)
abbrev oo(t:List (Tmp×X1)):S1:=⟨208,[(5,.Db 3),(7,.ptr 0 1 0 0),(8,Dm),(9,Dm),(10,.ptr 1 1 0 0),(13,.ptr 2 1 0 0),(14,.sl 3)]++t,
 [.one 103 2 (.agg [.Db 3,Dm]),.one 128 6 (.agg [Dm,Dm,Dm,Dm,Dm,Dm]),.one 103 2 (.agg [.Db 3,Dm]),.many 147 4]⟩
def Qj:S1:=oo [(15,Dm),(16,Dm)]
def Qk:S1:=oo [(17,Dm),(18,Dm)]
abbrev eR(m:Bool)(M:List PV)(w h:Int)(n l:Nat)(j i:Int)(f:Bool)(L:List PV)(a o0 o1 o2 o3 o4 o5:Int)(g:Bool)(N:List PV)(c:Int)(nl:Bool)(es:List PV):LS:=([.l m M,.i w,.i h,.n n,.n l,.i j,.i i],[.l f L,.i a,.i o0,.i o1,.i o2,.i o3,.i o4,.i o5,.l g N,.i c,.l nl es])
abbrev eS(o0 o1 o2 o3 o4 o5:Int):Row:=r1 128 6 (arv o0 o1 o2 o3 o4 o5)
abbrev xF:Row:={ es:=[],s:=0,t:=0,bv:=true,live:=false }
noncomputable def tlE(sh:S1)(m:Bool)(M:List PV)(w h:Int)(n l:Nat)(j i:Int)(f:Bool)(L:List PV)(a o0 o1 o2 o3 o4 o5:Int)(g:Bool)(N:List PV)(c:Int)(nl:Bool)(es:List PV)(x0 y0 x1 y1 lf rt:Int):Option (PX×List PV×List Row):=
 bif decide (0<=c)&&decide (c<=1000000000) then bif Hp [Ie f L a,eS o0 o1 o2 o3 o4 o5,xF,QW nl es] [Ie f L a,eS o0 o1 o2 o3 o4 o5,xF,QW nl es] then
 bif decide (w<=3)&&decide (h<=2) then bif decide (w<=3)&&decide (h<=2) then bif es.length==n then
 bif Vp n l es (dQ x0 y0 x1 y1 N c) (a1 N c (LW N c+1)) then bif Hp [Ie f L a,eS o0 o1 o2 o3 o4 o5,xF,xF] [Ie f L a,eS o0 o1 o2 o3 o4 o5,xF,xF] then
  some (.normal,sh.put (eR m M w h (Um N x0 y0 x1 y1 lf rt (es,g,c,nl)).1.length (Um N x0 y0 x1 y1 lf rt (es,g,c,nl)).1.length j (W (i+1)) f L a o0 o1 o2 o3 o4 o5 (Um N x0 y0 x1 y1 lf rt (es,g,c,nl)).2.1 N (Um N x0 y0 x1 y1 lf rt (es,g,c,nl)).2.2.1 (Um N x0 y0 x1 y1 lf rt (es,g,c,nl)).2.2.2 (Um N x0 y0 x1 y1 lf rt (es,g,c,nl)).1))
 else none else none else none else none else none else none else none
theorem q31(m:Bool)(M:List PV)(w h:Int)(n l:Nat)(j i:Int)(f:Bool)(L:List PV)(a o0 o1 o2 o3 o4 o5:Int)(g:Bool)(N:List PV)(c:Int)(nl:Bool)(es:List PV):
 Dc Try.prog MB1 60 53 (Dh Try.f53 31) [5,7,8,9,10,13,14,15,16] [5,7,8,9,10,13,14,15] (Qj.put (eR m M w h n l j i f L a o0 o1 o2 o3 o4 o5 g N c nl es)).1 (Qj.put (eR m M w h n l j i f L a o0 o1 o2 o3 o4 o5 g N c nl es)).2 =
 bif decide (i<w) then bif LU i j then bif LU (W (i+1)) j then
  tlE Qj m M w h n l j i f L a o0 o1 o2 o3 o4 o5 g N c nl es (TZ M i j) (T1 M i j) (TZ M (W (i+1)) j) (T1 M (W (i+1)) j) (Vq o0 o1 o2 o3 o4 o5 w h i j) (Vq o0 o1 o2 o3 o4 o5 w h i (W (j-1)))
 else none else none
 else some (.exit 6,tm 208 [(5,.Db m 3 M),(7,.ptr 0 1 0 0),(8,iv w),(9,iv h),(10,.ptr 1 1 0 0),(13,.ptr 2 1 0 0),(14,.sl 3 n 0 l),(15,iv j)],[Ie f L a,eS o0 o1 o2 o3 o4 o5,Ie g N c,QW nl es]):=by kernel_rfl
theorem XR(x0 y0 x1 y1:Int)(N:List PV)(c:Int):(dQ x0 y0 x1 y1 N c).length=LW N c+2:=by
 show(([FL x0 y0]++nj x0 y0 (W (x1-x0)) (W (y1-y0)) (dI N c 4) N (LW N c) 1 (aI N c))++[FL x1 y1]:List PV).length=_
 rw[Ar,Ar,U0];simp only[As,AC];omega
theorem ZH(N:List PV)(c:Int):LW N c<=3:=by
 have h3:=IZ N c (n:=4) (by omega);have h4:=ID N c (n:=4) (by omega);show(dI N c 4+1-1).toNat<=3;omega
theorem Vr(N:List PV)(x0 y0 x1 y1 lf rt:Int)(s:EW):s.1.length<=(Um N x0 y0 x1 y1 lf rt s).1.length/\(Um N x0 y0 x1 y1 lf rt s).1.length<=s.1.length+1/\s.2.2.1<=(Um N x0 y0 x1 y1 lf rt s).2.2.1/\(Um N x0 y0 x1 y1 lf rt s).2.2.1<=s.2.2.1+5:=by
 have h1:=ZH N s.2.2.1;have h2:=Hv N s.2.2.1 (LW N s.2.2.1+1);have h3:=F6 N (a1 N s.2.2.1 (LW N s.2.2.1+1));unfold Um IH Vo;cases lf==rt with
 |true=>simp only[Aj];omega
 |false=>simp only[Ap,Ar,As,AC];omega
theorem j8(sh:S1)(m:Bool)(M:List PV)(w h:Int)(j i:Int)(f:Bool)(L:List PV)(a o0 o1 o2 o3 o4 o5:Int)(g:Bool)(N:List PV)(c:Int)(nl:Bool)(es:List PV)(x0 y0 x1 y1 lf rt:Int)(hw:w<=3)(hh:h<=2)(hc:0<=c)(hc2:c<=100000)(he:es.length<=1000)(hi:0<=i)(hi2:i<=100):
 tlE sh m M w h es.length es.length j i f L a o0 o1 o2 o3 o4 o5 g N c nl es x0 y0 x1 y1 lf rt =
  some (.normal,sh.put (eR m M w h (Um N x0 y0 x1 y1 lf rt (es,g,c,nl)).1.length (Um N x0 y0 x1 y1 lf rt (es,g,c,nl)).1.length j (i+1) f L a o0 o1 o2 o3 o4 o5 (Um N x0 y0 x1 y1 lf rt (es,g,c,nl)).2.1 N (Um N x0 y0 x1 y1 lf rt (es,g,c,nl)).2.2.1 (Um N x0 y0 x1 y1 lf rt (es,g,c,nl)).2.2.2 (Um N x0 y0 x1 y1 lf rt (es,g,c,nl)).1)):=by
 have h1:=ZH N c;have h2:=Hv N c (LW N c+1);have hok:Vp es.length es.length es (dQ x0 y0 x1 y1 N c) (a1 N c (LW N c+1))=true:=by
  unfold Vp E3;rw[XR];simp only[Aa,Ab];exact⟨⟨⟨⟨trivial,trivial⟩,he⟩,by omega⟩,⟨⟨by omega,by omega⟩,by omega⟩,by omega⟩
 unfold tlE;rw[Ac hc,Ac (show c<=1000000000 by omega),E5,E5,Ac hw,Ac hh,AP,hok,Dx (n:=i+1) (by omega) (by omega)];rfl
def hoS(M N:List PV)(o0 o1 o2 o3 o4 o5 w h j i:Int)(s:EW):EW:=Um N (TZ M i j) (T1 M i j) (TZ M (i+1) j) (T1 M (i+1) j) (Vq o0 o1 o2 o3 o4 o5 w h i j) (Vq o0 o1 o2 o3 o4 o5 w h i (j-1)) s
def XS(M N:List PV)(o0 o1 o2 o3 o4 o5 w h j:Int):Nat->Int->EW->EW
 |0,_,s=>s
 |m+1,i,s=>XS M N o0 o1 o2 o3 o4 o5 w h j m (i+1) (hoS M N o0 o1 o2 o3 o4 o5 w h j i s)
theorem ZI(M N:List PV)(o0 o1 o2 o3 o4 o5 w h j:Int):∀(m:Nat) (i:Int) (s:EW),s.1.length<=(XS M N o0 o1 o2 o3 o4 o5 w h j m i s).1.length/\(XS M N o0 o1 o2 o3 o4 o5 w h j m i s).1.length<=s.1.length+m/\s.2.2.1<=(XS M N o0 o1 o2 o3 o4 o5 w h j m i s).2.2.1/\(XS M N o0 o1 o2 o3 o4 o5 w h j m i s).2.2.1<=s.2.2.1+5*m
 |0,_,s=>by simp[XS]
 |m+1,i,s=>by
  obtain⟨a1,a2,a3,a4⟩:=Vr N (TZ M i j) (T1 M i j) (TZ M (i+1) j) (T1 M (i+1) j) (Vq o0 o1 o2 o3 o4 o5 w h i j) (Vq o0 o1 o2 o3 o4 o5 w h i (j-1)) s;obtain⟨b1,b2,b3,b4⟩:=ZI M N o0 o1 o2 o3 o4 o5 w h j m (i+1) (hoS M N o0 o1 o2 o3 o4 o5 w h j i s);simp only[XS];unfold hoS at *;refine⟨by omega,by omega,by omega,?_⟩;have:((m+1:Nat):Int)=(m:Int)+1:=by simp
  omega
noncomputable abbrev x31(m:Bool)(M:List PV)(w h j:Int)(f:Bool)(L:List PV)(a o0 o1 o2 o3 o4 o5:Int)(N:List PV)(s:EW):PX×List PV×List Row:=
 (.exit 6,tm 208 [(5,.Db m 3 M),(7,.ptr 0 1 0 0),(8,iv w),(9,iv h),(10,.ptr 1 1 0 0),(13,.ptr 2 1 0 0),(14,.sl 3 s.1.length 0 s.1.length),(15,iv j)],[Ie f L a,eS o0 o1 o2 o3 o4 o5,Ie s.2.1 N s.2.2.1,QW s.2.2.2 s.1])
def rR:LS->Bool
 |([.l _ _,.i w,.i h,.n n,.n l,.i j,.i i],[.l _ _,.i _,.i _,.i _,.i _,.i _,.i _,.i _,.l _ _,.i c,.l _ es])=>decide (n=es.length)&&decide (l=es.length)&&decide (0<=i)&&decide (i<=w)&&decide (w<=3)&&decide (h<=2)&&decide (0<=j)&&decide (j<=3)&&decide ((es.length:Int)<=0+4*j+i)&&decide (0<=c)&&decide (c<=0+20*j+5*i)
 |_=>false
noncomputable def f31:LS->DT (PX×List PV×List Row)
 |([.l m M,.i w,.i h,.n _,.n _,.i j,.i i],[.l f L,.i a,.i o0,.i o1,.i o2,.i o3,.i o4,.i o5,.l g N,.i c,.l nl es])=>.leaf (x31 m M w h j f L a o0 o1 o2 o3 o4 o5 N (XS M N o0 o1 o2 o3 o4 o5 w h j (w-i).toNat i (es,g,c,nl)))
 |_=>.no
def m31:LS->Nat
 |([.l _ _,.i w,.i _,.n _,.n _,.i _,.i i],_)=>(w-i).toNat
 |_=>0
theorem s31:∀ s r,rR s=true->(f31 s).run=some r->r.1≠.normal/\(Dc Try.prog MB1 60 53 (Dh Try.f53 31) [5,7,8,9,10,13,14,15,16] [5,7,8,9,10,13,14,15] (Qj.put s).1 (Qj.put s).2=some r \/
   ∃ s',Dc Try.prog MB1 60 53 (Dh Try.f53 31) [5,7,8,9,10,13,14,15,16] [5,7,8,9,10,13,14,15] (Qj.put s).1 (Qj.put s).2=some (.normal,Qj.put s')/\rR s'=true/\m31 s'<m31 s/\(f31 s').run=some r):=by
 intro t r hp hr;unfold rR at hp;split at hp
 ·rename_i m M w h n l j i f L a o0 o1 o2 o3 o4 o5 g N c nl es;simp only[Aa,Ab]at hp;obtain⟨⟨⟨⟨⟨⟨⟨⟨⟨⟨rfl,rfl⟩,h2⟩,h3⟩,h4⟩,h5⟩,h6⟩,h7⟩,h8⟩,h9⟩,h10⟩:=hp;have hr':=(Ah hr).symm;refine⟨by rw[hr'];simp,?_⟩;rw[show Qj.put ([.l m M,.i w,.i h,.n es.length,.n es.length,.i j,.i i],[.l f L,.i a,.i o0,.i o1,.i o2,.i o3,.i o4,.i o5,.l g N,.i c,.l nl es])=Qj.put (eR m M w h es.length es.length j i f L a o0 o1 o2 o3 o4 o5 g N c nl es) from rfl,q31];by_cases hi:i<w
  ·obtain⟨k,hk⟩:∃ k,(w-i).toNat=k+1:=⟨(w-i).toNat-1,by omega⟩;have hk2:(w-(i+1)).toNat=k:=by omega
   have hwi:W (i+1)=i+1:=Dx (by omega) (by omega);have hwi2:W (i-1)=i-1:=Dx (by omega) (by omega);have hwj:W (j-1)=j-1:=Dx (by omega) (by omega);have hwj2:W (j+1)=j+1:=Dx (by omega) (by omega);rw[Ac hi,hwi,hwj,show LU i j=true by unfold LU;simp;omega,show LU (i+1) j=true by unfold LU;simp;omega];simp only[Aj];rw[j8 (hw:=h4) (hh:=h5) (hc:=h9) (hc2:=by omega) (he:=by omega) (hi:=h2) (hi2:=by omega)];rw[hk]at hr';obtain⟨b1,b2,b3,b4⟩:=Vr N (TZ M i j) (T1 M i j) (TZ M (i+1) j) (T1 M (i+1) j) (Vq o0 o1 o2 o3 o4 o5 w h i j) (Vq o0 o1 o2 o3 o4 o5 w h i (j-1)) (es,g,c,nl);refine .inr ⟨_,rfl,?_,by simp only[m31];omega,?_⟩
   ·simp only[rR,Aa,Ab];simp only at b1 b2 b3 b4;exact⟨⟨⟨⟨⟨⟨⟨⟨⟨⟨trivial,trivial⟩,by omega⟩,by omega⟩,h4⟩,h5⟩,h6⟩,h7⟩,by omega⟩,by omega⟩,by omega⟩
   ·rw[hr'];simp only[f31,hk2,DT.run];rfl
  ·rw[Ai hi];refine .inl ?_;rw[hr',show(w-i).toNat=0 by omega];rfl
 ·cases hp
noncomputable def MB2:C9:=MB1.Dr 53 31 [5,7,8,9,10,13,14,15,16] [true,true,true,false] Qj rR f31
theorem abz:C4 Try.prog MB2.env:=
 abx.Dr (n:=60) Try.func53 (show Try.f53.body=some (D3 Try.f53) by kernel_rfl) (show(loops (D3 Try.f53)).filter (fun b=>Ev b==31)=[Dh Try.f53 31] by kernel_rfl) [5,7,8,9,10,13,14,15,16] [5,7,8,9,10,13,14,15] [true,true,true,false] Qj m31 s31
theorem q38(m:Bool)(M:List PV)(w h:Int)(n l:Nat)(j i:Int)(f:Bool)(L:List PV)(a o0 o1 o2 o3 o4 o5:Int)(g:Bool)(N:List PV)(c:Int)(nl:Bool)(es:List PV):
 Dc Try.prog MB2 60 53 (Dh Try.f53 38) [5,7,8,9,10,13,14,17,18] [5,7,8,9,10,13,14,17] (Qk.put (eR m M w h n l j i f L a o0 o1 o2 o3 o4 o5 g N c nl es)).1 (Qk.put (eR m M w h n l j i f L a o0 o1 o2 o3 o4 o5 g N c nl es)).2 =
 bif decide (i<=w) then bif LU i j then bif LU i (W (j+1)) then
  tlE Qk m M w h n l j i f L a o0 o1 o2 o3 o4 o5 g N c nl es (TZ M i j) (T1 M i j) (TZ M i (W (j+1))) (T1 M i (W (j+1))) (Vq o0 o1 o2 o3 o4 o5 w h (W (i-1)) j) (Vq o0 o1 o2 o3 o4 o5 w h i j)
 else none else none
 else some (.exit 10,tm 208 [(5,.Db m 3 M),(7,.ptr 0 1 0 0),(8,iv w),(9,iv h),(10,.ptr 1 1 0 0),(13,.ptr 2 1 0 0),(14,.sl 3 n 0 l),(17,iv j)],[Ie f L a,eS o0 o1 o2 o3 o4 o5,Ie g N c,QW nl es]):=by kernel_rfl
def veS(M N:List PV)(o0 o1 o2 o3 o4 o5 w h j i:Int)(s:EW):EW:=Um N (TZ M i j) (T1 M i j) (TZ M i (j+1)) (T1 M i (j+1)) (Vq o0 o1 o2 o3 o4 o5 w h (i-1) j) (Vq o0 o1 o2 o3 o4 o5 w h i j) s
def XT(M N:List PV)(o0 o1 o2 o3 o4 o5 w h j:Int):Nat->Int->EW->EW
 |0,_,s=>s
 |m+1,i,s=>XT M N o0 o1 o2 o3 o4 o5 w h j m (i+1) (veS M N o0 o1 o2 o3 o4 o5 w h j i s)
theorem ZJ(M N:List PV)(o0 o1 o2 o3 o4 o5 w h j:Int):∀(m:Nat) (i:Int) (s:EW),s.1.length<=(XT M N o0 o1 o2 o3 o4 o5 w h j m i s).1.length/\(XT M N o0 o1 o2 o3 o4 o5 w h j m i s).1.length<=s.1.length+m/\s.2.2.1<=(XT M N o0 o1 o2 o3 o4 o5 w h j m i s).2.2.1/\(XT M N o0 o1 o2 o3 o4 o5 w h j m i s).2.2.1<=s.2.2.1+5*m
 |0,_,s=>by simp[XT]
 |m+1,i,s=>by
  obtain⟨a1,a2,a3,a4⟩:=Vr N (TZ M i j) (T1 M i j) (TZ M i (j+1)) (T1 M i (j+1)) (Vq o0 o1 o2 o3 o4 o5 w h (i-1) j) (Vq o0 o1 o2 o3 o4 o5 w h i j) s;obtain⟨b1,b2,b3,b4⟩:=ZJ M N o0 o1 o2 o3 o4 o5 w h j m (i+1) (veS M N o0 o1 o2 o3 o4 o5 w h j i s);simp only[XT];unfold veS at *;refine⟨by omega,by omega,by omega,?_⟩;have:((m+1:Nat):Int)=(m:Int)+1:=by simp
  omega
noncomputable abbrev x38(m:Bool)(M:List PV)(w h j:Int)(f:Bool)(L:List PV)(a o0 o1 o2 o3 o4 o5:Int)(N:List PV)(s:EW):PX×List PV×List Row:=
 (.exit 10,tm 208 [(5,.Db m 3 M),(7,.ptr 0 1 0 0),(8,iv w),(9,iv h),(10,.ptr 1 1 0 0),(13,.ptr 2 1 0 0),(14,.sl 3 s.1.length 0 s.1.length),(17,iv j)],[Ie f L a,eS o0 o1 o2 o3 o4 o5,Ie s.2.1 N s.2.2.1,QW s.2.2.2 s.1])
def rT:LS->Bool
 |([.l _ _,.i w,.i h,.n n,.n l,.i j,.i i],[.l _ _,.i _,.i _,.i _,.i _,.i _,.i _,.i _,.l _ _,.i c,.l _ es])=>decide (n=es.length)&&decide (l=es.length)&&decide (0<=i)&&decide (i<=(w+1))&&decide (w<=3)&&decide (h<=2)&&decide (0<=j)&&decide (j<=3)&&decide ((es.length:Int)<=16+4*j+i)&&decide (0<=c)&&decide (c<=100+20*j+5*i)
 |_=>false
noncomputable def f38:LS->DT (PX×List PV×List Row)
 |([.l m M,.i w,.i h,.n _,.n _,.i j,.i i],[.l f L,.i a,.i o0,.i o1,.i o2,.i o3,.i o4,.i o5,.l g N,.i c,.l nl es])=>.leaf (x38 m M w h j f L a o0 o1 o2 o3 o4 o5 N (XT M N o0 o1 o2 o3 o4 o5 w h j ((w+1)-i).toNat i (es,g,c,nl)))
 |_=>.no
def m38:LS->Nat
 |([.l _ _,.i w,.i _,.n _,.n _,.i _,.i i],_)=>((w+1)-i).toNat
 |_=>0
theorem s38:∀ s r,rT s=true->(f38 s).run=some r->r.1≠.normal/\(Dc Try.prog MB2 60 53 (Dh Try.f53 38) [5,7,8,9,10,13,14,17,18] [5,7,8,9,10,13,14,17] (Qk.put s).1 (Qk.put s).2=some r \/
   ∃ s',Dc Try.prog MB2 60 53 (Dh Try.f53 38) [5,7,8,9,10,13,14,17,18] [5,7,8,9,10,13,14,17] (Qk.put s).1 (Qk.put s).2=some (.normal,Qk.put s')/\rT s'=true/\m38 s'<m38 s/\(f38 s').run=some r):=by
 intro t r hp hr;unfold rT at hp;split at hp
 ·rename_i m M w h n l j i f L a o0 o1 o2 o3 o4 o5 g N c nl es;simp only[Aa,Ab]at hp;obtain⟨⟨⟨⟨⟨⟨⟨⟨⟨⟨rfl,rfl⟩,h2⟩,h3⟩,h4⟩,h5⟩,h6⟩,h7⟩,h8⟩,h9⟩,h10⟩:=hp;have hr':=(Ah hr).symm;refine⟨by rw[hr'];simp,?_⟩;rw[show Qk.put ([.l m M,.i w,.i h,.n es.length,.n es.length,.i j,.i i],[.l f L,.i a,.i o0,.i o1,.i o2,.i o3,.i o4,.i o5,.l g N,.i c,.l nl es])=Qk.put (eR m M w h es.length es.length j i f L a o0 o1 o2 o3 o4 o5 g N c nl es) from rfl,q38];by_cases hi:i<=w
  ·obtain⟨k,hk⟩:∃ k,((w+1)-i).toNat=k+1:=⟨((w+1)-i).toNat-1,by omega⟩;have hk2:((w+1)-(i+1)).toNat=k:=by omega
   have hwi:W (i+1)=i+1:=Dx (by omega) (by omega);have hwi2:W (i-1)=i-1:=Dx (by omega) (by omega);have hwj:W (j-1)=j-1:=Dx (by omega) (by omega);have hwj2:W (j+1)=j+1:=Dx (by omega) (by omega);rw[Ac hi,hwi2,hwj2,show LU i j=true by unfold LU;simp;omega,show LU i (j+1)=true by unfold LU;simp;omega];simp only[Aj];rw[j8 (hw:=h4) (hh:=h5) (hc:=h9) (hc2:=by omega) (he:=by omega) (hi:=h2) (hi2:=by omega)];rw[hk]at hr';obtain⟨b1,b2,b3,b4⟩:=Vr N (TZ M i j) (T1 M i j) (TZ M i (j+1)) (T1 M i (j+1)) (Vq o0 o1 o2 o3 o4 o5 w h (i-1) j) (Vq o0 o1 o2 o3 o4 o5 w h i j) (es,g,c,nl);refine .inr ⟨_,rfl,?_,by simp only[m38];omega,?_⟩
   ·simp only[rT,Aa,Ab];simp only at b1 b2 b3 b4;exact⟨⟨⟨⟨⟨⟨⟨⟨⟨⟨trivial,trivial⟩,by omega⟩,by omega⟩,h4⟩,h5⟩,h6⟩,h7⟩,by omega⟩,by omega⟩,by omega⟩
   ·rw[hr'];simp only[f38,hk2,DT.run];rfl
  ·rw[Ai hi];refine .inl ?_;rw[hr',show((w+1)-i).toNat=0 by omega];rfl
 ·cases hp
noncomputable def MB3:C9:=MB2.Dr 53 38 [5,7,8,9,10,13,14,17,18] [true,true,true,false] Qk rT f38
theorem abA:C4 Try.prog MB3.env:=
 abz.Dr (n:=60) Try.func53 (show Try.f53.body=some (D3 Try.f53) by kernel_rfl) (show(loops (D3 Try.f53)).filter (fun b=>Ev b==38)=[Dh Try.f53 38] by kernel_rfl) [5,7,8,9,10,13,14,17,18] [5,7,8,9,10,13,14,17] [true,true,true,false] Qk m38 s38
abbrev oq(m:Bool)(M:List PV)(w h:Int)(n l:Nat)(j:Int)(f:Bool)(L:List PV)(a o0 o1 o2 o3 o4 o5:Int)(g:Bool)(N:List PV)(c:Int)(nl:Bool)(es:List PV):LS:=([.l m M,.i w,.i h,.n n,.n l,.i j],[.l f L,.i a,.i o0,.i o1,.i o2,.i o3,.i o4,.i o5,.l g N,.i c,.l nl es])
def Ql:S1:=oo [(15,Dm)]
def Qm:S1:=oo [(17,Dm)]
noncomputable def MB4:C9:=MB3.GH 53 28 [(5,3,0),(14,147,4)]
theorem abC:C4 Try.prog MB4.env:=abA.GH 53 28 [(5,3,0),(14,147,4)]
noncomputable abbrev x28(m:Bool)(M:List PV)(w h:Int)(f:Bool)(L:List PV)(a o0 o1 o2 o3 o4 o5:Int)(N:List PV)(s:EW):PX×List PV×List Row:=
 (.exit 4,tm 208 [(5,.Db m 3 M),(7,.ptr 0 1 0 0),(8,iv w),(9,iv h),(10,.ptr 1 1 0 0),(13,.ptr 2 1 0 0),(14,.sl 3 s.1.length 0 s.1.length)],[Ie f L a,eS o0 o1 o2 o3 o4 o5,Ie s.2.1 N s.2.2.1,QW s.2.2.2 s.1])
theorem q28(m:Bool)(M:List PV)(w h:Int)(es:List PV)(j:Int)(f:Bool)(L:List PV)(a o0 o1 o2 o3 o4 o5:Int)(g:Bool)(N:List PV)(c:Int)(nl:Bool):
 Dc Try.prog MB4 60 53 (Dh Try.f53 28) [5,7,8,9,10,13,14,15] [5,7,8,9,10,13,14] (Ql.put (oq m M w h es.length es.length j f L a o0 o1 o2 o3 o4 o5 g N c nl es)).1 (Ql.put (oq m M w h es.length es.length j f L a o0 o1 o2 o3 o4 o5 g N c nl es)).2 =
 bif decide (j<=h) then bif rR (eR m M w h es.length es.length j 0 f L a o0 o1 o2 o3 o4 o5 g N c nl es) then
  some (.normal,Ql.put (oq m M w h (XS M N o0 o1 o2 o3 o4 o5 w h j (w-0).toNat 0 (es,g,c,nl)).1.length (XS M N o0 o1 o2 o3 o4 o5 w h j (w-0).toNat 0 (es,g,c,nl)).1.length (W (j+1)) f L a o0 o1 o2 o3 o4 o5 (XS M N o0 o1 o2 o3 o4 o5 w h j (w-0).toNat 0 (es,g,c,nl)).2.1 N (XS M N o0 o1 o2 o3 o4 o5 w h j (w-0).toNat 0 (es,g,c,nl)).2.2.1 (XS M N o0 o1 o2 o3 o4 o5 w h j (w-0).toNat 0 (es,g,c,nl)).2.2.2 (XS M N o0 o1 o2 o3 o4 o5 w h j (w-0).toNat 0 (es,g,c,nl)).1)) else none
 else some (x28 m M w h f L a o0 o1 o2 o3 o4 o5 N (es,g,c,nl)):=by kernel_rfl
def Tj(M N:List PV)(o0 o1 o2 o3 o4 o5 w h:Int):Nat->Int->EW->EW
 |0,_,s=>s
 |m+1,j,s=>Tj M N o0 o1 o2 o3 o4 o5 w h m (j+1) (XS M N o0 o1 o2 o3 o4 o5 w h j (w-0).toNat 0 s)
theorem ZK(M N:List PV)(o0 o1 o2 o3 o4 o5 w h:Int)(hw:w<=3):∀(m:Nat) (j:Int) (s:EW),s.1.length<=(Tj M N o0 o1 o2 o3 o4 o5 w h m j s).1.length/\(Tj M N o0 o1 o2 o3 o4 o5 w h m j s).1.length<=s.1.length+4*m/\s.2.2.1<=(Tj M N o0 o1 o2 o3 o4 o5 w h m j s).2.2.1/\(Tj M N o0 o1 o2 o3 o4 o5 w h m j s).2.2.1<=s.2.2.1+20*m
 |0,_,s=>by simp[Tj]
 |m+1,j,s=>by
  obtain⟨a1,a2,a3,a4⟩:=ZI M N o0 o1 o2 o3 o4 o5 w h j (w-0).toNat 0 s;obtain⟨b1,b2,b3,b4⟩:=ZK M N o0 o1 o2 o3 o4 o5 w h hw m (j+1) (XS M N o0 o1 o2 o3 o4 o5 w h j (w-0).toNat 0 s);simp only[Tj];refine⟨by omega,by omega,by omega,?_⟩;have:((m+1:Nat):Int)=(m:Int)+1:=by simp
  omega
def rU:LS->Bool
 |([.l _ _,.i w,.i h,.n n,.n l,.i j],[.l _ _,.i _,.i _,.i _,.i _,.i _,.i _,.i _,.l _ _,.i c,.l _ es])=>decide (n=es.length)&&decide (l=es.length)&&decide (0<=w)&&decide (w<=3)&&decide (0<=h)&&decide (h<=2)&&decide (0<=j)&&decide (j<=(h+1))&&decide ((es.length:Int)<=0+4*j)&&decide (0<=c)&&decide (c<=0+20*j)
 |_=>false
noncomputable def f28:LS->DT (PX×List PV×List Row)
 |([.l m M,.i w,.i h,.n _,.n _,.i j],[.l f L,.i a,.i o0,.i o1,.i o2,.i o3,.i o4,.i o5,.l g N,.i c,.l nl es])=>.leaf (x28 m M w h f L a o0 o1 o2 o3 o4 o5 N (Tj M N o0 o1 o2 o3 o4 o5 w h ((h+1)-j).toNat j (es,g,c,nl)))
 |_=>.no
def m28:LS->Nat
 |([.l _ _,.i _,.i h,.n _,.n _,.i j],_)=>((h+1)-j).toNat
 |_=>0
theorem s28:∀ s r,rU s=true->(f28 s).run=some r->r.1≠.normal/\(Dc Try.prog MB4 60 53 (Dh Try.f53 28) [5,7,8,9,10,13,14,15] [5,7,8,9,10,13,14] (Ql.put s).1 (Ql.put s).2=some r \/
   ∃ s',Dc Try.prog MB4 60 53 (Dh Try.f53 28) [5,7,8,9,10,13,14,15] [5,7,8,9,10,13,14] (Ql.put s).1 (Ql.put s).2=some (.normal,Ql.put s')/\rU s'=true/\m28 s'<m28 s/\(f28 s').run=some r):=by
 intro t r hp hr;unfold rU at hp;split at hp
 ·rename_i m M w h n l j f L a o0 o1 o2 o3 o4 o5 g N c nl es;simp only[Aa,Ab]at hp;obtain⟨⟨⟨⟨⟨⟨⟨⟨⟨⟨rfl,rfl⟩,h2⟩,h3⟩,h4⟩,h5⟩,h6⟩,h7⟩,h8⟩,h9⟩,h10⟩:=hp;have hr':=(Ah hr).symm;refine⟨by rw[hr'];simp,?_⟩;rw[show Ql.put ([.l m M,.i w,.i h,.n es.length,.n es.length,.i j],[.l f L,.i a,.i o0,.i o1,.i o2,.i o3,.i o4,.i o5,.l g N,.i c,.l nl es])=Ql.put (oq m M w h es.length es.length j f L a o0 o1 o2 o3 o4 o5 g N c nl es) from rfl,q28];by_cases hi:j<=h
  ·obtain⟨k,hk⟩:∃ k,((h+1)-j).toNat=k+1:=⟨((h+1)-j).toNat-1,by omega⟩;have hk2:((h+1)-(j+1)).toNat=k:=by omega
   have hp2:rR (eR m M w h es.length es.length j 0 f L a o0 o1 o2 o3 o4 o5 g N c nl es)=true:=by
    simp only[rR,Aa,Ab];exact⟨⟨⟨⟨⟨⟨⟨⟨⟨⟨trivial,trivial⟩,by omega⟩,by omega⟩,h3⟩,h5⟩,h6⟩,by omega⟩,by omega⟩,h9⟩,by omega⟩
   rw[Ac hi,hp2,Dx (n:=j+1) (by omega) (by omega)];simp only[Aj];rw[hk]at hr';obtain⟨b1,b2,b3,b4⟩:=ZI M N o0 o1 o2 o3 o4 o5 w h j (w-0).toNat 0 (es,g,c,nl);refine .inr ⟨_,rfl,?_,by simp only[m28];omega,?_⟩
   ·simp only[rU,Aa,Ab];simp only at b1 b2 b3 b4;exact⟨⟨⟨⟨⟨⟨⟨⟨⟨⟨trivial,trivial⟩,h2⟩,h3⟩,h4⟩,h5⟩,by omega⟩,by omega⟩,by omega⟩,by omega⟩,by omega⟩
   ·rw[hr'];simp only[f28,hk2,DT.run];rfl
  ·rw[Ai hi];refine .inl ?_;rw[hr',show((h+1)-j).toNat=0 by omega];rfl
 ·cases hp
noncomputable def MB5:C9:=MB4.Dr 53 28 [5,7,8,9,10,13,14,15] [true,true,true,false] Ql rU f28
theorem abE:C4 Try.prog MB5.env:=
 abC.Dr (n:=60) Try.func53 (show Try.f53.body=some (D3 Try.f53) by kernel_rfl) (show(loops (D3 Try.f53)).filter (fun b=>Ev b==28)=[Dh Try.f53 28] by kernel_rfl) [5,7,8,9,10,13,14,15] [5,7,8,9,10,13,14] [true,true,true,false] Ql m28 s28
noncomputable abbrev x35(m:Bool)(M:List PV)(w h:Int)(f:Bool)(L:List PV)(a o0 o1 o2 o3 o4 o5:Int)(N:List PV)(s:EW):PX×List PV×List Row:=
 (.exit 8,tm 208 [(5,.Db m 3 M),(7,.ptr 0 1 0 0),(8,iv w),(9,iv h),(10,.ptr 1 1 0 0),(13,.ptr 2 1 0 0),(14,.sl 3 s.1.length 0 s.1.length)],[Ie f L a,eS o0 o1 o2 o3 o4 o5,Ie s.2.1 N s.2.2.1,QW s.2.2.2 s.1])
theorem q35(m:Bool)(M:List PV)(w h:Int)(es:List PV)(j:Int)(f:Bool)(L:List PV)(a o0 o1 o2 o3 o4 o5:Int)(g:Bool)(N:List PV)(c:Int)(nl:Bool):
 Dc Try.prog MB5 60 53 (Dh Try.f53 35) [5,7,8,9,10,13,14,17] [5,7,8,9,10,13,14] (Qm.put (oq m M w h es.length es.length j f L a o0 o1 o2 o3 o4 o5 g N c nl es)).1 (Qm.put (oq m M w h es.length es.length j f L a o0 o1 o2 o3 o4 o5 g N c nl es)).2 =
 bif decide (j<h) then bif rT (eR m M w h es.length es.length j 0 f L a o0 o1 o2 o3 o4 o5 g N c nl es) then
  some (.normal,Qm.put (oq m M w h (XT M N o0 o1 o2 o3 o4 o5 w h j ((w+1)-0).toNat 0 (es,g,c,nl)).1.length (XT M N o0 o1 o2 o3 o4 o5 w h j ((w+1)-0).toNat 0 (es,g,c,nl)).1.length (W (j+1)) f L a o0 o1 o2 o3 o4 o5 (XT M N o0 o1 o2 o3 o4 o5 w h j ((w+1)-0).toNat 0 (es,g,c,nl)).2.1 N (XT M N o0 o1 o2 o3 o4 o5 w h j ((w+1)-0).toNat 0 (es,g,c,nl)).2.2.1 (XT M N o0 o1 o2 o3 o4 o5 w h j ((w+1)-0).toNat 0 (es,g,c,nl)).2.2.2 (XT M N o0 o1 o2 o3 o4 o5 w h j ((w+1)-0).toNat 0 (es,g,c,nl)).1)) else none
 else some (x35 m M w h f L a o0 o1 o2 o3 o4 o5 N (es,g,c,nl)):=by kernel_rfl
def lr(M N:List PV)(o0 o1 o2 o3 o4 o5 w h:Int):Nat->Int->EW->EW
 |0,_,s=>s
 |m+1,j,s=>lr M N o0 o1 o2 o3 o4 o5 w h m (j+1) (XT M N o0 o1 o2 o3 o4 o5 w h j ((w+1)-0).toNat 0 s)
theorem j9(M N:List PV)(o0 o1 o2 o3 o4 o5 w h:Int)(hw:w<=3):∀(m:Nat) (j:Int) (s:EW),s.1.length<=(lr M N o0 o1 o2 o3 o4 o5 w h m j s).1.length/\(lr M N o0 o1 o2 o3 o4 o5 w h m j s).1.length<=s.1.length+4*m/\s.2.2.1<=(lr M N o0 o1 o2 o3 o4 o5 w h m j s).2.2.1/\(lr M N o0 o1 o2 o3 o4 o5 w h m j s).2.2.1<=s.2.2.1+20*m
 |0,_,s=>by simp[lr]
 |m+1,j,s=>by
  obtain⟨a1,a2,a3,a4⟩:=ZJ M N o0 o1 o2 o3 o4 o5 w h j ((w+1)-0).toNat 0 s;obtain⟨b1,b2,b3,b4⟩:=j9 M N o0 o1 o2 o3 o4 o5 w h hw m (j+1) (XT M N o0 o1 o2 o3 o4 o5 w h j ((w+1)-0).toNat 0 s);simp only[lr];refine⟨by omega,by omega,by omega,?_⟩;have:((m+1:Nat):Int)=(m:Int)+1:=by simp
  omega
def rV:LS->Bool
 |([.l _ _,.i w,.i h,.n n,.n l,.i j],[.l _ _,.i _,.i _,.i _,.i _,.i _,.i _,.i _,.l _ _,.i c,.l _ es])=>decide (n=es.length)&&decide (l=es.length)&&decide (0<=w)&&decide (w<=3)&&decide (0<=h)&&decide (h<=2)&&decide (0<=j)&&decide (j<=h)&&decide ((es.length:Int)<=16+4*j)&&decide (0<=c)&&decide (c<=100+20*j)
 |_=>false
noncomputable def f35:LS->DT (PX×List PV×List Row)
 |([.l m M,.i w,.i h,.n _,.n _,.i j],[.l f L,.i a,.i o0,.i o1,.i o2,.i o3,.i o4,.i o5,.l g N,.i c,.l nl es])=>.leaf (x35 m M w h f L a o0 o1 o2 o3 o4 o5 N (lr M N o0 o1 o2 o3 o4 o5 w h (h-j).toNat j (es,g,c,nl)))
 |_=>.no
def m35:LS->Nat
 |([.l _ _,.i _,.i h,.n _,.n _,.i j],_)=>(h-j).toNat
 |_=>0
theorem s35:∀ s r,rV s=true->(f35 s).run=some r->r.1≠.normal/\(Dc Try.prog MB5 60 53 (Dh Try.f53 35) [5,7,8,9,10,13,14,17] [5,7,8,9,10,13,14] (Qm.put s).1 (Qm.put s).2=some r \/
   ∃ s',Dc Try.prog MB5 60 53 (Dh Try.f53 35) [5,7,8,9,10,13,14,17] [5,7,8,9,10,13,14] (Qm.put s).1 (Qm.put s).2=some (.normal,Qm.put s')/\rV s'=true/\m35 s'<m35 s/\(f35 s').run=some r):=by
 intro t r hp hr;unfold rV at hp;split at hp
 ·rename_i m M w h n l j f L a o0 o1 o2 o3 o4 o5 g N c nl es;simp only[Aa,Ab]at hp;obtain⟨⟨⟨⟨⟨⟨⟨⟨⟨⟨rfl,rfl⟩,h2⟩,h3⟩,h4⟩,h5⟩,h6⟩,h7⟩,h8⟩,h9⟩,h10⟩:=hp;have hr':=(Ah hr).symm;refine⟨by rw[hr'];simp,?_⟩;rw[show Qm.put ([.l m M,.i w,.i h,.n es.length,.n es.length,.i j],[.l f L,.i a,.i o0,.i o1,.i o2,.i o3,.i o4,.i o5,.l g N,.i c,.l nl es])=Qm.put (oq m M w h es.length es.length j f L a o0 o1 o2 o3 o4 o5 g N c nl es) from rfl,q35];by_cases hi:j<h
  ·obtain⟨k,hk⟩:∃ k,(h-j).toNat=k+1:=⟨(h-j).toNat-1,by omega⟩;have hk2:(h-(j+1)).toNat=k:=by omega
   have hp2:rT (eR m M w h es.length es.length j 0 f L a o0 o1 o2 o3 o4 o5 g N c nl es)=true:=by
    simp only[rT,Aa,Ab];exact⟨⟨⟨⟨⟨⟨⟨⟨⟨⟨trivial,trivial⟩,by omega⟩,by omega⟩,h3⟩,h5⟩,h6⟩,by omega⟩,by omega⟩,h9⟩,by omega⟩
   rw[Ac hi,hp2,Dx (n:=j+1) (by omega) (by omega)];simp only[Aj];rw[hk]at hr';obtain⟨b1,b2,b3,b4⟩:=ZJ M N o0 o1 o2 o3 o4 o5 w h j ((w+1)-0).toNat 0 (es,g,c,nl);refine .inr ⟨_,rfl,?_,by simp only[m35];omega,?_⟩
   ·simp only[rV,Aa,Ab];simp only at b1 b2 b3 b4;exact⟨⟨⟨⟨⟨⟨⟨⟨⟨⟨trivial,trivial⟩,h2⟩,h3⟩,h4⟩,h5⟩,by omega⟩,by omega⟩,by omega⟩,by omega⟩,by omega⟩
   ·rw[hr'];simp only[f35,hk2,DT.run];rfl
  ·rw[Ai hi];refine .inl ?_;rw[hr',show(h-j).toNat=0 by omega];rfl
 ·cases hp
noncomputable def MB6:C9:=MB5.Dr 53 35 [5,7,8,9,10,13,14,17] [true,true,true,false] Qm rV f35
theorem abF:C4 Try.prog MB6.env:=
 abE.Dr (n:=60) Try.func53 (show Try.f53.body=some (D3 Try.f53) by kernel_rfl) (show(loops (D3 Try.f53)).filter (fun b=>Ev b==35)=[Dh Try.f53 35] by kernel_rfl) [5,7,8,9,10,13,14,17] [5,7,8,9,10,13,14] [true,true,true,false] Qm m35 s35
noncomputable def ej:C9:=MB6.GH 53 15 [(5,3,0),(6,3,0)]
theorem abG:C4 Try.prog ej.env:=abF.GH 53 15 [(5,3,0),(6,3,0)]
def Hh:S1:=⟨208,[(5,.Db 3),(6,.Db 3),(7,.ptr 0 1 0 0),(8,Dm),(9,Dm),(10,.ptr 1 1 0 0),(11,Dm)],[.one 103 2 (.agg [.Db 3,Dm]),.one 128 6 (.agg [Dm,Dm,Dm,Dm,Dm,Dm])]⟩
abbrev Yd(m:Bool)(M:List PV)(g:Bool)(N:List PV)(w h i:Int)(f:Bool)(L:List PV)(a o0 o1 o2 o3 o4 o5:Int):LS:=([.l m M,.l g N,.i w,.i h,.i i],[.l f L,.i a,.i o0,.i o1,.i o2,.i o3,.i o4,.i o5])
noncomputable abbrev rW(m:Bool)(M:List PV)(g:Bool)(N:List PV)(w h:Int)(f:Bool)(L:List PV)(a o0 o1 o2 o3 o4 o5:Int):PX×List PV×List Row:=
 (.exit 0,tm 208 [(5,.Db m 3 M),(6,.Db g 3 N),(7,.ptr 0 1 0 0),(8,iv w),(9,iv h),(10,.ptr 1 1 0 0)],[Ie f L a,eS o0 o1 o2 o3 o4 o5])
abbrev PZ(w i j:Int):Int:=W (W (21+i)+W (w*j))
noncomputable abbrev ot(m:Bool)(M:List PV)(g:Bool)(N:List PV)(w h i:Int)(f:Bool)(L:List PV)(a o0 o1 o2 o3 o4 o5:Int):Option (PX×List PV×List Row):=some (.normal,Hh.put (Yd m M g N w h i f L a o0 o1 o2 o3 o4 o5))
abbrev c0(L:List PV)(a:Int):Bool:=cond true (dI L a 5==0) false
theorem agS(m:Bool)(M:List PV)(g:Bool)(N:List PV)(w:Int)(f:Bool)(L:List PV)(a o0 o1 o2 o3 o4 o5:Int):Dc Try.prog ej 60 53 (Dh Try.f53 15) [5,6,7,8,9,10,11] [5,6,7,8,9,10] (Hh.put (Yd m M g N w 1 0 f L a o0 o1 o2 o3 o4 o5)).1 (Hh.put (Yd m M g N w 1 0 f L a o0 o1 o2 o3 o4 o5)).2 =
 bif decide (0<w) then ot m M g N w 1 1 f L a (PZ w 0 0) o1 o2 o3 o4 o5 else some (rW m M g N w 1 f L a o0 o1 o2 o3 o4 o5):=by kernel_rfl
theorem abH(m:Bool)(M:List PV)(g:Bool)(N:List PV)(w:Int)(f:Bool)(L:List PV)(a o0 o1 o2 o3 o4 o5:Int):Dc Try.prog ej 60 53 (Dh Try.f53 15) [5,6,7,8,9,10,11] [5,6,7,8,9,10] (Hh.put (Yd m M g N w 1 1 f L a o0 o1 o2 o3 o4 o5)).1 (Hh.put (Yd m M g N w 1 1 f L a o0 o1 o2 o3 o4 o5)).2 =
 bif decide (1<w) then bif E3 a 5 then bif c0 L a then ot m M g N w 1 2 (fI f L a) L (aI L a) o0 o1 o0 o3 o4 o5 else ot m M g N w 1 2 (fI f L a) L (aI L a) o0 o1 (PZ w 1 0) o3 o4 o5 else none else some (rW m M g N w 1 f L a o0 o1 o2 o3 o4 o5):=by kernel_rfl
theorem abI(m:Bool)(M:List PV)(g:Bool)(N:List PV)(w:Int)(f:Bool)(L:List PV)(a o0 o1 o2 o3 o4 o5:Int):Dc Try.prog ej 60 53 (Dh Try.f53 15) [5,6,7,8,9,10,11] [5,6,7,8,9,10] (Hh.put (Yd m M g N w 1 2 f L a o0 o1 o2 o3 o4 o5)).1 (Hh.put (Yd m M g N w 1 2 f L a o0 o1 o2 o3 o4 o5)).2 =
 bif decide (2<w) then bif E3 a 5 then bif c0 L a then ot m M g N w 1 3 (fI f L a) L (aI L a) o0 o1 o2 o3 o2 o5 else ot m M g N w 1 3 (fI f L a) L (aI L a) o0 o1 o2 o3 (PZ w 2 0) o5 else none else some (rW m M g N w 1 f L a o0 o1 o2 o3 o4 o5):=by kernel_rfl
theorem agT(m:Bool)(M:List PV)(g:Bool)(N:List PV)(f:Bool)(L:List PV)(a o0 o1 o2 o3 o4 o5:Int):Dc Try.prog ej 60 53 (Dh Try.f53 15) [5,6,7,8,9,10,11] [5,6,7,8,9,10] (Hh.put (Yd m M g N 3 1 3 f L a o0 o1 o2 o3 o4 o5)).1 (Hh.put (Yd m M g N 3 1 3 f L a o0 o1 o2 o3 o4 o5)).2 =
 some (rW m M g N 3 1 f L a o0 o1 o2 o3 o4 o5):=by kernel_rfl
theorem agU(m:Bool)(M:List PV)(g:Bool)(N:List PV)(f:Bool)(L:List PV)(a o0 o1 o2 o3 o4 o5:Int):Dc Try.prog ej 60 53 (Dh Try.f53 15) [5,6,7,8,9,10,11] [5,6,7,8,9,10] (Hh.put (Yd m M g N 2 2 2 f L a o0 o1 o2 o3 o4 o5)).1 (Hh.put (Yd m M g N 2 2 2 f L a o0 o1 o2 o3 o4 o5)).2 =
 some (rW m M g N 2 2 f L a o0 o1 o2 o3 o4 o5):=by kernel_rfl
theorem agV(m:Bool)(M:List PV)(g:Bool)(N:List PV)(w:Int)(f:Bool)(L:List PV)(a o0 o1 o2 o3 o4 o5:Int):Dc Try.prog ej 60 53 (Dh Try.f53 15) [5,6,7,8,9,10,11] [5,6,7,8,9,10] (Hh.put (Yd m M g N w 2 0 f L a o0 o1 o2 o3 o4 o5)).1 (Hh.put (Yd m M g N w 2 0 f L a o0 o1 o2 o3 o4 o5)).2 =
 bif decide (0<w) then bif E3 a 5 then bif c0 L a then ot m M g N w 2 1 (fI f L a) L (aI L a) (PZ w 0 0) (PZ w 0 0) o2 o3 o4 o5 else ot m M g N w 2 1 (fI f L a) L (aI L a) (PZ w 0 0) (PZ w 0 1) o2 o3 o4 o5 else none else some (rW m M g N w 2 f L a o0 o1 o2 o3 o4 o5):=by kernel_rfl
noncomputable def vT(m:Bool)(M:List PV)(g:Bool)(N:List PV)(w:Int)(f:Bool)(L:List PV)(a o0 o1 o4 o5:Int)(p q:Int):Option (PX×List PV×List Row):=
 bif E3 a 5 then bif c0 L a then ot m M g N w 2 2 (fI f L a) L (aI L a) o0 o1 p p o4 o5 else ot m M g N w 2 2 (fI f L a) L (aI L a) o0 o1 p q o4 o5 else none
noncomputable def vU(m:Bool)(M:List PV)(g:Bool)(N:List PV)(w:Int)(f:Bool)(L:List PV)(a o0 o1 o4 o5:Int)(p:Int):Option (PX×List PV×List Row):=
 bif E3 a 5 then bif c0 L a then vT m M g N w (fI f L a) L (aI L a) o0 o1 o4 o5 p o1 else vT m M g N w (fI f L a) L (aI L a) o0 o1 o4 o5 p (PZ w 1 1) else none
theorem abJ(m:Bool)(M:List PV)(g:Bool)(N:List PV)(w:Int)(f:Bool)(L:List PV)(a o0 o1 o2 o3 o4 o5:Int):Dc Try.prog ej 60 53 (Dh Try.f53 15) [5,6,7,8,9,10,11] [5,6,7,8,9,10] (Hh.put (Yd m M g N w 2 1 f L a o0 o1 o2 o3 o4 o5)).1 (Hh.put (Yd m M g N w 2 1 f L a o0 o1 o2 o3 o4 o5)).2 =
 bif decide (1<w) then bif E3 a 5 then bif c0 L a then vU m M g N w (fI f L a) L (aI L a) o0 o1 o4 o5 o0 else vU m M g N w (fI f L a) L (aI L a) o0 o1 o4 o5 (PZ w 1 0) else none else some (rW m M g N w 2 f L a o0 o1 o2 o3 o4 o5):=by kernel_rfl
abbrev OS:=Bool×Int×Int×Int×Int×Int×Int×Int
def kc(w h i:Int)(L:List PV):OS->OS
 |(f,a,o0,o1,o2,o3,o4,o5)=>
  bif decide (h=1) then
   bif decide (i=0) then (f,a,PZ w 0 0,o1,o2,o3,o4,o5) else
   bif decide (i=1) then (fI f L a,aI L a,o0,o1,bif c0 L a then o0 else PZ w 1 0,o3,o4,o5) else
   (fI f L a,aI L a,o0,o1,o2,o3,bif c0 L a then o2 else PZ w 2 0,o5)
  else
   bif decide (i=0) then (fI f L a,aI L a,PZ w 0 0,bif c0 L a then PZ w 0 0 else PZ w 0 1,o2,o3,o4,o5) else
   (f1 f L a 3,a1 L a 3,o0,o1,bif c0 L a then o0 else PZ w 1 0,bif c0 L (a1 L a 2) then (bif c0 L a then o0 else PZ w 1 0) else (bif c0 L (a1 L a 1) then o1 else PZ w 1 1),o4,o5)
def rY(w h:Int)(L:List PV):Nat->Int->OS->OS
 |0,_,s=>s
 |m+1,i,s=>rY w h L m (i+1) (kc w h i L s)
theorem rZ(w h i:Int)(L:List PV)(s:OS):s.2.1<=(kc w h i L s).2.1/\(kc w h i L s).2.1<=s.2.1+3:=by
 obtain⟨f,a,o0,o1,o2,o3,o4,o5⟩:=s;have h1:=F6 L a;have h3:=Hv L a 3;unfold kc;cases decide (h=1) <;> cases decide (i=0) <;> cases decide (i=1) <;> simp only[Aj,Ap] <;> omega
theorem r7(w h:Int)(L:List PV):∀(m:Nat) (i:Int) (s:OS),s.2.1<=(rY w h L m i s).2.1/\(rY w h L m i s).2.1<=s.2.1+3*m
 |0,_,s=>by simp[rY]
 |m+1,i,s=>by
  have h1:=rZ w h i L s;have h2:=r7 w h L m (i+1) (kc w h i L s);simp only[rY];have:((m+1:Nat):Int)=(m:Int)+1:=by simp
  omega
noncomputable abbrev lO(m:Bool)(M:List PV)(g:Bool)(N:List PV)(w h i:Int)(L:List PV)(s:OS):LS:=Yd m M g N w h i s.1 L s.2.1 s.2.2.1 s.2.2.2.1 s.2.2.2.2.1 s.2.2.2.2.2.1 s.2.2.2.2.2.2.1 s.2.2.2.2.2.2.2
noncomputable abbrev xO(m:Bool)(M:List PV)(g:Bool)(N:List PV)(w h:Int)(L:List PV)(s:OS):PX×List PV×List Row:=rW m M g N w h s.1 L s.2.1 s.2.2.1 s.2.2.2.1 s.2.2.2.2.1 s.2.2.2.2.2.1 s.2.2.2.2.2.2.1 s.2.2.2.2.2.2.2
def r8(w h:Int):Bool:=decide (1<=w)&&(decide (h=1)&&decide (w<=3)||decide (h=2)&&decide (w<=2))
def r9:LS->Bool
 |([.l _ _,.l _ _,.i w,.i h,.i i],[.l _ _,.i a,.i _,.i _,.i _,.i _,.i _,.i _])=>r8 w h&&decide (0<=i)&&decide (i<=w)&&decide (0<=a)&&decide (a<=1000000+3*i)
 |_=>false
noncomputable def f15:LS->DT (PX×List PV×List Row)
 |([.l m M,.l g N,.i w,.i h,.i i],[.l f L,.i a,.i o0,.i o1,.i o2,.i o3,.i o4,.i o5])=>.leaf (xO m M g N w h L (rY w h L (w-i).toNat i (f,a,o0,o1,o2,o3,o4,o5)))
 |_=>.no
def m15:LS->Nat
 |([.l _ _,.l _ _,.i w,.i _,.i i],_)=>(w-i).toNat
 |_=>0
theorem r15(m:Bool)(M:List PV)(g:Bool)(N:List PV)(w h i:Int)(L:List PV)(s:OS)(hok:r8 w h=true)(h0:0<=i)(h1:i<w)(ha:0<=s.2.1)(ha2:s.2.1<=2000000):
 Dc Try.prog ej 60 53 (Dh Try.f53 15) [5,6,7,8,9,10,11] [5,6,7,8,9,10] (Hh.put (lO m M g N w h i L s)).1 (Hh.put (lO m M g N w h i L s)).2=some (.normal,Hh.put (lO m M g N w h (i+1) L (kc w h i L s))):=by
 obtain⟨f,a,o0,o1,o2,o3,o4,o5⟩:=s;simp only at ha ha2;have ok:∀ k:Nat,k<=3->E3 (a1 L a k) 5=true:=fun k hk=>by
  have:=Hv L a k;unfold E3;simp;omega
 have yv:E3 a 5=true:=ok 0 (by omega);have ok1:E3 (aI L a) 5=true:=ok 1 (by omega);have ok2:E3 (aI L (aI L a)) 5=true:=ok 2 (by omega);unfold r8 at hok;simp only[Aa,A2,Ab]at hok;obtain⟨hw,⟨rfl,hh⟩ |⟨rfl,hh⟩⟩:=hok
 ·have hi:i=0\/i=1\/i=2:=by omega
  rcases hi with rfl |rfl |rfl
  ·refine(agS m M g N w f L a o0 o1 o2 o3 o4 o5).trans ?_;rw[Ac h1];rfl
  ·refine(abH m M g N w f L a o0 o1 o2 o3 o4 o5).trans ?_;rw[Ac h1,yv];rw[show kc w 1 1 L (f,a,o0,o1,o2,o3,o4,o5)=(fI f L a,aI L a,o0,o1,bif c0 L a then o0 else PZ w 1 0,o3,o4,o5) from rfl];cases c0 L a <;> rfl
  ·refine(abI m M g N w f L a o0 o1 o2 o3 o4 o5).trans ?_;rw[Ac h1,yv];rw[show kc w 1 2 L (f,a,o0,o1,o2,o3,o4,o5)=(fI f L a,aI L a,o0,o1,o2,o3,bif c0 L a then o2 else PZ w 2 0,o5) from rfl];cases c0 L a <;> rfl
 ·have hi:i=0\/i=1:=by omega
  rcases hi with rfl |rfl
  ·refine(agV m M g N w f L a o0 o1 o2 o3 o4 o5).trans ?_;rw[Ac h1,yv];rw[show kc w 2 0 L (f,a,o0,o1,o2,o3,o4,o5)=(fI f L a,aI L a,PZ w 0 0,bif c0 L a then PZ w 0 0 else PZ w 0 1,o2,o3,o4,o5) from rfl];cases c0 L a <;> rfl
  ·refine(abJ m M g N w f L a o0 o1 o2 o3 o4 o5).trans ?_;unfold vU vT;rw[Ac h1,yv,ok1,ok2];rw[show kc w 2 1 L (f,a,o0,o1,o2,o3,o4,o5)=(f1 f L a 3,a1 L a 3,o0,o1,bif c0 L a then o0 else PZ w 1 0,bif c0 L (aI L (aI L a)) then (bif c0 L a then o0 else PZ w 1 0) else (bif c0 L (aI L a) then o1 else PZ w 1 1),o4,o5) from rfl];cases c0 L a <;> cases c0 L (aI L a) <;> cases c0 L (aI L (aI L a)) <;> rfl
theorem e15(m:Bool)(M:List PV)(g:Bool)(N:List PV)(w h:Int)(L:List PV)(s:OS)(hok:r8 w h=true):
 Dc Try.prog ej 60 53 (Dh Try.f53 15) [5,6,7,8,9,10,11] [5,6,7,8,9,10] (Hh.put (lO m M g N w h w L s)).1 (Hh.put (lO m M g N w h w L s)).2=some (xO m M g N w h L s):=by
 obtain⟨f,a,o0,o1,o2,o3,o4,o5⟩:=s;unfold r8 at hok;simp only[Aa,A2,Ab]at hok;obtain⟨hw,⟨rfl,hh⟩ |⟨rfl,hh⟩⟩:=hok
 ·have hi:w=1\/w=2\/w=3:=by omega
  rcases hi with rfl |rfl |rfl
  ·exact(abH m M g N 1 f L a o0 o1 o2 o3 o4 o5).trans (by rw[Ai (by omega)];rfl)
  ·exact(abI m M g N 2 f L a o0 o1 o2 o3 o4 o5).trans (by rw[Ai (by omega)];rfl)
  ·exact agT m M g N f L a o0 o1 o2 o3 o4 o5
 ·have hi:w=1\/w=2:=by omega
  rcases hi with rfl |rfl
  ·exact(abJ m M g N 1 f L a o0 o1 o2 o3 o4 o5).trans (by rw[Ai (by omega)];rfl)
  ·exact agU m M g N f L a o0 o1 o2 o3 o4 o5
theorem s15:∀ s r,r9 s=true->(f15 s).run=some r->r.1≠.normal/\(Dc Try.prog ej 60 53 (Dh Try.f53 15) [5,6,7,8,9,10,11] [5,6,7,8,9,10] (Hh.put s).1 (Hh.put s).2=some r \/
   ∃ s',Dc Try.prog ej 60 53 (Dh Try.f53 15) [5,6,7,8,9,10,11] [5,6,7,8,9,10] (Hh.put s).1 (Hh.put s).2=some (.normal,Hh.put s')/\r9 s'=true/\m15 s'<m15 s/\(f15 s').run=some r):=by
 intro t r hp hr;unfold r9 at hp;split at hp
 ·rename_i m M g N w h i f L a o0 o1 o2 o3 o4 o5;simp only[Aa,Ab]at hp;obtain⟨⟨⟨⟨h1,h2⟩,h3⟩,h4⟩,h5⟩:=hp;have hr':=(Ah hr).symm;refine⟨by rw[hr'];simp,?_⟩;have b8:w<=3:=by
   unfold r8 at h1;simp only[Aa,A2,Ab]at h1;omega
  by_cases hi:i<w
  ·obtain⟨k,hk⟩:∃ k,(w-i).toNat=k+1:=⟨(w-i).toNat-1,by omega⟩;have hk2:(w-(i+1)).toNat=k:=by omega
   have ha:=rZ w h i L (f,a,o0,o1,o2,o3,o4,o5);simp only at ha;refine .inr ⟨lO m M g N w h (i+1) L (kc w h i L (f,a,o0,o1,o2,o3,o4,o5)),r15 m M g N w h i L (f,a,o0,o1,o2,o3,o4,o5) h1 h2 hi h4 (by simp only;omega),?_,by simp only[m15];omega,?_⟩
   ·simp only[r9,Aa,Ab];exact⟨⟨⟨⟨h1,by omega⟩,by omega⟩,by omega⟩,by omega⟩
   ·rw[hr',hk];simp only[f15,hk2,DT.run,rY]
  ·have:i=w:=by omega
   subst this;rw[show(i-i).toNat=0 by omega]at hr';exact .inl (by rw[hr'];exact e15 m M g N i h L (f,a,o0,o1,o2,o3,o4,o5) h1)
 ·cases hp
noncomputable def MO2:C9:=ej.Kr Try.prog [true,false] 53 15 [5,6,7,8,9,10,11] [true,true] Hh r9 f15
theorem abK:C4 Try.prog MO2.env:=
 abG.Kr (n:=60) Try.func53 (show Try.f53.body=some (D3 Try.f53) by kernel_rfl) (show(loops (D3 Try.f53)).filter (fun b=>Ev b==15)=[Dh Try.f53 15] by kernel_rfl) [true,false] [5,6,7,8,9,10,11] [5,6,7,8,9,10] [true,true] Hh m15 s15
def Qn:S1:=⟨48,[(0,.Db 3),(1,Dm),(5,Dm)],[]⟩
abbrev vV(f:Bool)(l:List PV)(n a:Int):LS:=([.l f l,.i n,.i a],[])
abbrev xPu(f:Bool)(l:List PV)(n a:Int):PX×List PV×List Row:=(.exit 0,tm 48 [(0,.Db f 3 l),(1,iv n),(5,iv a)],[])
theorem qPu(f:Bool)(l:List PV)(n a:Int):Dc Try.prog M7 60 86 (Dh Try.f86 2) [0,1,5] [0,1,5] (Qn.put (vV f l n a)).1 (Qn.put (vV f l n a)).2 =
 bif decide (a > 0) then bif F7 l (W (a-1)) then bif cond true (decide (nI l (W (a-1)) ≥ n)) false then some (.normal,Qn.put (vV f l n (W (a-1)))) else some (xPu f l n a) else none else some (xPu f l n a):=by kernel_rfl
def Ye(l:List PV)(n:Int):Nat->Nat
 |0=>0
 |m+1=>bif decide (((l.getD m .any).cellAt 0).DN ≥ n) then Ye l n m else m+1
theorem ZL(l:List PV)(n:Int):∀ m,Ye l n m<=m
 |0=>Al _
 |m+1=>by
  have:=ZL l n m;unfold Ye;cases decide (((l.getD m .any).cellAt 0).DN ≥ n) <;> simp only[Aj,Ap] <;> omega
def sa:LS->Bool
 |([.l _ l,.i _,.i a],[])=>decide (0<=a)&&decide (a<=(l.length:Int))&&decide (l.length<=10000)
 |_=>false
def fPu:LS->DT (PX×List PV×List Row)
 |([.l f l,.i n,.i a],[])=>.leaf (xPu f l n (Ye l n a.toNat:Nat))
 |_=>.no
def mPu:LS->Nat
 |([.l _ _,.i _,.i a],_)=>a.toNat
 |_=>0
theorem sPu:∀ s r,sa s=true->(fPu s).run=some r->r.1≠.normal/\(Dc Try.prog M7 60 86 (Dh Try.f86 2) [0,1,5] [0,1,5] (Qn.put s).1 (Qn.put s).2=some r \/
   ∃ s',Dc Try.prog M7 60 86 (Dh Try.f86 2) [0,1,5] [0,1,5] (Qn.put s).1 (Qn.put s).2=some (.normal,Qn.put s')/\sa s'=true/\mPu s'<mPu s/\(fPu s').run=some r):=by
 intro t r hp hr;unfold sa at hp;split at hp
 ·rename_i f l n a;simp only[Aa,Ab]at hp;obtain⟨⟨h1,h2⟩,h3⟩:=hp;have hr':=(Ah hr).symm;refine⟨by rw[hr'];simp,?_⟩;rw[show Qn.put ([.l f l,.i n,.i a],[])=Qn.put (vV f l n a) from rfl,qPu];by_cases hi:a > 0
  ·obtain⟨k,hk⟩:∃ k,a.toNat=k+1:=⟨a.toNat-1,by omega⟩;have hk2:(a-1).toNat=k:=by omega
   rw[Ac hi,Dx (n:=a-1) (by omega) (by omega),D1 (by omega) (by omega)];simp only[Aj];rw[hk]at hr';simp only[Ye]at hr';rw[show nI l (a-1)=((l.getD k .any).cellAt 0).DN by unfold nI;rw[hk2]];cases hb:decide (((l.getD k .any).cellAt 0).DN ≥ n) with
   |true=>
    rw[hb,Aj]at hr';refine .inr ⟨vV f l n (a-1),rfl,by simp only[sa,Aa,Ab];omega,by simp only[mPu];omega,?_⟩;rw[hr'];simp only[fPu,hk2,DT.run]
   |false=>
    rw[hb,Ap]at hr';refine .inl ?_;rw[hr'];have:((k+1:Nat):Int)=a:=by omega
    rw[this];rfl
  ·rw[Ai hi];refine .inl ?_;have ha:a=0:=by omega
   subst ha;rw[hr'];rfl
 ·cases hp
noncomputable def MP1:C9:=M7.Dr 86 2 [0,1,5] [] Qn sa fPu
theorem sb:C4 Try.prog MP1.env:=
 IM.Dr (n:=60) Try.func86 (show Try.f86.body=some (D3 Try.f86) by kernel_rfl) (show(loops (D3 Try.f86)).filter (fun b=>Ev b==2)=[Dh Try.f86 2] by kernel_rfl) [0,1,5] [0,1,5] [] Qn mPu sPu
abbrev Yf(l:List PV)(A:Int):List PV:=(l.take A.toNat).drop 0
abbrev xG(l:List PV)(A:Int):List PV:=(l.take ((none:Option Int).getD (l.length:Int)).toNat).drop A.toNat
noncomputable def puK(l:List PV)(n A:Int):Option PV:=
 bif decide (0<=A)&&decide (A<=(l.length:Int)) then bif true&&decide ((0+(Yf l A).length)*8<=140737488355328) then
 bif true&&decide (([]++Yf l A).length=0+(Yf l A).length)&&decide (0+(Yf l A).length=0+(Yf l A).length)&&decide ((0+(Yf l A).length+1)*8<=140737488355328) then
 bif (decide (0<=A)&&decide (A<=(none:Option Int).getD (l.length:Int)))&&decide ((none:Option Int).getD (l.length:Int)<=(l.length:Int)) then
 bif true&&decide ((([]++Yf l A)++[iv n]).length=0+(Yf l A).length+1)&&decide (0+(Yf l A).length+1=0+(Yf l A).length+1)&&decide ((0+(Yf l A).length+1+(xG l A).length)*8<=140737488355328) then
  HV ((([]++Yf l A)++[iv n])++xG l A) (0+(Yf l A).length+1+(xG l A).length) (some (.Db false 3 ((((([]++Yf l A)++[iv n])++xG l A).drop 0).take (0+(Yf l A).length+1+(xG l A).length))))
 else none else none else none else none else none
theorem agY(f:Bool)(l:List PV)(n:Int):DC Try.prog MP1 60 86 [.Db f 3 l,iv n] =
 bif sa (vV f l n (l.length:Int)) then
  bif decide ((Ye l n (l.length:Int).toNat:Int)<(l.length:Int)) then bif F7 l (Ye l n (l.length:Int).toNat:Int) then bif cond true (nI l (Ye l n (l.length:Int).toNat:Int)==n) false then some (.Db f 3 l) else puK l n (Ye l n (l.length:Int).toNat:Int) else none
  else puK l n (Ye l n (l.length:Int).toNat:Int) else none:=by kernel_rfl
def lu(l:List PV)(n:Int):Bool:=bif decide ((Ye l n l.length:Int)<(l.length:Int)) then nI l (Ye l n l.length:Int)==n else false
def kd(l:List PV)(n:Int):List PV:=bif lu l n then l else l.take (Ye l n l.length)++iv n::l.drop (Ye l n l.length)
theorem ke{l:List PV}{n:Int}{a:Nat}(h:a<=l.length)(hl:l.length<=1000):puK l n (a:Int)=some (.Db false 3 (l.take a++iv n::l.drop a)):=by
 have e1:Yf l (a:Int)=l.take a:=by show(l.take ((a:Nat):Int).toNat).drop 0=_;simp
 have e2:xG l (a:Int)=l.drop a:=by show(l.take ((l.length:Nat):Int).toNat).drop ((a:Nat):Int).toNat=_;simp
 have e3:(none:Option Int).getD (l.length:Int)=(l.length:Int):=rfl;unfold puK HV;rw[e1,e2,e3];have l1:(l.take a).length=a:=by rw[Az];omega
 have l2:(l.drop a).length=l.length-a:=by rw[BL]
 simp only[Bc,Ar,As,AC,AH,l1,l2,BW,AN,CV,Br,AP,Aj];have c1:(decide ((0:Int)<=(a:Int))&&decide ((a:Int)<=(l.length:Int)))=true:=by simp;omega
 rw[c1,Ac (show a*8<=140737488355328 by omega),Ac (show(a+1)*8<=140737488355328 by omega),Ac (show(a+1+(l.length-a))*8<=140737488355328 by omega),Ac (show(l.length:Int)<=(l.length:Int) by omega)];simp only[Aj,Br];rw[A7 (by simp;omega)];simp
theorem se(f:Bool)(l:List PV)(n:Int)(hl:l.length<=1000):DC Try.prog MP1 60 86 [.Db f 3 l,iv n]=some (.Db (lu l n&&f) 3 (kd l n)):=by
 have hp:sa (vV f l n (l.length:Int))=true:=by
  simp only[sa,Aa,Ab];omega
 have ha:=ZL l n l.length;rw[agY,hp,show(l.length:Int).toNat=l.length by simp];simp only[Aj];unfold kd lu;by_cases h:(Ye l n l.length:Int)<(l.length:Int)
 ·rw[Ac h,D1 (by omega) (by omega)];simp only[Aj];cases nI l (Ye l n l.length:Int)==n
  ·exact ke ha hl
  ·rfl
 ·rw[Ai h];exact ke ha hl
def vW:List PV->Option (DT PV)
 | [.Db f 3 l,.val (.int .i64 n)]=>some (.br (decide (l.length<=1000)) (.leaf (.Db (lu l n&&f) 3 (kd l n))) .no)
 |_=>none
theorem agZ:Hx.Df Try.prog 86:=(Cz sb (n:=60) (se false [] 0 (by simp))).1
theorem ag0(args:List PV)(d:DT PV)(r:PV)(h:vW args=some d)(hr:d.run=some r):Ds Try.prog 86 args r:=by
 unfold vW at h;split at h
 ·rename_i f l n;cases h;obtain⟨h1,rfl⟩:=DO hr;exact(Cz sb (n:=60) (se f l n (AO h1))).2
 ·cases h
theorem b9(l:List PV)(n:Int):l.length<=(kd l n).length/\(kd l n).length<=l.length+1:=by
 unfold kd;cases lu l n with
 |true=>simp only[Aj];omega
 |false=>
  have:=ZL l n l.length;simp only[Ap,Ar,As,Az,BL];omega
noncomputable def MF1:C9:=((MO2.DH 86 vW).GH 76 3 [(3,3,0)]).GH 76 11 [(5,106,5)]
theorem abN:C4 Try.prog MF1.env:=((abK.DH agZ ag0).GH 76 3 [(3,3,0)]).GH 76 11 [(5,106,5)]
abbrev fR3:List Y1:=[.one 103 2 (.agg [.Db 3,Dm]),.one 128 6 (.agg [Dm,Dm,Dm,Dm,Dm,Dm]),.one 103 2 (.agg [.Db 3,Dm]),.many 147 4]
structure FR where
 f:Bool
 L:List PV
 a:Int
 o0:Int
 o1:Int
 o2:Int
 o3:Int
 o4:Int
 o5:Int
 g:Bool
 N:List PV
 c:Int
 nl:Bool
 es:List PV
abbrev FR.rows(R:FR):List Row:=[Ie R.f R.L R.a,eS R.o0 R.o1 R.o2 R.o3 R.o4 R.o5,Ie R.g R.N R.c,QW R.nl R.es]
abbrev FR.ls(R:FR)(t:List L1):List L1:=.l R.f R.L::.i R.a::.i R.o0::.i R.o1::.i R.o2::.i R.o3::.i R.o4::.i R.o5::.l R.g R.N::.i R.c::.l R.nl R.es::t
def O4:S1:=⟨54,[(0,.sl 3),(3,.Db 3),(4,Dm)],fR3⟩
abbrev sg(n l:Nat)(u:Bool)(is:List PV)(k:Int)(R:FR):LS:=([.n n,.n l,.l u is,.i k],R.ls [])
noncomputable abbrev xF3(u:Bool)(is:List PV)(R:FR):PX×List PV×List Row:=(.exit 0,tm 54 [(3,.Db u 3 is)],R.rows)
def ZM(es:List PV)(k:Int):Int:=((es.getD (0+k.toNat) .any).cellAt 2).DN
def si(es:List PV)(k:Int):Int:=((es.getD (0+k.toNat) .any).cellAt 3).DN
def xI(es:List PV)(n l:Nat)(k:Int){α:Type}(x:Option α):Option α:=Sj es n l k (HV es n (HV es n x))
theorem Vt{es:List PV}{k:Int}{α:Type}{x:Option α}(h1:0<=k)(h2:k<(es.length:Int)):xI es es.length es.length k x=x:=by
 unfold xI Sj HV;rw[AP,Ac h1,Ac h2];rfl
noncomputable def nF3(n l:Nat)(k:Int)(R:FR)(u:Bool)(is:List PV):Option (PX×List PV×List Row):=some (.normal,O4.put (sg n l u is (W (k+1)) R))
noncomputable def rF3(n l:Nat)(k:Int)(R:FR)(u:Bool)(is:List PV):Option (PX×List PV×List Row):=
 xI R.es n l k (bif si R.es k != 0 then xI R.es n l k (bif decide (is.length<=1000) then nF3 n l k R (lu is (si R.es k)&&u) (kd is (si R.es k)) else none) else nF3 n l k R u is)
theorem qF3(n l:Nat)(u:Bool)(is:List PV)(k:Int)(f:Bool)(L:List PV)(a o0 o1 o2 o3 o4 o5:Int)(g:Bool)(N:List PV)(c:Int)(nl:Bool)(es:List PV):
 Dc Try.prog MF1 60 76 (Dh Try.f76 3) [0,3,4] [3] (O4.put (sg n l u is k ⟨f,L,a,o0,o1,o2,o3,o4,o5,g,N,c,nl,es⟩)).1 (O4.put (sg n l u is k ⟨f,L,a,o0,o1,o2,o3,o4,o5,g,N,c,nl,es⟩)).2 =
 bif decide (k<(l:Int)) then
  xI es n l k (bif ZM es k != 0 then xI es n l k (bif decide (is.length<=1000) then rF3 n l k ⟨f,L,a,o0,o1,o2,o3,o4,o5,g,N,c,nl,es⟩ (lu is (ZM es k)&&u) (kd is (ZM es k)) else none) else rF3 n l k ⟨f,L,a,o0,o1,o2,o3,o4,o5,g,N,c,nl,es⟩ u is)
 else some (xF3 u is ⟨f,L,a,o0,o1,o2,o3,o4,o5,g,N,c,nl,es⟩):=by kernel_rfl
def lx(n:Int)(s:Bool×List PV):Bool×List PV:=bif n != 0 then (lu s.2 n&&s.1,kd s.2 n) else s
def vX(es:List PV)(k:Int)(s:Bool×List PV):Bool×List PV:=lx (si es k) (lx (ZM es k) s)
def VQ(es:List PV):Nat->Int->Bool×List PV->Bool×List PV
 |0,_,s=>s
 |m+1,k,s=>VQ es m (k+1) (vX es k s)
theorem Vu(n:Int)(s:Bool×List PV):s.2.length<=(lx n s).2.length/\(lx n s).2.length<=s.2.length+1:=by
 have:=b9 s.2 n;unfold lx;cases n != 0 <;> simp only[Aj,Ap] <;> omega
theorem cb(es:List PV)(k:Int)(s:Bool×List PV):(vX es k s).2.length<=s.2.length+2:=by
 have h1:=Vu (ZM es k) s;have h2:=Vu (si es k) (lx (ZM es k) s);unfold vX;omega
theorem cd(es:List PV):∀(m:Nat) (k:Int) (s:Bool×List PV),(VQ es m k s).2.length<=s.2.length+2*m
 |0,_,s=>by simp[VQ]
 |m+1,k,s=>by
  have h1:=cb es k s;have h2:=cd es m (k+1) (vX es k s);simp only[VQ];omega
def sj:LS->Bool
 |([.n n,.n l,.l _ is,.i k],[.l _ _,.i _,.i _,.i _,.i _,.i _,.i _,.i _,.l _ _,.i _,.l _ es])=>decide (n=es.length)&&decide (l=es.length)&&decide (0<=k)&&decide (k<=(es.length:Int))&&decide (es.length<=100)&&decide ((is.length:Int)<=2*k)
 |_=>false
noncomputable def fF3:LS->DT (PX×List PV×List Row)
 |([.n _,.n _,.l u is,.i k],[.l f L,.i a,.i o0,.i o1,.i o2,.i o3,.i o4,.i o5,.l g N,.i c,.l nl es])=>
  .leaf (xF3 (VQ es ((es.length:Int)-k).toNat k (u,is)).1 (VQ es ((es.length:Int)-k).toNat k (u,is)).2 ⟨f,L,a,o0,o1,o2,o3,o4,o5,g,N,c,nl,es⟩)
 |_=>.no
def mF3:LS->Nat
 |([.n _,.n l,.l _ _,.i k],_)=>((l:Int)-k).toNat
 |_=>0
theorem kg{R:FR}{k:Int}{u:Bool}{is:List PV}(h1:0<=k)(h2:k<(R.es.length:Int))(h3:is.length<=1000)(h4:k<=1000):
  rF3 R.es.length R.es.length k R u is=some (.normal,O4.put (sg R.es.length R.es.length (lx (si R.es k) (u,is)).1 (lx (si R.es k) (u,is)).2 (k+1) R)):=by
 unfold rF3 nF3;rw[Vt h1 h2,Vt h1 h2,Ac h3,Dx (n:=k+1) (by omega) (by omega)];unfold lx;cases si R.es k != 0 <;> rfl
theorem ag2:∀ s r,sj s=true->(fF3 s).run=some r->r.1≠.normal/\(Dc Try.prog MF1 60 76 (Dh Try.f76 3) [0,3,4] [3] (O4.put s).1 (O4.put s).2=some r \/
   ∃ s',Dc Try.prog MF1 60 76 (Dh Try.f76 3) [0,3,4] [3] (O4.put s).1 (O4.put s).2=some (.normal,O4.put s')/\sj s'=true/\mF3 s'<mF3 s/\(fF3 s').run=some r):=by
 intro t r hp hr;unfold sj at hp;split at hp
 ·rename_i n l u is k f L a o0 o1 o2 o3 o4 o5 g N c nl es;simp only[Aa,Ab]at hp;obtain⟨⟨⟨⟨⟨rfl,rfl⟩,h1⟩,h2⟩,h3⟩,h4⟩:=hp;have hr':=(Ah hr).symm;refine⟨by rw[hr'];simp,?_⟩;have q:=qF3 es.length es.length u is k f L a o0 o1 o2 o3 o4 o5 g N c nl es;rw[show(O4.put ([.n es.length,.n es.length,.l u is,.i k],[.l f L,.i a,.i o0,.i o1,.i o2,.i o3,.i o4,.i o5,.l g N,.i c,.l nl es]))=O4.put (sg es.length es.length u is k ⟨f,L,a,o0,o1,o2,o3,o4,o5,g,N,c,nl,es⟩) from rfl,q];by_cases hk:k<(es.length:Int)
  ·obtain⟨j,hj⟩:∃ j,((es.length:Int)-k).toNat=j+1:=⟨((es.length:Int)-k).toNat-1,by omega⟩;have hj2:((es.length:Int)-(k+1)).toNat=j:=by omega
   have hs:=cb es k (u,is);have hl:=Vu (ZM es k) (u,is);simp only at hs hl;refine .inr ⟨sg es.length es.length (vX es k (u,is)).1 (vX es k (u,is)).2 (k+1) ⟨f,L,a,o0,o1,o2,o3,o4,o5,g,N,c,nl,es⟩,?_,?_,by simp only[mF3];omega,?_⟩
   ·rw[Ac hk,Vt h1 hk,Vt h1 hk,Ac (show is.length<=1000 by omega)];simp only[Aj];rw[kg (R:=⟨f,L,a,o0,o1,o2,o3,o4,o5,g,N,c,nl,es⟩) (u:=u) (is:=is) h1 hk (by show is.length<=1000;omega) (by omega),
     kg (R:=⟨f,L,a,o0,o1,o2,o3,o4,o5,g,N,c,nl,es⟩) (u:=lu is (ZM es k)&&u) (is:=kd is (ZM es k)) h1 hk (by have:=b9 is (ZM es k);omega) (by omega)]
    unfold vX;rw[show lx (ZM es k) (u,is)=bif ZM es k != 0 then (lu is (ZM es k)&&u,kd is (ZM es k)) else (u,is) from rfl];cases ZM es k != 0 <;> rfl
   ·simp only[sj,Aa,Ab];exact⟨⟨⟨⟨⟨trivial,trivial⟩,by omega⟩,by omega⟩,h3⟩,by omega⟩
   ·rw[hr',hj];simp only[fF3,hj2,DT.run,VQ]
  ·have hz:((es.length:Int)-k).toNat=0:=by omega
   rw[Ai hk];exact .inl (by rw[hr',hz];rfl)
 ·cases hp
noncomputable def MF2:C9:=MF1.Dr 76 3 [0,3,4] [true,true,true,false] O4 sj fF3
theorem abP:C4 Try.prog MF2.env:=
 abN.Dr (n:=60) Try.func76 (show Try.f76.body=some (D3 Try.f76) by kernel_rfl) (show(loops (D3 Try.f76)).filter (fun b=>Ev b==3)=[Dh Try.f76 3] by kernel_rfl) [0,3,4] [3] [true,true,true,false] O4 mF3 ag2
def Kt:S1:=⟨54,[(3,.Db 3),(5,.sl 4),(6,Dm)],[.one 103 2 (.agg [.Db 3,Dm]),.one 128 6 (.agg [Dm,Dm,Dm,Dm,Dm,Dm]),.one 103 2 (.agg [.Db 3,Dm]),.many 147 4,.many 106 5]⟩
abbrev ek(e:PV):PV:=.agg [iv (e.cellAt 0).DN,.val (.string .empty),.val (.string .empty),iv 0,iv 0]
abbrev xJ(v:Bool)(fs:List PV):Row:={ es:=fs,s:=5,t:=106,bv:=true,nl:=v }
abbrev XU(u:Bool)(is:List PV)(m r:Nat)(k:Int)(R:FR)(v:Bool)(fs:List PV):LS:=([.l u is,.n m,.n r,.i k],R.ls [.l v fs])
noncomputable abbrev abQ(m r:Nat)(R:FR)(v:Bool)(fs:List PV):PX×List PV×List Row:=(.exit 2,tm 54 [(5,.sl 4 m 0 r)],R.rows++[xJ v fs])
theorem ag3(u:Bool)(is:List PV)(m r:Nat)(k:Int)(f:Bool)(L:List PV)(a o0 o1 o2 o3 o4 o5:Int)(g:Bool)(N:List PV)(c:Int)(nl:Bool)(es:List PV)(v:Bool)(fs:List PV):
 Dc Try.prog MF2 60 76 (Dh Try.f76 11) [3,5,6] [5] (Kt.put (XU u is m r k ⟨f,L,a,o0,o1,o2,o3,o4,o5,g,N,c,nl,es⟩ v fs)).1 (Kt.put (XU u is m r k ⟨f,L,a,o0,o1,o2,o3,o4,o5,g,N,c,nl,es⟩ v fs)).2 =
 bif decide (k<(is.length:Int)) then bif F7 is k then bif true&&decide (fs.length=m)&&decide (m=r)&&decide ((m+1)*56<=140737488355328) then
  some (.normal,Kt.put (XU u is (m+1) (m+1) (W (k+1)) ⟨f,L,a,o0,o1,o2,o3,o4,o5,g,N,c,nl,es⟩ (v&&false) (fs++[ek (is.getD k.toNat .any)]))) else none else none
 else some (abQ m r ⟨f,L,a,o0,o1,o2,o3,o4,o5,g,N,c,nl,es⟩ v fs):=by kernel_rfl
def ly(is:List PV):Nat->Int->Bool×List PV->Bool×List PV
 |0,_,s=>s
 |m+1,k,s=>ly is m (k+1) (s.1&&false,s.2++[ek (is.getD k.toNat .any)])
theorem cf(is:List PV):∀(m:Nat) (k:Int) (s:Bool×List PV),(ly is m k s).2.length=s.2.length+m
 |0,_,_=>rfl
 |m+1,k,s=>by
  simp only[ly];rw[cf is m];simp;omega
def Vv:LS->Bool
 |([.l _ is,.n m,.n r,.i k],[.l _ _,.i _,.i _,.i _,.i _,.i _,.i _,.i _,.l _ _,.i _,.l _ _,.l _ fs])=>decide (m=fs.length)&&decide (r=fs.length)&&decide (0<=k)&&decide (k<=(is.length:Int))&&decide (is.length<=1000)&&decide ((fs.length:Int)=k)
 |_=>false
noncomputable def ou:LS->DT (PX×List PV×List Row)
 |([.l _ is,.n _,.n _,.i k],[.l f L,.i a,.i o0,.i o1,.i o2,.i o3,.i o4,.i o5,.l g N,.i c,.l nl es,.l v fs])=>
  .leaf (abQ is.length is.length ⟨f,L,a,o0,o1,o2,o3,o4,o5,g,N,c,nl,es⟩ (ly is ((is.length:Int)-k).toNat k (v,fs)).1 (ly is ((is.length:Int)-k).toNat k (v,fs)).2)
 |_=>.no
def ov:LS->Nat
 |([.l _ is,.n _,.n _,.i k],_)=>((is.length:Int)-k).toNat
 |_=>0
theorem ag4:∀ s r,Vv s=true->(ou s).run=some r->r.1≠.normal/\(Dc Try.prog MF2 60 76 (Dh Try.f76 11) [3,5,6] [5] (Kt.put s).1 (Kt.put s).2=some r \/
   ∃ s',Dc Try.prog MF2 60 76 (Dh Try.f76 11) [3,5,6] [5] (Kt.put s).1 (Kt.put s).2=some (.normal,Kt.put s')/\Vv s'=true/\ov s'<ov s/\(ou s').run=some r):=by
 intro t r hp hr;unfold Vv at hp;split at hp
 ·rename_i u is m r k f L a o0 o1 o2 o3 o4 o5 g N c nl es v fs;simp only[Aa,Ab]at hp;obtain⟨⟨⟨⟨⟨rfl,rfl⟩,h1⟩,h2⟩,h3⟩,h4⟩:=hp;have hr':=(Ah hr).symm;refine⟨by rw[hr'];simp,?_⟩;have q:=ag3 u is fs.length fs.length k f L a o0 o1 o2 o3 o4 o5 g N c nl es v fs;rw[show(Kt.put ([.l u is,.n fs.length,.n fs.length,.i k],[.l f L,.i a,.i o0,.i o1,.i o2,.i o3,.i o4,.i o5,.l g N,.i c,.l nl es,.l v fs]))=Kt.put (XU u is fs.length fs.length k ⟨f,L,a,o0,o1,o2,o3,o4,o5,g,N,c,nl,es⟩ v fs) from rfl,q];by_cases hk:k<(is.length:Int)
  ·obtain⟨j,hj⟩:∃ j,((is.length:Int)-k).toNat=j+1:=⟨((is.length:Int)-k).toNat-1,by omega⟩;have hj2:((is.length:Int)-(k+1)).toNat=j:=by omega
   refine .inr ⟨XU u is (fs.length+1) (fs.length+1) (k+1) ⟨f,L,a,o0,o1,o2,o3,o4,o5,g,N,c,nl,es⟩ (v&&false) (fs++[ek (is.getD k.toNat .any)]),?_,?_,by simp only[ov];omega,?_⟩
   ·rw[Ac hk,D1 h1 hk,Dx (n:=k+1) (by omega) (by omega),Ac (show fs.length=fs.length from rfl),Ac (show(fs.length+1)*56<=140737488355328 by omega)];rfl
   ·simp only[Vv,Aa,Ab,Ar,As,AC];exact⟨⟨⟨⟨⟨trivial,trivial⟩,by omega⟩,by omega⟩,h3⟩,by omega⟩
   ·rw[hr',hj];simp only[ou,hj2,DT.run,ly]
  ·have hz:((is.length:Int)-k).toNat=0:=by omega
   rw[Ai hk];exact .inl (by rw[hr',hz,show fs.length=is.length by omega];rfl)
 ·cases hp
noncomputable def MF3:C9:=MF2.Dr 76 11 [3,5,6] [true,true,true,false,false] Kt Vv ou
theorem abR:C4 Try.prog MF3.env:=
 abP.Dr (n:=60) Try.func76 (show Try.f76.body=some (D3 Try.f76) by kernel_rfl) (show(loops (D3 Try.f76)).filter (fun b=>Ev b==11)=[Dh Try.f76 11] by kernel_rfl) [3,5,6] [5] [true,true,true,false,false] Kt ov ag4
noncomputable def vY:C9:=MF3.Gf 76
theorem abS:C4 Try.prog vY.env:=abR.Gf 76
noncomputable def sk(R:FR):Option (PV×List Row):=
 bif R.es.length==R.es.length then bif sj (sg R.es.length R.es.length false [] 0 R) then
 bif Vv (XU (VQ R.es ((R.es.length:Int)-0).toNat 0 (false,[])).1 (VQ R.es ((R.es.length:Int)-0).toNat 0 (false,[])).2 0 0 0 R true []) then
  some (.D8 [.sl 3 R.es.length 0 R.es.length,.sl 4 (VQ R.es ((R.es.length:Int)-0).toNat 0 (false,[])).2.length 0 (VQ R.es ((R.es.length:Int)-0).toNat 0 (false,[])).2.length],
   R.rows++[xJ (ly (VQ R.es ((R.es.length:Int)-0).toNat 0 (false,[])).2 (((VQ R.es ((R.es.length:Int)-0).toNat 0 (false,[])).2.length:Int)-0).toNat 0 (true,[])).1 (ly (VQ R.es ((R.es.length:Int)-0).toNat 0 (false,[])).2 (((VQ R.es ((R.es.length:Int)-0).toNat 0 (false,[])).2.length:Int)-0).toNat 0 (true,[])).2])
 else none else none else none
abbrev mdP(i j:Int):Int×Int:=(W (90+W (100*i)),W (90+W (100*j)))
def FR.isl(R:FR)(i j o:Int):FR:={ R with
 f:=fI (fI (fI R.f R.L R.a) R.L (aI R.L R.a)) R.L (aI R.L (aI R.L R.a)),a:=aI R.L (aI R.L (aI R.L R.a)),
 g:=addF' 28 o (f1 R.g R.N R.c 2) R.N (a1 R.N R.c 2),c:=Vo 28 o R.N (a1 R.N R.c 2),nl:=addN' 28 o R.nl,
 es:=IH R.es false (oi (mdP i j).1 (mdP i j).2 R.N R.c) 28 o R.N (a1 R.N R.c 2) }
noncomputable def sn(R:FR)(i j o:Int):Option (PV×List Row):=
 bif R.es.length==R.es.length then bif eh R.es.length R.es.length R.es R.c then sk (R.isl i j o) else none else none
noncomputable def mdI(R:FR)(w h:Int):Option (PV×List Row):=
 bif E3 R.a 2 then bif dI R.L R.a 2==1 then bif E3 (aI R.L R.a) w then bif E3 (aI R.L (aI R.L R.a)) h then
  bif decide (dI R.L (aI R.L R.a) w=2) then bif decide (dI R.L (aI R.L (aI R.L R.a)) h=1) then sn R (dI R.L (aI R.L R.a) w) (dI R.L (aI R.L (aI R.L R.a)) h) R.o5 else bif decide (dI R.L (aI R.L (aI R.L R.a)) h=0) then sn R (dI R.L (aI R.L R.a) w) (dI R.L (aI R.L (aI R.L R.a)) h) R.o4 else none else
  bif decide (dI R.L (aI R.L R.a) w=1) then bif decide (dI R.L (aI R.L (aI R.L R.a)) h=1) then sn R (dI R.L (aI R.L R.a) w) (dI R.L (aI R.L (aI R.L R.a)) h) R.o3 else bif decide (dI R.L (aI R.L (aI R.L R.a)) h=0) then sn R (dI R.L (aI R.L R.a) w) (dI R.L (aI R.L (aI R.L R.a)) h) R.o2 else none else
  bif decide (dI R.L (aI R.L R.a) w=0) then bif decide (dI R.L (aI R.L (aI R.L R.a)) h=1) then sn R (dI R.L (aI R.L R.a) w) (dI R.L (aI R.L (aI R.L R.a)) h) R.o1 else bif decide (dI R.L (aI R.L (aI R.L R.a)) h=0) then sn R (dI R.L (aI R.L R.a) w) (dI R.L (aI R.L (aI R.L R.a)) h) R.o0 else none else none
 else none else none else sk { R with f:=fI R.f R.L R.a,a:=aI R.L R.a } else none
def HI(w h:Int)(A:List PV):OS:=rY w h A (w-0).toNat 0 (false,a1 A 0 2,0,0,0,0,0,0)
def VR(M N:List PV)(s:OS)(w h:Int)(m:Nat)(t:EW):EW:=Tj M N s.2.2.1 s.2.2.2.1 s.2.2.2.2.1 s.2.2.2.2.2.1 s.2.2.2.2.2.2.1 s.2.2.2.2.2.2.2 w h m 0 t
def ow(M N:List PV)(s:OS)(w h:Int)(m:Nat)(t:EW):EW:=lr M N s.2.2.1 s.2.2.2.1 s.2.2.2.2.1 s.2.2.2.2.2.1 s.2.2.2.2.2.2.1 s.2.2.2.2.2.2.2 w h m 0 t
abbrev frO(s:OS)(A N:List PV)(t:EW):FR:=⟨s.1,A,s.2.1,s.2.2.1,s.2.2.2.1,s.2.2.2.2.1,s.2.2.2.2.2.1,s.2.2.2.2.2.2.1,s.2.2.2.2.2.2.2,t.2.1,N,t.2.2.1,t.2.2.2,t.1⟩
abbrev ox(B C A:List PV)(w h:Int)(n:Nat)(s:OS)(t:EW):LS:=oq false B w h n n 0 s.1 A s.2.1 s.2.2.1 s.2.2.2.1 s.2.2.2.2.1 s.2.2.2.2.2.1 s.2.2.2.2.2.2.1 s.2.2.2.2.2.2.2 t.2.1 C t.2.2.1 t.2.2.2 t.1
noncomputable def mdM(A B C:List PV)(w h:Int):Option (PV×List Row):=
 bif r9 (lO false B false C w h 0 A (false,a1 A 0 2,0,0,0,0,0,0)) then
 bif rU (ox B C A w h 0 (HI w h A) ([],false,0,true)) then
 bif rV (ox B C A w h (VR B C (HI w h A) w h (h+1-0).toNat ([],false,0,true)).1.length (HI w h A) (VR B C (HI w h A) w h (h+1-0).toNat ([],false,0,true))) then
  mdI (frO (HI w h A) A C (ow B C (HI w h A) w h (h-0).toNat (VR B C (HI w h A) w h (h+1-0).toNat ([],false,0,true)))) w h
 else none else none else none
noncomputable def vZ(A B C:List PV):Option (PV×List Row):=
 bif E3 (aI A 0) 2 then bif W (1+dI A 0 3)==3 then mdM A B C (W (1+dI A 0 3)) 1 else mdM A B C (W (1+dI A 0 3)) (W (1+dI A (aI A 0) 2)) else none
abbrev xK(e:PV):List PV:=(e.cellAt 0).Tc
theorem ag7(f:Bool)(e0 e1 e2:PV):OB Try.prog vY 60 0 53 [.Db f 38 [e0,e1,e2]] []=vZ (xK e0) (xK e1) (xK e2):=by kernel_rfl
theorem ag8(f:Bool)(e0 e1:PV):OB Try.prog vY 60 0 53 [.Db f 38 [e0,e1]] []=vZ (xK e0) (xK e1) []:=by kernel_rfl
theorem ag9(f:Bool)(e0:PV):OB Try.prog vY 60 0 53 [.Db f 38 [e0]] []=vZ (xK e0) [] []:=by kernel_rfl
theorem aha(f:Bool):OB Try.prog vY 60 0 53 [.Db f 38 []] []=vZ [] [] []:=by kernel_rfl
def ahb(e:PV):Prop:=∃ id f ps lf rt,e=edv id f ps lf rt/\ps.length<=10
def Ma(es:List PV):Prop:=∀ e∈es,ahb e
theorem kh{es:List PV}{g:Bool}{ps:List PV}{lf rt:Int}{L:List PV}{a:Int}(h:Ma es)(hp:ps.length<=10):Ma (IH es g ps lf rt L a):=by
 unfold IH;cases lf==rt with
 |true=>exact h
 |false=>
  intro e he;rcases A5.1 he with he |he
  ·exact h e he
  ·rw[AI]at he;subst he;cases dI L a 2==1
   ·exact⟨_,_,_,_,_,rfl,hp⟩
   ·exact⟨_,_,_,_,_,rfl,by rw[N9];exact hp⟩
theorem ki(es:List PV)(g:Bool)(ps:List PV)(lf rt:Int)(L:List PV)(a:Int):(IH es g ps lf rt L a).length<=es.length+1:=by
 unfold IH;cases lf==rt <;> simp only[Aj,Ap,Ar,As,AC] <;> omega
theorem sq(N:List PV)(x0 y0 x1 y1 lf rt:Int){s:EW}(h:Ma s.1):Ma (Um N x0 y0 x1 y1 lf rt s).1:=
 kh h (by have:=ZH N s.2.2.1;rw[XR];omega)
theorem sr(M N:List PV)(o0 o1 o2 o3 o4 o5 w h j:Int):∀(m:Nat) (i:Int) {s:EW},Ma s.1->Ma (XS M N o0 o1 o2 o3 o4 o5 w h j m i s).1
 |0,_,_,hs=>hs
 |m+1,i,_,hs=>sr M N o0 o1 o2 o3 o4 o5 w h j m (i+1) (sq _ _ _ _ _ _ _ hs)
theorem su(M N:List PV)(o0 o1 o2 o3 o4 o5 w h j:Int):∀(m:Nat) (i:Int) {s:EW},Ma s.1->Ma (XT M N o0 o1 o2 o3 o4 o5 w h j m i s).1
 |0,_,_,hs=>hs
 |m+1,i,_,hs=>su M N o0 o1 o2 o3 o4 o5 w h j m (i+1) (sq _ _ _ _ _ _ _ hs)
theorem sv(M N:List PV)(o0 o1 o2 o3 o4 o5 w h:Int):∀(m:Nat) (j:Int) {s:EW},Ma s.1->Ma (Tj M N o0 o1 o2 o3 o4 o5 w h m j s).1
 |0,_,_,hs=>hs
 |m+1,j,_,hs=>sv M N o0 o1 o2 o3 o4 o5 w h m (j+1) (sr _ _ _ _ _ _ _ _ _ _ _ _ _ hs)
theorem sw(M N:List PV)(o0 o1 o2 o3 o4 o5 w h:Int):∀(m:Nat) (j:Int) {s:EW},Ma s.1->Ma (lr M N o0 o1 o2 o3 o4 o5 w h m j s).1
 |0,_,_,hs=>hs
 |m+1,j,_,hs=>sw M N o0 o1 o2 o3 o4 o5 w h m (j+1) (su _ _ _ _ _ _ _ _ _ _ _ _ _ hs)
def xP(es:List PV):List PV:=(VQ es ((es.length:Int)-0).toNat 0 (false,[])).2
def sx(es:List PV):Bool×List PV:=ly (xP es) (((xP es).length:Int)-0).toNat 0 (true,[])
theorem cg(es:List PV):(xP es).length<=2*es.length:=by
 have:=cd es ((es.length:Int)-0).toNat 0 (false,[]);unfold xP;simp only[AC]at this;omega
theorem cj(es:List PV):(sx es).2.length=(xP es).length:=by
 unfold sx;rw[cf];simp
theorem sy(is:List PV):∀(m:Nat) (k:Int) (s:Bool×List PV),(∀ e∈s.2,∃ x,e=ek x)->∀ e∈(ly is m k s).2,∃ x,e=ek x
 |0,_,_,h=>h
 |m+1,k,s,h=>sy is m (k+1) _ (fun e he=>by
   rcases A5.1 he with he |he
   ·exact h e he
   ·rw[AI]at he;exact⟨_,he⟩)
theorem abT(es:List PV):∀ e∈(sx es).2,∃ x,e=ek x:=sy _ _ _ _ (by simp)
theorem v5{R:FR}(h:R.es.length<=50):sk R=some (.D8 [.sl 3 R.es.length 0 R.es.length,.sl 4 (sx R.es).2.length 0 (sx R.es).2.length],R.rows++[xJ (sx R.es).1 (sx R.es).2]):=by
 have hJ:=cg R.es;have h1:sj (sg R.es.length R.es.length false [] 0 R)=true:=by
  simp only[sj,Aa,Ab,AC,CM,Dk];omega
 have h2:Vv (XU (VQ R.es ((R.es.length:Int)-0).toNat 0 (false,[])).1 (VQ R.es ((R.es.length:Int)-0).toNat 0 (false,[])).2 0 0 0 R true [])=true:=by
  show Vv (XU _ (xP R.es) 0 0 0 R true [])=true
  simp only[Vv,Aa,Ab,AC,CM,Dk];omega
 unfold sk;rw[AP,h1,h2,cj];rfl
def E8(A:List PV):Int:=1+dI A 0 3
def Ew(A:List PV):Int:=if E8 A=3 then 1 else 1+dI A (aI A 0) 2
def Mb(A B C:List PV):FR:=frO (HI (E8 A) (Ew A) A) A C (ow B C (HI (E8 A) (Ew A) A) (E8 A) (Ew A) (Ew A-0).toNat (VR B C (HI (E8 A) (Ew A) A) (E8 A) (Ew A) (Ew A+1-0).toNat ([],false,0,true)))
def mdU(R:FR)(i j:Int):Int:=bif decide (i=2) then bif decide (j=1) then R.o5 else R.o4 else bif decide (i=1) then bif decide (j=1) then R.o3 else R.o2 else bif decide (j=1) then R.o1 else R.o0
def oy(R:FR)(w h:Int):FR:=bif dI R.L R.a 2==1 then R.isl (dI R.L (aI R.L R.a) w) (dI R.L (aI R.L (aI R.L R.a)) h) (mdU R (dI R.L (aI R.L R.a) w) (dI R.L (aI R.L (aI R.L R.a)) h)) else { R with f:=fI R.f R.L R.a,a:=aI R.L R.a }
def mdR(A B C:List PV):FR:=oy (Mb A B C) (E8 A) (Ew A)
def mdE(A B C:List PV):List PV:=(mdR A B C).es
theorem v7(A:List PV):1<=E8 A/\E8 A<=3/\1<=Ew A/\Ew A<=2/\r8 (E8 A) (Ew A)=true:=by
 have h1:=IZ A 0 (n:=3) (by omega);have h2:=ID A 0 (n:=3) (by omega);have h3:=IZ A (aI A 0) (n:=2) (by omega);have h4:=ID A (aI A 0) (n:=2) (by omega);have e:E8 A=1+dI A 0 3:=rfl;unfold r8 Ew;simp only[Aa,A2,Ab];split <;> omega
theorem kj(A:List PV):0<=(HI (E8 A) (Ew A) A).2.1/\(HI (E8 A) (Ew A) A).2.1<=11:=by
 have h1:=Hv A 0 2;have h2:=r7 (E8 A) (Ew A) A (E8 A-0).toNat 0 (false,a1 A 0 2,0,0,0,0,0,0);have h3:=v7 A;unfold HI;simp only at h2;omega
theorem cm(A B C:List PV):(Mb A B C).es.length<=20/\0<=(Mb A B C).c/\(Mb A B C).c<=200/\0<=(Mb A B C).a/\(Mb A B C).a<=11/\Ma (Mb A B C).es:=by
 obtain⟨w1,w2,h1,h2,hok⟩:=v7 A;obtain⟨a1,a2⟩:=kj A;have b1:=ZK B C (HI (E8 A) (Ew A) A).2.2.1 (HI (E8 A) (Ew A) A).2.2.2.1 (HI (E8 A) (Ew A) A).2.2.2.2.1 (HI (E8 A) (Ew A) A).2.2.2.2.2.1 (HI (E8 A) (Ew A) A).2.2.2.2.2.2.1 (HI (E8 A) (Ew A) A).2.2.2.2.2.2.2 (E8 A) (Ew A) w2 (Ew A+1-0).toNat 0 ([],false,0,true);have b2:=j9 B C (HI (E8 A) (Ew A) A).2.2.1 (HI (E8 A) (Ew A) A).2.2.2.1 (HI (E8 A) (Ew A) A).2.2.2.2.1 (HI (E8 A) (Ew A) A).2.2.2.2.2.1 (HI (E8 A) (Ew A) A).2.2.2.2.2.2.1 (HI (E8 A) (Ew A) A).2.2.2.2.2.2.2 (E8 A) (Ew A) w2 (Ew A-0).toNat 0 (VR B C (HI (E8 A) (Ew A) A) (E8 A) (Ew A) (Ew A+1-0).toNat ([],false,0,true));change _<=(ow B C (HI (E8 A) (Ew A) A) (E8 A) (Ew A) (Ew A-0).toNat _).1.length/\_ at b2
 change _<=(VR B C (HI (E8 A) (Ew A) A) (E8 A) (Ew A) (Ew A+1-0).toNat _).1.length/\(VR B C (HI (E8 A) (Ew A) A) (E8 A) (Ew A) (Ew A+1-0).toNat _).1.length<=_/\_<=(VR B C (HI (E8 A) (Ew A) A) (E8 A) (Ew A) (Ew A+1-0).toNat _).2.2.1/\(VR B C (HI (E8 A) (Ew A) A) (E8 A) (Ew A) (Ew A+1-0).toNat _).2.2.1<=_ at b1
 have b3:_/\(ow B C (HI (E8 A) (Ew A) A) (E8 A) (Ew A) (Ew A-0).toNat (VR B C (HI (E8 A) (Ew A) A) (E8 A) (Ew A) (Ew A+1-0).toNat ([],false,0,true))).1.length<=_/\_<=(ow B C (HI (E8 A) (Ew A) A) (E8 A) (Ew A) (Ew A-0).toNat (VR B C (HI (E8 A) (Ew A) A) (E8 A) (Ew A) (Ew A+1-0).toNat ([],false,0,true))).2.2.1/\(ow B C (HI (E8 A) (Ew A) A) (E8 A) (Ew A) (Ew A-0).toNat (VR B C (HI (E8 A) (Ew A) A) (E8 A) (Ew A) (Ew A+1-0).toNat ([],false,0,true))).2.2.1<=_:=b2;simp only[AC]at b1;refine⟨?_,?_,?_,a1,a2,?_⟩
 ·show(ow _ _ _ _ _ _ _).1.length<=20;omega
 ·show 0<=(ow _ _ _ _ _ _ _).2.2.1;omega
 ·show(ow _ _ _ _ _ _ _).2.2.1<=200;omega
 ·exact sw _ _ _ _ _ _ _ _ _ _ _ _ (sv _ _ _ _ _ _ _ _ _ _ _ _ (by intro e he;cases he))
theorem v8(A B C:List PV):vZ A B C=sk (mdR A B C):=by
 obtain⟨w1,w2,h1,h2,hok⟩:=v7 A;obtain⟨r1,r2,r3,r4,r5,_⟩:=cm A B C;obtain⟨a1',a2'⟩:=kj A;have d1:=IZ A 0 (n:=3) (by omega);have d2:=ID A 0 (n:=3) (by omega);have d3:=IZ A (aI A 0) (n:=2) (by omega);have d4:=ID A (aI A 0) (n:=2) (by omega);have la:=F6 A 0;have hw:W (1+dI A 0 3)=E8 A:=Dx (by omega) (by omega);have hm:mdM A B C (E8 A) (Ew A)=sk (mdR A B C):=by
  have la2:=Hv A 0 2;have p1:r9 (lO false B false C (E8 A) (Ew A) 0 A (false,a1 A 0 2,0,0,0,0,0,0))=true:=by
   simp only[r9,Aa,Ab];exact⟨⟨⟨⟨hok,by omega⟩,by omega⟩,by omega⟩,by omega⟩
  have p2:rU (ox B C A (E8 A) (Ew A) 0 (HI (E8 A) (Ew A) A) ([],false,0,true))=true:=by
   simp only[rU,Aa,Ab,AC,CM,Dk];omega
  have b1:=ZK B C (HI (E8 A) (Ew A) A).2.2.1 (HI (E8 A) (Ew A) A).2.2.2.1 (HI (E8 A) (Ew A) A).2.2.2.2.1 (HI (E8 A) (Ew A) A).2.2.2.2.2.1 (HI (E8 A) (Ew A) A).2.2.2.2.2.2.1 (HI (E8 A) (Ew A) A).2.2.2.2.2.2.2 (E8 A) (Ew A) w2 (Ew A+1-0).toNat 0 ([],false,0,true);change _<=(VR B C (HI (E8 A) (Ew A) A) (E8 A) (Ew A) (Ew A+1-0).toNat _).1.length/\(VR B C (HI (E8 A) (Ew A) A) (E8 A) (Ew A) (Ew A+1-0).toNat _).1.length<=_/\_<=(VR B C (HI (E8 A) (Ew A) A) (E8 A) (Ew A) (Ew A+1-0).toNat _).2.2.1/\(VR B C (HI (E8 A) (Ew A) A) (E8 A) (Ew A) (Ew A+1-0).toNat _).2.2.1<=_ at b1
  simp only[AC]at b1;have p3:rV (ox B C A (E8 A) (Ew A) (VR B C (HI (E8 A) (Ew A) A) (E8 A) (Ew A) (Ew A+1-0).toNat ([],false,0,true)).1.length (HI (E8 A) (Ew A) A) (VR B C (HI (E8 A) (Ew A) A) (E8 A) (Ew A) (Ew A+1-0).toNat ([],false,0,true)))=true:=by
   simp only[rV,Aa,Ab,CM,Dk];omega
  unfold mdM;rw[p1,p2,p3];simp only[Aj];show mdI (Mb A B C) (E8 A) (Ew A)=sk (oy (Mb A B C) (E8 A) (Ew A))
  generalize Mb A B C=R at r1 r2 r3 r4 r5;have l1:=F6 R.L R.a;have l2:=F6 R.L (aI R.L R.a);have i1:=IZ R.L (aI R.L R.a) (n:=E8 A) (by omega);have i2:=ID R.L (aI R.L R.a) (n:=E8 A) (by omega);have j1:=IZ R.L (aI R.L (aI R.L R.a)) (n:=Ew A) (by omega);have j2:=ID R.L (aI R.L (aI R.L R.a)) (n:=Ew A) (by omega);have k1:E3 R.a 2=true:=by unfold E3;simp;omega
  have k2:E3 (aI R.L R.a) (E8 A)=true:=by unfold E3;simp;omega
  have k3:E3 (aI R.L (aI R.L R.a)) (Ew A)=true:=by unfold E3;simp;omega
  have k4:eh R.es.length R.es.length R.es R.c=true:=by
   unfold eh;simp only[Aa,Ab,CM,Dk];omega
  have q:∀ i j o,sn R i j o=sk (R.isl i j o):=fun i j o=>by
   unfold sn;rw[AP,k4];rfl
  unfold mdI oy;rw[k1,k2,k3];simp only[Aj];cases dI R.L R.a 2==1
  ·rfl
  ·simp only[Aj,q];generalize dI R.L (aI R.L R.a) (E8 A)=i at i1 i2;generalize dI R.L (aI R.L (aI R.L R.a)) (Ew A)=j at j1 j2;unfold mdU;have hi:i=0\/i=1\/i=2:=by omega
   have hj:j=0\/j=1:=by omega
   rcases hi with rfl |rfl |rfl <;> rcases hj with rfl |rfl <;> rfl
 unfold vZ;rw[show E3 (aI A 0) 2=true by unfold E3;simp;omega,hw];simp only[Aj];by_cases h3:E8 A=3
 ·rw[h3,show((3:Int)==3)=true from rfl,Aj,<- hm];rw[show Ew A=1 by unfold Ew;rw[Ak h3],h3]
 ·rw[show(E8 A==3)=false by simp[h3],Ap,<- hm,Dx (n:=1+dI A (aI A 0) 2) (by omega) (by omega),show Ew A=1+dI A (aI A 0) 2 by unfold Ew;rw[Aq h3]]
theorem ZN(A B C:List PV):(mdE A B C).length<=21/\Ma (mdE A B C):=by
 obtain⟨r1,r2,r3,r4,r5,r6⟩:=cm A B C;unfold mdE mdR oy;cases dI (Mb A B C).L (Mb A B C).a 2==1
 ·exact⟨by show(Mb A B C).es.length<=21;omega,r6⟩
 ·refine⟨?_,kh r6 ?_⟩
  ·exact Bb (ki _ _ _ _ _ _ _) (by omega)
  ·unfold oi;cases dI (Mb A B C).N (aI (Mb A B C).N (Mb A B C).c) 2==1 <;> simp
def nth(ls:List PV)(k:Nat):List PV:=((ls.getD k .any).cellAt 0).Tc
def Gy(ls:List PV):List PV:=mdE (nth ls 0) (nth ls 1) (nth ls 2)
def kl(ls:List PV):Bool:=(mdR (nth ls 0) (nth ls 1) (nth ls 2)).nl
def Gi(ls:List PV):Bool×List PV:=sx (Gy ls)
theorem abW(f:Bool)(ls:List PV)(h:ls.length<=3):∃ H0 H1 H2,OB Try.prog vY 60 0 53 [.Db f 38 ls] [] =
  some (.D8 [.sl 3 (Gy ls).length 0 (Gy ls).length,.sl 4 (Gi ls).2.length 0 (Gi ls).2.length],[H0,H1,H2,QW (kl ls) (Gy ls),xJ (Gi ls).1 (Gi ls).2]):=by
 have e:OB Try.prog vY 60 0 53 [.Db f 38 ls] []=vZ (nth ls 0) (nth ls 1) (nth ls 2):=by
  match ls,h with
  | [],_=>exact aha f
  | [e0],_=>exact ag9 f e0
  | [e0,e1],_=>exact ag8 f e0 e1
  | [e0,e1,e2],_=>exact ag7 f e0 e1 e2
  |_::_::_::_::_,h=>simp at h
 have hb:=(ZN (nth ls 0) (nth ls 1) (nth ls 2)).1;exact⟨_,_,_,by rw[e,v8,v5 (by show(mdE _ _ _).length<=50;omega)];rfl⟩
theorem km(f:Bool)(ls:List PV)(h:ls.length<=3):Hx.Df Try.prog 53/\∀ ro H,Fh Try.prog ro 53 [.Db f 38 ls] H
  (.D8 [.sl H.length (Gy ls).length 0 (Gy ls).length,.sl (H.length+1) (Gi ls).2.length 0 (Gi ls).2.length]) (H++[QW (kl ls) (Gy ls),xJ (Gi ls).1 (Gi ls).2]):=by
 obtain⟨H0,H1,H2,he⟩:=abW f ls h;refine ei abS (n:=60) (ps:=fun _=>[.sl 3 (Gy ls).length 0 (Gy ls).length,.sl 4 (Gi ls).2.length 0 (Gi ls).2.length]) (qs:=fun h=>[.sl h (Gy ls).length 0 (Gy ls).length,.sl (h+1) (Gi ls).2.length 0 (Gi ls).2.length]) (idx:=[3,4]) (by rfl) he (by decide) ?_ rfl ?_ ?_
 ·intro x i hi
  match x,hi with
  |0,hi=>cases hi;exact⟨_,rfl,rfl⟩
  |1,hi=>cases hi;exact⟨_,rfl,rfl⟩
  |x+2,hi=>simp at hi
 ·intro r hr e he c hc;simp only[AK,B9,Cw]at hr;rcases hr with rfl |rfl
  ·obtain⟨id,f,ps,lf,rt,rfl,_⟩:=(ZN (nth ls 0) (nth ls 1) (nth ls 2)).2 e he;change c∈[_,_,_,_]at hc
   simp only[AK,B9,Cw]at hc;rcases hc with rfl |rfl |rfl |rfl <;> rfl
  ·obtain⟨x,rfl⟩:=abT _ e he;change c∈[_,_,_,_,_]at hc
   simp only[AK,B9,Cw]at hc;rcases hc with rfl |rfl |rfl |rfl |rfl <;> rfl
 ·intro h;refine⟨rfl,fun j p q h1 h2=>?_⟩
  match j,h1,h2 with
  |0,h1,h2=>cases h1;cases h2;exact .sl (x:=0) rfl
  |1,h1,h2=>cases h1;cases h2;exact .sl (x:=1) rfl
  |j+2,h1,_=>simp at h1
def cMd(_:Nat)(args:List PV)(H:List Row):Option (DT (PV×List Row)):=
 match args with
 | [.Db _ 38 ls]=>some (.br (decide (ls.length<=3)) (.leaf (.D8 [.sl H.length (Gy ls).length 0 (Gy ls).length,.sl (H.length+1) (Gi ls).2.length 0 (Gi ls).2.length],H++[QW (kl ls) (Gy ls),xJ (Gi ls).1 (Gi ls).2])) .no)
 |_=>none
theorem oMd(ro:Nat)(args:List PV)(H:List Row)(d:DT (PV×List Row))(p:PV)(H':List Row)(h:cMd ro args H=some d)(hd:d.run=some (p,H')):Fh Try.prog ro 53 args H p H':=by
 unfold cMd at h;split at h
 ·rename_i f ls;cases h;obtain⟨hc,he⟩:=Gc hd;cases he;exact(km f ls (AO hc)).2 ro H
 ·cases h
theorem eMd:Hx.Df Try.prog 53:=(km false [] (by simp)).1
noncomputable def MX1:C9:=(((M7.GH 88 3 [(3,159,4)]).GH 88 7 [(1101,155,3)]).FU 88 10 1001)
theorem abY:C4 Try.prog MX1.env:=(((IM.GH 88 3 [(3,159,4)]).GH 88 7 [(1101,155,3)]).FU 88 10 1001)
abbrev trR(u:Bool)(ts:List PV):Row:={ es:=ts,s:=4,t:=159,bv:=true,nl:=u }
def O5:S1:=⟨58,[(0,.Db 147),(3,.sl 0),(4,Dm),(5,.ptr 1 1 0 0),(6,Dm)],[.many 159 4,.Gx 159 4 (.agg [Dm,.sl 2,Dm,Dm]),.many 155 3]⟩
abbrev sA(f:Bool)(es:List PV)(m r:Nat)(k i:Int)(u:Bool)(ts:List PV)(b0:Int)(n l:Nat)(b1 b2:Int)(v:Bool)(ss:List PV):LS:=([.l f es,.n m,.n r,.i k,.i i],[.l u ts,.i b0,.n n,.n l,.i b1,.i b2,.l v ss])
noncomputable abbrev xT7(f:Bool)(es:List PV)(m r:Nat)(k:Int)(u:Bool)(ts:List PV)(b0:Int)(n l:Nat)(b1 b2:Int)(v:Bool)(ss:List PV):PX×List PV×List Row:=
 (.exit 2,tm 58 [(0,.Db f 147 es),(3,.sl 0 m 0 r),(4,iv k),(5,.ptr 1 1 0 0)],(O5.put (sA f es m r k 0 u ts b0 n l b1 b2 v ss)).2)
abbrev D4(es:List PV)(k:Int):List PV:=((es.getD k.toNat .any).cellAt 1).Tc
abbrev v9(e:PV):PV:=.agg [iv (e.cellAt 0).DN,iv (e.cellAt 1).DN,iv 1]
theorem qT7(f:Bool)(es:List PV)(m r:Nat)(k i:Int)(u:Bool)(ts:List PV)(b0:Int)(n l:Nat)(b1 b2:Int)(v:Bool)(ss:List PV):
 Dc Try.prog MX1 60 88 (Dh Try.f88 7) [0,3,4,5,6] [0,3,4,5] (O5.put (sA f es m r k i u ts b0 n l b1 b2 v ss)).1 (O5.put (sA f es m r k i u ts b0 n l b1 b2 v ss)).2 =
 bif F7 es k then bif decide (i<((D4 es k).length:Int)) then bif F7 es k then bif F7 (D4 es k) i then bif true&&decide (ss.length=n)&&decide (n=l)&&decide ((n+1)*24<=140737488355328) then
  some (.normal,O5.put (sA f es m r k (W (i+1)) u ts b0 (n+1) (n+1) b1 b2 (v&&false) (ss++[v9 ((D4 es k).getD i.toNat .any)]))) else none else none else none
 else some (xT7 f es m r k u ts b0 n l b1 b2 v ss) else none:=by kernel_rfl
def wa(ps:List PV):Nat->Int->Bool×List PV->Bool×List PV
 |0,_,s=>s
 |m+1,i,s=>wa ps m (i+1) (s.1&&false,s.2++[v9 (ps.getD i.toNat .any)])
theorem cn(ps:List PV):∀(m:Nat) (i:Int) (s:Bool×List PV),(wa ps m i s).2.length=s.2.length+m
 |0,_,_=>rfl
 |m+1,i,s=>by
  simp only[wa];rw[cn ps m];simp;omega
def sD:LS->Bool
 |([.l _ es,.n _,.n _,.i k,.i i],[.l _ _,.i _,.n n,.n l,.i _,.i _,.l _ ss])=>F7 es k&&decide (n=ss.length)&&decide (l=ss.length)&&decide (0<=i)&&decide (i<=((D4 es k).length:Int))&&decide ((D4 es k).length<=1000)&&decide ((ss.length:Int)=i)
 |_=>false
noncomputable def fT7:LS->DT (PX×List PV×List Row)
 |([.l f es,.n m,.n r,.i k,.i i],[.l u ts,.i b0,.n _,.n _,.i b1,.i b2,.l v ss])=>
  .leaf (xT7 f es m r k u ts b0 (D4 es k).length (D4 es k).length b1 b2 (wa (D4 es k) (((D4 es k).length:Int)-i).toNat i (v,ss)).1 (wa (D4 es k) (((D4 es k).length:Int)-i).toNat i (v,ss)).2)
 |_=>.no
def mT7:LS->Nat
 |([.l _ es,.n _,.n _,.i k,.i i],_)=>(((D4 es k).length:Int)-i).toNat
 |_=>0
theorem sT7:∀ s r,sD s=true->(fT7 s).run=some r->r.1≠.normal/\(Dc Try.prog MX1 60 88 (Dh Try.f88 7) [0,3,4,5,6] [0,3,4,5] (O5.put s).1 (O5.put s).2=some r \/
   ∃ s',Dc Try.prog MX1 60 88 (Dh Try.f88 7) [0,3,4,5,6] [0,3,4,5] (O5.put s).1 (O5.put s).2=some (.normal,O5.put s')/\sD s'=true/\mT7 s'<mT7 s/\(fT7 s').run=some r):=by
 intro t r hp hr;unfold sD at hp;split at hp
 ·rename_i f es m r' k i u ts b0 n l b1 b2 v ss;simp only[Aa,Ab]at hp;obtain⟨⟨⟨⟨⟨⟨h0,rfl⟩,rfl⟩,h1⟩,h2⟩,h3⟩,h4⟩:=hp;have hr':=(Ah hr).symm;refine⟨by rw[hr'];simp,?_⟩;have q:=qT7 f es m r' k i u ts b0 ss.length ss.length b1 b2 v ss;rw[show(O5.put ([.l f es,.n m,.n r',.i k,.i i],[.l u ts,.i b0,.n ss.length,.n ss.length,.i b1,.i b2,.l v ss]))=O5.put (sA f es m r' k i u ts b0 ss.length ss.length b1 b2 v ss) from rfl,q,D1 h0.1 h0.2,Aj,Aj];by_cases hk:i<((D4 es k).length:Int)
  ·obtain⟨j,hj⟩:∃ j,(((D4 es k).length:Int)-i).toNat=j+1:=⟨(((D4 es k).length:Int)-i).toNat-1,by omega⟩;have hj2:(((D4 es k).length:Int)-(i+1)).toNat=j:=by omega
   refine .inr ⟨sA f es m r' k (i+1) u ts b0 (ss.length+1) (ss.length+1) b1 b2 (v&&false) (ss++[v9 ((D4 es k).getD i.toNat .any)]),?_,?_,by simp only[mT7];omega,?_⟩
   ·rw[Ac hk,D1 h1 hk,Dx (n:=i+1) (by omega) (by omega),Ac (show ss.length=ss.length from rfl),Ac (show(ss.length+1)*24<=140737488355328 by omega)];rfl
   ·simp only[sD,Aa,Ab,Ar,As,AC];exact⟨⟨⟨⟨⟨⟨h0,trivial⟩,trivial⟩,by omega⟩,by omega⟩,h3⟩,by omega⟩
   ·rw[hr',hj];simp only[fT7,hj2,DT.run,wa]
  ·have hz:(((D4 es k).length:Int)-i).toNat=0:=by omega
   rw[Ai hk];exact .inl (by rw[hr',hz,show ss.length=(D4 es k).length by omega];rfl)
 ·cases hp
noncomputable def MX2:C9:=MX1.Dr 88 7 [0,3,4,5,6] [false,true,false] O5 sD fT7
theorem ab0:C4 Try.prog MX2.env:=
 abY.Dr (n:=60) Try.func88 (show Try.f88.body=some (D3 Try.f88) by kernel_rfl) (show(loops (D3 Try.f88)).filter (fun b=>Ev b==7)=[Dh Try.f88 7] by kernel_rfl) [0,3,4,5,6] [0,3,4,5] [false,true,false] O5 mT7 sT7
def Qo:S1:=⟨58,[(0,.Db 147),(3,.sl 0),(4,Dm)],[.many 159 4]⟩
abbrev wb(f:Bool)(es:List PV)(m r:Nat)(k:Int)(u:Bool)(ts:List PV):LS:=([.l f es,.n m,.n r,.i k],[.l u ts])
noncomputable abbrev xT3(m r:Nat)(u:Bool)(ts:List PV):PX×List PV×List Row:=(.exit 0,tm 58 [(3,.sl 0 m 0 r)],[trR u ts])
abbrev ssE(es:List PV)(k:Int):List PV:=(wa (D4 es k) (((D4 es k).length:Int)-0).toNat 0 (true,[])).2
abbrev trE(es:List PV)(k:Int):PV:=.agg [iv ((es.getD k.toNat .any).cellAt 0).DN,.Db false 155 (((ssE es k).drop 0).take (D4 es k).length),iv ((es.getD k.toNat .any).cellAt 2).DN,iv ((es.getD k.toNat .any).cellAt 3).DN]
theorem qT3(f:Bool)(es:List PV)(m r:Nat)(k:Int)(u:Bool)(ts:List PV):
 Dc Try.prog MX2 60 88 (Dh Try.f88 3) [0,3,4] [3] (Qo.put (wb f es m r k u ts)).1 (Qo.put (wb f es m r k u ts)).2 =
 bif decide (k<(es.length:Int)) then bif F7 es k then bif F7 es k then bif F7 es k then bif sD (sA f es m r k 0 u ts ((es.getD k.toNat .any).cellAt 0).DN 0 0 ((es.getD k.toNat .any).cellAt 2).DN ((es.getD k.toNat .any).cellAt 3).DN true []) then
  bif ((((ssE es k).length==(D4 es k).length)&&true)&&true)&&true then bif true&&decide (ts.length=m)&&decide (m=r)&&decide ((m+1)*48<=140737488355328) then
  some (.normal,Qo.put (wb f es (m+1) (m+1) (W (k+1)) (u&&false) (ts++[trE es k]))) else none else none else none else none else none else none
 else some (xT3 m r u ts):=by kernel_rfl
def sI(es:List PV):Nat->Int->Bool×List PV->Bool×List PV
 |0,_,s=>s
 |m+1,k,s=>sI es m (k+1) (s.1&&false,s.2++[trE es k])
theorem cp(es:List PV):∀(m:Nat) (k:Int) (s:Bool×List PV),(sI es m k s).2.length=s.2.length+m
 |0,_,_=>rfl
 |m+1,k,s=>by
  simp only[sI];rw[cp es m];simp;omega
def P0(es:List PV):Bool:=es.all fun e=>decide (((e.cellAt 1).Tc).length<=1000)
theorem Vw{es:List PV}(h:P0 es=true){k:Int}(h1:0<=k)(h2:k<(es.length:Int)):(D4 es k).length<=1000:=by
 unfold D4;rw[Ay,Ae (by omega)];exact AO (Ao.1 h _ (Bw _))
def sJ:LS->Bool
 |([.l _ es,.n m,.n r,.i k],[.l _ ts])=>P0 es&&decide (m=ts.length)&&decide (r=ts.length)&&decide (0<=k)&&decide (k<=(es.length:Int))&&decide (es.length<=1000)&&decide ((ts.length:Int)=k)
 |_=>false
noncomputable def fT3:LS->DT (PX×List PV×List Row)
 |([.l _ es,.n _,.n _,.i k],[.l u ts])=>.leaf (xT3 es.length es.length (sI es ((es.length:Int)-k).toNat k (u,ts)).1 (sI es ((es.length:Int)-k).toNat k (u,ts)).2)
 |_=>.no
def mT3:LS->Nat
 |([.l _ es,.n _,.n _,.i k],_)=>((es.length:Int)-k).toNat
 |_=>0
theorem oz(es:List PV)(k:Int):(ssE es k).length=(D4 es k).length:=by
 unfold ssE;rw[cn];simp
theorem sT3:∀ s r,sJ s=true->(fT3 s).run=some r->r.1≠.normal/\(Dc Try.prog MX2 60 88 (Dh Try.f88 3) [0,3,4] [3] (Qo.put s).1 (Qo.put s).2=some r \/
   ∃ s',Dc Try.prog MX2 60 88 (Dh Try.f88 3) [0,3,4] [3] (Qo.put s).1 (Qo.put s).2=some (.normal,Qo.put s')/\sJ s'=true/\mT3 s'<mT3 s/\(fT3 s').run=some r):=by
 intro t r hp hr;unfold sJ at hp;split at hp
 ·rename_i f es m r' k u ts;simp only[Aa,Ab]at hp;obtain⟨⟨⟨⟨⟨⟨h0,rfl⟩,rfl⟩,h1⟩,h2⟩,h3⟩,h4⟩:=hp;have hr':=(Ah hr).symm;refine⟨by rw[hr'];simp,?_⟩;have q:=qT3 f es ts.length ts.length k u ts;rw[show(Qo.put ([.l f es,.n ts.length,.n ts.length,.i k],[.l u ts]))=Qo.put (wb f es ts.length ts.length k u ts) from rfl,q];by_cases hk:k<(es.length:Int)
  ·obtain⟨j,hj⟩:∃ j,((es.length:Int)-k).toNat=j+1:=⟨((es.length:Int)-k).toNat-1,by omega⟩;have hj2:((es.length:Int)-(k+1)).toNat=j:=by omega
   have hs:=Vw h0 h1 hk;have p7:sD (sA f es ts.length ts.length k 0 u ts ((es.getD k.toNat .any).cellAt 0).DN 0 0 ((es.getD k.toNat .any).cellAt 2).DN ((es.getD k.toNat .any).cellAt 3).DN true [])=true:=by
    simp only[sD,Aa,Ab,AC,Dk];omega
   refine .inr ⟨wb f es (ts.length+1) (ts.length+1) (k+1) (u&&false) (ts++[trE es k]),?_,?_,by simp only[mT3];omega,?_⟩
   ·rw[Ac hk,D1 h1 hk,p7,oz,AP,Dx (n:=k+1) (by omega) (by omega),Ac (show ts.length=ts.length from rfl),Ac (show(ts.length+1)*48<=140737488355328 by omega)];rfl
   ·simp only[sJ,Aa,Ab,Ar,As,AC];exact⟨⟨⟨⟨⟨⟨h0,trivial⟩,trivial⟩,by omega⟩,by omega⟩,h3⟩,by omega⟩
   ·rw[hr',hj];simp only[fT3,hj2,DT.run,sI]
  ·have hz:((es.length:Int)-k).toNat=0:=by omega
   rw[Ai hk];exact .inl (by rw[hr',hz,show ts.length=es.length by omega];rfl)
 ·cases hp
noncomputable def MX3:C9:=MX2.Dr 88 3 [0,3,4] [false] Qo sJ fT3
theorem sK:C4 Try.prog MX3.env:=
 ab0.Dr (n:=60) Try.func88 (show Try.f88.body=some (D3 Try.f88) by kernel_rfl) (show(loops (D3 Try.f88)).filter (fun b=>Ev b==3)=[Dh Try.f88 3] by kernel_rfl) [0,3,4] [3] [false] Qo mT3 sT3
def Qp(es:List PV):List PV:=(sI es ((es.length:Int)-0).toNat 0 (true,[])).2
theorem qTr(f:Bool)(es:List PV):DC Try.prog MX3 60 88 [.Db f 147 es] =
 bif sJ (wb f es 0 0 0 true []) then HV (Qp es) es.length (some (.Db false 159 (((Qp es).drop 0).take es.length))) else none:=by kernel_rfl
theorem Vx(es:List PV):(Qp es).length=es.length:=by
 unfold Qp;rw[cp];simp
theorem ab3(f:Bool){es:List PV}(h:P0 es=true)(hl:es.length<=1000):DC Try.prog MX3 60 88 [.Db f 147 es]=some (.Db false 159 (Qp es)):=by
 have hp:sJ (wb f es 0 0 0 true [])=true:=by
  simp only[sJ,Aa,Ab,AC,Dk];exact⟨⟨⟨⟨h,by omega⟩,by omega⟩,hl⟩,rfl⟩
 rw[qTr,hp,Aj,DK (Vx es),AH,A7 (by rw[Vx];exact Al _)]
def wc:List PV->Option (DT PV)
 | [.Db _ 147 es]=>some (.br (P0 es&&decide (es.length<=1000)) (.leaf (.Db false 159 (Qp es))) .no)
 |_=>none
theorem ahf:Hx.Df Try.prog 88:=(Cz sK (n:=60) (ab3 false (es:=[]) rfl (by simp))).1
theorem ahg(args:List PV)(d:DT PV)(r:PV)(h:wc args=some d)(hr:d.run=some r):Ds Try.prog 88 args r:=by
 unfold wc at h;split at h
 ·rename_i f es;cases h;obtain⟨h1,rfl⟩:=DO hr;rw[Aa,Ab]at h1;exact(Cz sK (n:=60) (ab3 f h1.1 h1.2)).2
 ·cases h
abbrev e0(e:PV):Int:=(e.cellAt 0).DN
abbrev e1(e:PV):Int:=(e.cellAt 1).DN
abbrev e2(e:PV):Int:=(e.cellAt 2).DN
abbrev e3(e:PV):Int:=(e.cellAt 3).DN
abbrev sL(x y:Int):Row:=r1 28 2 (FL x y)
def Qq:S1:=⟨120,[(0,.Db 159),(3,.ptr 0 1 0 0),(4,Dm),(5,.bool),(6,Dm),(7,Dm)],[.one 28 2 (.agg [Dm,Dm])]⟩
abbrev we(f:Bool)(es:List PV)(z:Int)(zb:Bool)(k i x y:Int):LS:=([.l f es,.i z,.b zb,.i k,.i i],[.i x,.i y])
noncomputable abbrev xA7(f:Bool)(es:List PV)(z:Int)(zb:Bool)(k x y:Int):PX×List PV×List Row:=(.exit 2,tm 120 [(0,.Db f 159 es),(3,.ptr 0 1 0 0),(4,iv z),(5,bv zb),(6,iv k)],[sL x y])
noncomputable abbrev rA7(f:Bool)(es:List PV)(k x y:Int):PX×List PV×List Row:=(.ret,tm 120 [(0,.Db f 159 es),(3,.ptr 0 1 0 0),(4,iv 0),(5,bv false),(6,iv k)],[sL x y])
theorem qA7(f:Bool)(es:List PV)(z:Int)(zb:Bool)(k i x y:Int):Dc Try.prog M7 60 87 (Dh Try.f87 7) [0,3,4,5,6,7] [0,3,4,5,6] (Qq.put (we f es z zb k i x y)).1 (Qq.put (we f es z zb k i x y)).2 =
 bif F7 es k then bif decide (i<((D4 es k).length:Int)) then bif F7 es k then bif F7 (D4 es k) i then
  bif !Zh (e0 ((D4 es k).getD i.toNat .any)) (e1 ((D4 es k).getD i.toNat .any)) (e2 ((D4 es k).getD i.toNat .any)) then some (rA7 f es k x y) else some (.normal,Qq.put (we f es z zb k (W (i+1)) x y)) else none else none
 else some (xA7 f es z zb k x y) else none:=by kernel_rfl
def I0:S1:=⟨120,[(0,.Db 159),(3,.ptr 0 1 0 0),(4,Dm),(5,.bool),(8,.bool),(9,.ptr 1 1 0 0),(10,Dm),(11,Dm)],[.one 28 2 (.agg [Dm,Dm]),.one 161 7 (.agg [Dm,Dm,Dm,Dm,Dm,Dm,Dm])]⟩
structure BR where
 s:Bool
 a:Int
 b:Int
 c:Int
 d:Int
 e:Int
 f:Int
 g:Int
abbrev BR.row(B:BR):Row:=r1 161 7 (.agg [iv B.a,iv B.b,iv B.c,iv B.d,iv B.e,iv B.f,iv B.g])
abbrev Vy(f:Bool)(es:List PV)(z:Int)(zb:Bool)(k i x y:Int)(B:BR):LS:=([.l f es,.i z,.b zb,.b B.s,.i k,.i i],[.i x,.i y,.i B.a,.i B.b,.i B.c,.i B.d,.i B.e,.i B.f,.i B.g])
noncomputable abbrev ab4(f:Bool)(es:List PV)(z:Int)(zb:Bool)(k x y:Int)(B:BR):PX×List PV×List Row:=(.exit 6,tm 120 [(0,.Db f 159 es),(3,.ptr 0 1 0 0),(4,iv z),(5,bv zb),(8,bv B.s),(9,.ptr 1 1 0 0),(10,iv k)],[sL x y,B.row])
noncomputable abbrev ab5(f:Bool)(es:List PV)(k x y:Int)(B:BR):PX×List PV×List Row:=(.ret,tm 120 [(0,.Db f 159 es),(3,.ptr 0 1 0 0),(4,iv 0),(5,bv false),(8,bv B.s),(9,.ptr 1 1 0 0),(10,iv k)],[sL x y,B.row])
abbrev onE(a b:PV)(x y:Int):Bool:=onJ (e0 a) (e1 a) (e2 a) (e0 b) (e1 b) (e2 b) x y
abbrev ZO(a b:PV)(x y:Int):Int:=yI (e0 a) (e1 a) (e2 a) (e0 b) (e1 b) (e2 b) x y
abbrev rsB(a b:PV)(d:Int):BR:=⟨true,e0 a,e1 a,e2 a,e0 b,e1 b,e2 b,d⟩
abbrev byE(B:BR)(a b:PV):Bool:=byJ B.a B.b B.c B.d B.e B.f (e0 a) (e1 a) (e2 a) (e0 b) (e1 b) (e2 b)
noncomputable def en(f:Bool)(es:List PV)(z:Int)(zb:Bool)(k i x y:Int)(B:BR):Option (PX×List PV×List Row):=some (.normal,I0.put (Vy f es z zb k (W (i+1)) x y B))
noncomputable def oA(f:Bool)(es:List PV)(z:Int)(zb:Bool)(k i x y:Int)(B:BR)(r:Int)(a b:PV)(d:Int):Option (PX×List PV×List Row):=
 bif r != 0 then bif !B.s then en f es z zb k i x y (rsB a b d) else bif byE B a b then en f es z zb k i x y (rsB a b d) else en f es z zb k i x y B else en f es z zb k i x y B
abbrev Oj(es:List PV)(k i:Int):PV:=(D4 es k).getD i.toNat .any
def sM(ps:List PV):Nat->Int->Bool
 |0,_=>true
 |m+1,i=>bif Zh (e0 (ps.getD i.toNat .any)) (e1 (ps.getD i.toNat .any)) (e2 (ps.getD i.toNat .any)) then sM ps m (i+1) else false
theorem Ob{α:Type}{c:Bool}{x y r:α}(h:(DT.br c (.leaf x) (.leaf y)).run=some r):r=bif c then x else y:=by
 cases c <;> exact(Ah h).symm
def sO:LS->Bool
 |([.l _ es,.i _,.b _,.i k,.i i],[.i _,.i _])=>F7 es k&&decide (0<=i)&&decide (i<=((D4 es k).length:Int))&&decide ((D4 es k).length<=1000)
 |_=>false
noncomputable def fA7:LS->DT (PX×List PV×List Row)
 |([.l f es,.i z,.b zb,.i k,.i i],[.i x,.i y])=>.br (sM (D4 es k) (((D4 es k).length:Int)-i).toNat i) (.leaf (xA7 f es z zb k x y)) (.leaf (rA7 f es k x y))
 |_=>.no
def mA7:LS->Nat
 |([.l _ es,.i _,.b _,.i k,.i i],_)=>(((D4 es k).length:Int)-i).toNat
 |_=>0
theorem sA7:∀ s r,sO s=true->(fA7 s).run=some r->r.1≠.normal/\(Dc Try.prog M7 60 87 (Dh Try.f87 7) [0,3,4,5,6,7] [0,3,4,5,6] (Qq.put s).1 (Qq.put s).2=some r \/
   ∃ s',Dc Try.prog M7 60 87 (Dh Try.f87 7) [0,3,4,5,6,7] [0,3,4,5,6] (Qq.put s).1 (Qq.put s).2=some (.normal,Qq.put s')/\sO s'=true/\mA7 s'<mA7 s/\(fA7 s').run=some r):=by
 intro t r hp hr;unfold sO at hp;split at hp
 ·rename_i f es z zb k i x y;simp only[Aa,Ab]at hp;obtain⟨⟨⟨h0,h1⟩,h2⟩,h3⟩:=hp;have hr':=Ob hr;refine⟨by rw[hr'];cases sM _ _ _ <;> simp,?_⟩;rw[show(Qq.put ([.l f es,.i z,.b zb,.i k,.i i],[.i x,.i y]))=Qq.put (we f es z zb k i x y) from rfl,qA7 f es z zb k i x y,D1 h0.1 h0.2];simp only[Aj];by_cases hk:i<((D4 es k).length:Int)
  ·obtain⟨j,hj⟩:∃ j,(((D4 es k).length:Int)-i).toNat=j+1:=⟨(((D4 es k).length:Int)-i).toNat-1,by omega⟩;have hj2:(((D4 es k).length:Int)-(i+1)).toNat=j:=by omega
   rw[Ac hk,D1 h1 hk,Dx (n:=i+1) (by omega) (by omega)];simp only[Aj];rw[hj]at hr';simp only[sM]at hr';cases hb:Zh (e0 ((D4 es k).getD i.toNat .any)) (e1 ((D4 es k).getD i.toNat .any)) (e2 ((D4 es k).getD i.toNat .any)) with
   |true=>
    rw[hb,Aj]at hr';refine .inr ⟨we f es z zb k (i+1) x y,rfl,?_,by simp only[mA7];omega,?_⟩
    ·simp only[sO,Aa,Ab];omega
    ·rw[hr'];simp only[fA7,hj2];cases sM (D4 es k) j (i+1) <;> rfl
   |false=>
    rw[hb,Ap,Ap]at hr';exact .inl (by rw[hr'];rfl)
  ·have hz:(((D4 es k).length:Int)-i).toNat=0:=by omega
   rw[Ai hk];exact .inl (by rw[hr',hz];rfl)
 ·cases hp
noncomputable def MY1:C9:=M7.Dr 87 7 [0,3,4,5,6,7] [true] Qq sO fA7
theorem ab7:C4 Try.prog MY1.env:=
 IM.Dr (n:=60) Try.func87 (show Try.f87.body=some (D3 Try.f87) by kernel_rfl) (show(loops (D3 Try.f87)).filter (fun b=>Ev b==7)=[Dh Try.f87 7] by kernel_rfl) [0,3,4,5,6,7] [0,3,4,5,6] [true] Qq mA7 sA7
def Qr:S1:=⟨120,[(0,.Db 159),(3,.ptr 0 1 0 0),(4,Dm),(5,.bool),(6,Dm)],[.one 28 2 (.agg [Dm,Dm])]⟩
abbrev wg(f:Bool)(es:List PV)(z:Int)(zb:Bool)(k x y:Int):LS:=([.l f es,.i z,.b zb,.i k],[.i x,.i y])
noncomputable abbrev xAA(f:Bool)(es:List PV)(z:Int)(zb:Bool)(x y:Int):PX×List PV×List Row:=(.exit 0,tm 120 [(0,.Db f 159 es),(3,.ptr 0 1 0 0),(4,iv z),(5,bv zb)],[sL x y])
noncomputable abbrev rAA(f:Bool)(es:List PV)(x y:Int):PX×List PV×List Row:=(.ret,tm 120 [(0,.Db f 159 es),(3,.ptr 0 1 0 0),(4,iv 0),(5,bv false)],[sL x y])
theorem qAA(f:Bool)(es:List PV)(z:Int)(zb:Bool)(k x y:Int):Dc Try.prog MY1 60 87 (Dh Try.f87 4) [0,3,4,5,6] [0,3,4,5] (Qr.put (wg f es z zb k x y)).1 (Qr.put (wg f es z zb k x y)).2 =
 bif decide (k<(es.length:Int)) then bif sO (we f es z zb k 0 x y) then bif sM (D4 es k) (((D4 es k).length:Int)-0).toNat 0 then some (.normal,Qr.put (wg f es z zb (W (k+1)) x y)) else some (rAA f es x y) else none
 else some (xAA f es z zb x y):=by kernel_rfl
def sP(es:List PV):Nat->Int->Bool
 |0,_=>true
 |m+1,k=>bif sM (D4 es k) (((D4 es k).length:Int)-0).toNat 0 then sP es m (k+1) else false
def sR:LS->Bool
 |([.l _ es,.i _,.b _,.i k],[.i _,.i _])=>P0 es&&decide (0<=k)&&decide (k<=(es.length:Int))&&decide (es.length<=1000)
 |_=>false
noncomputable def fAA:LS->DT (PX×List PV×List Row)
 |([.l f es,.i z,.b zb,.i k],[.i x,.i y])=>.br (sP es ((es.length:Int)-k).toNat k) (.leaf (xAA f es z zb x y)) (.leaf (rAA f es x y))
 |_=>.no
def mAA:LS->Nat
 |([.l _ es,.i _,.b _,.i k],_)=>((es.length:Int)-k).toNat
 |_=>0
theorem sAA:∀ s r,sR s=true->(fAA s).run=some r->r.1≠.normal/\(Dc Try.prog MY1 60 87 (Dh Try.f87 4) [0,3,4,5,6] [0,3,4,5] (Qr.put s).1 (Qr.put s).2=some r \/
   ∃ s',Dc Try.prog MY1 60 87 (Dh Try.f87 4) [0,3,4,5,6] [0,3,4,5] (Qr.put s).1 (Qr.put s).2=some (.normal,Qr.put s')/\sR s'=true/\mAA s'<mAA s/\(fAA s').run=some r):=by
 intro t r hp hr;unfold sR at hp;split at hp
 ·rename_i f es z zb k x y;simp only[Aa,Ab]at hp;obtain⟨⟨⟨h0,h1⟩,h2⟩,h3⟩:=hp;have hr':=Ob hr;refine⟨by rw[hr'];cases sP _ _ _ <;> simp,?_⟩;rw[show(Qr.put ([.l f es,.i z,.b zb,.i k],[.i x,.i y]))=Qr.put (wg f es z zb k x y) from rfl,qAA f es z zb k x y];by_cases hk:k<(es.length:Int)
  ·obtain⟨j,hj⟩:∃ j,((es.length:Int)-k).toNat=j+1:=⟨((es.length:Int)-k).toNat-1,by omega⟩;have hj2:((es.length:Int)-(k+1)).toNat=j:=by omega
   have hs:=Vw h0 h1 hk;have p7:sO (we f es z zb k 0 x y)=true:=by
    simp only[sO,Aa,Ab];omega
   rw[Ac hk,p7,Dx (n:=k+1) (by omega) (by omega)];simp only[Aj];rw[hj]at hr';simp only[sP]at hr';cases hb:sM (D4 es k) (((D4 es k).length:Int)-0).toNat 0 with
   |true=>
    rw[hb,Aj]at hr';refine .inr ⟨wg f es z zb (k+1) x y,rfl,?_,by simp only[mAA];omega,?_⟩
    ·simp only[sR,Aa,Ab];exact⟨⟨⟨h0,by omega⟩,by omega⟩,h3⟩
    ·rw[hr'];simp only[fAA,hj2];cases sP es j (k+1) <;> rfl
   |false=>
    rw[hb,Ap,Ap]at hr';exact .inl (by rw[hr'];rfl)
  ·have hz:((es.length:Int)-k).toNat=0:=by omega
   rw[Ai hk];exact .inl (by rw[hr',hz];rfl)
 ·cases hp
noncomputable def xR:C9:=MY1.Dr 87 4 [0,3,4,5,6] [true] Qr sR fAA
theorem ab8:C4 Try.prog xR.env:=
 ab7.Dr (n:=60) Try.func87 (show Try.f87.body=some (D3 Try.f87) by kernel_rfl) (show(loops (D3 Try.f87)).filter (fun b=>Ev b==4)=[Dh Try.f87 4] by kernel_rfl) [0,3,4,5,6] [0,3,4,5] [true] Qr mAA sAA
def gB(B:BR)(r:Int)(a b:PV)(d:Int):BR:=bif r != 0 then bif !B.s then rsB a b d else bif byE B a b then rsB a b d else B else B
theorem oB(f:Bool)(es:List PV)(z:Int)(zb:Bool)(k i x y:Int)(B:BR)(r:Int)(a b:PV)(d:Int):oA f es z zb k i x y B r a b d=en f es z zb k i x y (gB B r a b d):=by
 unfold oA gB;cases r != 0 <;> cases !B.s <;> cases byE B a b <;> rfl
def brS(es:List PV)(k i x y:Int)(B:BR):BR:=
 bif decide (ZO (Oj es k i) (Oj es k (i+1)) x y<0) then gB B (ZO (Oj es k i) (Oj es k (i+1)) x y) (Oj es k (i+1)) (Oj es k i) (e2 (es.getD k.toNat .any)) else gB B (ZO (Oj es k i) (Oj es k (i+1)) x y) (Oj es k i) (Oj es k (i+1)) (e3 (es.getD k.toNat .any))
def sV(es:List PV)(k x y:Int):Nat->Int->BR->Bool×BR
 |0,_,B=>(true,B)
 |m+1,i,B=>bif onE (Oj es k i) (Oj es k (i+1)) x y then (false,B) else sV es k x y m (i+1) (brS es k i x y B)
def XV:LS->Bool
 |([.l _ es,.i _,.b _,.b _,.i k,.i i],[.i _,.i _,.i _,.i _,.i _,.i _,.i _,.i _,.i _])=>F7 es k&&decide (0<=i)&&decide (i<=((D4 es k).length:Int))&&decide ((D4 es k).length<=1000)
 |_=>false
noncomputable def oD:LS->DT (PX×List PV×List Row)
 |([.l f es,.i z,.b zb,.b s,.i k,.i i],[.i x,.i y,.i a,.i b,.i c,.i d,.i e,.i f',.i g])=>
  .br (sV es k x y (((D4 es k).length:Int)-1-i).toNat i ⟨s,a,b,c,d,e,f',g⟩).1 (.leaf (ab4 f es z zb k x y (sV es k x y (((D4 es k).length:Int)-1-i).toNat i ⟨s,a,b,c,d,e,f',g⟩).2)) (.leaf (ab5 f es k x y (sV es k x y (((D4 es k).length:Int)-1-i).toNat i ⟨s,a,b,c,d,e,f',g⟩).2))
 |_=>.no
def oE:LS->Nat
 |([.l _ es,.i _,.b _,.b _,.i k,.i i],_)=>(((D4 es k).length:Int)-1-i).toNat
 |_=>0
theorem ab9(f:Bool)(es:List PV)(z:Int)(zb:Bool)(k i x y:Int)(s:Bool)(a b c d e f' g:Int):Dc Try.prog xR 60 87 (Dh Try.f87 17) [0,3,4,5,8,9,10,11] [0,3,4,5,8,9,10] (I0.put (Vy f es z zb k i x y ⟨s,a,b,c,d,e,f',g⟩)).1 (I0.put (Vy f es z zb k i x y ⟨s,a,b,c,d,e,f',g⟩)).2 =
 bif F7 es k then bif decide (W (i+1)<((D4 es k).length:Int)) then bif F7 es k then bif F7 (D4 es k) i then bif F7 es k then bif F7 (D4 es k) (W (i+1)) then
  bif onE (Oj es k i) (Oj es k (W (i+1))) x y then some (ab5 f es k x y ⟨s,a,b,c,d,e,f',g⟩) else
  bif F7 es k then bif decide (ZO (Oj es k i) (Oj es k (W (i+1))) x y<0) then bif F7 es k then
   oA f es z zb k i x y ⟨s,a,b,c,d,e,f',g⟩ (ZO (Oj es k i) (Oj es k (W (i+1))) x y) (Oj es k (W (i+1))) (Oj es k i) (e2 (es.getD k.toNat .any)) else none
  else oA f es z zb k i x y ⟨s,a,b,c,d,e,f',g⟩ (ZO (Oj es k i) (Oj es k (W (i+1))) x y) (Oj es k i) (Oj es k (W (i+1))) (e3 (es.getD k.toNat .any)) else none
 else none else none else none else none else some (ab4 f es z zb k x y ⟨s,a,b,c,d,e,f',g⟩) else none:=by kernel_rfl
theorem ahj:∀ s r,XV s=true->(oD s).run=some r->r.1≠.normal/\(Dc Try.prog xR 60 87 (Dh Try.f87 17) [0,3,4,5,8,9,10,11] [0,3,4,5,8,9,10] (I0.put s).1 (I0.put s).2=some r \/
   ∃ s',Dc Try.prog xR 60 87 (Dh Try.f87 17) [0,3,4,5,8,9,10,11] [0,3,4,5,8,9,10] (I0.put s).1 (I0.put s).2=some (.normal,I0.put s')/\XV s'=true/\oE s'<oE s/\(oD s').run=some r):=by
 intro t r hp hr;unfold XV at hp;split at hp
 ·rename_i f es z zb s k i x y a b c d e f' g;simp only[Aa,Ab]at hp;obtain⟨⟨⟨h0,h1⟩,h2⟩,h3⟩:=hp;have hr':=Ob hr;refine⟨by rw[hr'];cases(sV _ _ _ _ _ _ _).1 <;> simp,?_⟩;have q:Dc Try.prog xR 60 87 (Dh Try.f87 17) [0,3,4,5,8,9,10,11] [0,3,4,5,8,9,10] (I0.put (Vy f es z zb k i x y ⟨s,a,b,c,d,e,f',g⟩)).1 (I0.put (Vy f es z zb k i x y ⟨s,a,b,c,d,e,f',g⟩)).2=_:=ab9 f es z zb k i x y s a b c d e f' g;rw[show(I0.put ([.l f es,.i z,.b zb,.b s,.i k,.i i],[.i x,.i y,.i a,.i b,.i c,.i d,.i e,.i f',.i g]))=I0.put (Vy f es z zb k i x y ⟨s,a,b,c,d,e,f',g⟩) from rfl,q,D1 h0.1 h0.2];simp only[Aj,oB];rw[Dx (n:=i+1) (by omega) (by omega)];by_cases hk:i+1<((D4 es k).length:Int)
  ·obtain⟨j,hj⟩:∃ j,(((D4 es k).length:Int)-1-i).toNat=j+1:=⟨(((D4 es k).length:Int)-1-i).toNat-1,by omega⟩;have hj2:(((D4 es k).length:Int)-1-(i+1)).toNat=j:=by omega
   rw[Ac hk,D1 h1 (by omega),D1 (i:=i+1) (by omega) hk];simp only[Aj];rw[hj]at hr';simp only[sV]at hr';cases hb:onE (Oj es k i) (Oj es k (i+1)) x y with
   |true=>
    rw[hb]at hr';simp only[Aj,Ap]at hr';exact .inl (by rw[hr'];rfl)
   |false=>
    rw[hb]at hr';simp only[Ap]at hr';refine .inr ⟨Vy f es z zb k (i+1) x y (brS es k i x y ⟨s,a,b,c,d,e,f',g⟩),?_,?_,by simp only[oE];omega,?_⟩
    ·unfold brS en;rw[Dx (n:=i+1) (by omega) (by omega)];simp only[Ap];cases decide (ZO (Oj es k i) (Oj es k (i+1)) x y<0) <;> rfl
    ·simp only[XV,Aa,Ab];omega
    ·rw[hr'];simp only[oD,hj2];generalize sV es k x y j (i+1) (brS es k i x y ⟨s,a,b,c,d,e,f',g⟩)=w;cases w.1 <;> rfl
  ·have hz:(((D4 es k).length:Int)-1-i).toNat=0:=by omega
   rw[Ai hk];exact .inl (by rw[hr',hz];rfl)
 ·cases hp
noncomputable def MY3:C9:=xR.Dr 87 17 [0,3,4,5,8,9,10,11] [true,true] I0 XV oD
theorem acb:C4 Try.prog MY3.env:=
 ab8.Dr (n:=60) Try.func87 (show Try.f87.body=some (D3 Try.f87) by kernel_rfl) (show(loops (D3 Try.f87)).filter (fun b=>Ev b==17)=[Dh Try.f87 17] by kernel_rfl) [0,3,4,5,8,9,10,11] [0,3,4,5,8,9,10] [true,true] I0 oE ahj
def Ku:S1:=⟨120,[(0,.Db 159),(3,.ptr 0 1 0 0),(4,Dm),(5,.bool),(8,.bool),(9,.ptr 1 1 0 0),(10,Dm)],[.one 28 2 (.agg [Dm,Dm]),.one 161 7 (.agg [Dm,Dm,Dm,Dm,Dm,Dm,Dm])]⟩
abbrev ZP(f:Bool)(es:List PV)(z:Int)(zb:Bool)(k x y:Int)(B:BR):LS:=([.l f es,.i z,.b zb,.b B.s,.i k],[.i x,.i y,.i B.a,.i B.b,.i B.c,.i B.d,.i B.e,.i B.f,.i B.g])
noncomputable abbrev acd(z:Int)(zb:Bool)(x y:Int)(B:BR):PX×List PV×List Row:=(.exit 4,tm 120 [(4,iv z),(5,bv zb),(9,.ptr 1 1 0 0)],[sL x y,B.row])
noncomputable abbrev ace(x y:Int)(B:BR):PX×List PV×List Row:=(.ret,tm 120 [(4,iv 0),(5,bv false),(9,.ptr 1 1 0 0)],[sL x y,B.row])
abbrev wh(es:List PV)(k x y:Int)(B:BR):Bool×BR:=sV es k x y (((D4 es k).length:Int)-1-0).toNat 0 B
theorem ahk(f:Bool)(es:List PV)(z:Int)(zb:Bool)(k x y:Int)(s:Bool)(a b c d e f' g:Int):Dc Try.prog MY3 60 87 (Dh Try.f87 14) [0,3,4,5,8,9,10] [4,5,9] (Ku.put (ZP f es z zb k x y ⟨s,a,b,c,d,e,f',g⟩)).1 (Ku.put (ZP f es z zb k x y ⟨s,a,b,c,d,e,f',g⟩)).2 =
 bif decide (k<(es.length:Int)) then bif XV (Vy f es z zb k 0 x y ⟨s,a,b,c,d,e,f',g⟩) then
  bif (wh es k x y ⟨s,a,b,c,d,e,f',g⟩).1 then some (.normal,Ku.put (ZP f es z zb (W (k+1)) x y (wh es k x y ⟨s,a,b,c,d,e,f',g⟩).2)) else some (ace x y (wh es k x y ⟨s,a,b,c,d,e,f',g⟩).2) else none
 else some (acd z zb x y ⟨s,a,b,c,d,e,f',g⟩):=by kernel_rfl
def eo(es:List PV)(x y:Int):Nat->Int->BR->Bool×BR
 |0,_,B=>(true,B)
 |m+1,k,B=>bif (wh es k x y B).1 then eo es x y m (k+1) (wh es k x y B).2 else (false,(wh es k x y B).2)
def XW:LS->Bool
 |([.l _ es,.i _,.b _,.b _,.i k],[.i _,.i _,.i _,.i _,.i _,.i _,.i _,.i _,.i _])=>P0 es&&decide (0<=k)&&decide (k<=(es.length:Int))&&decide (es.length<=1000)
 |_=>false
noncomputable def oF:LS->DT (PX×List PV×List Row)
 |([.l _ es,.i z,.b zb,.b s,.i k],[.i x,.i y,.i a,.i b,.i c,.i d,.i e,.i f',.i g])=>
  .br (eo es x y ((es.length:Int)-k).toNat k ⟨s,a,b,c,d,e,f',g⟩).1 (.leaf (acd z zb x y (eo es x y ((es.length:Int)-k).toNat k ⟨s,a,b,c,d,e,f',g⟩).2)) (.leaf (ace x y (eo es x y ((es.length:Int)-k).toNat k ⟨s,a,b,c,d,e,f',g⟩).2))
 |_=>.no
def oG:LS->Nat
 |([.l _ es,.i _,.b _,.b _,.i k],_)=>((es.length:Int)-k).toNat
 |_=>0
theorem ahl:∀ s r,XW s=true->(oF s).run=some r->r.1≠.normal/\(Dc Try.prog MY3 60 87 (Dh Try.f87 14) [0,3,4,5,8,9,10] [4,5,9] (Ku.put s).1 (Ku.put s).2=some r \/
   ∃ s',Dc Try.prog MY3 60 87 (Dh Try.f87 14) [0,3,4,5,8,9,10] [4,5,9] (Ku.put s).1 (Ku.put s).2=some (.normal,Ku.put s')/\XW s'=true/\oG s'<oG s/\(oF s').run=some r):=by
 intro t r hp hr;unfold XW at hp;split at hp
 ·rename_i f es z zb s k x y a b c d e f' g;simp only[Aa,Ab]at hp;obtain⟨⟨⟨h0,h1⟩,h2⟩,h3⟩:=hp;have hr':=Ob hr;refine⟨by rw[hr'];cases(eo _ _ _ _ _ _).1 <;> simp,?_⟩;rw[show(Ku.put ([.l f es,.i z,.b zb,.b s,.i k],[.i x,.i y,.i a,.i b,.i c,.i d,.i e,.i f',.i g]))=Ku.put (ZP f es z zb k x y ⟨s,a,b,c,d,e,f',g⟩) from rfl,ahk f es z zb k x y s a b c d e f' g];by_cases hk:k<(es.length:Int)
  ·obtain⟨j,hj⟩:∃ j,((es.length:Int)-k).toNat=j+1:=⟨((es.length:Int)-k).toNat-1,by omega⟩;have hj2:((es.length:Int)-(k+1)).toNat=j:=by omega
   have hs:=Vw h0 h1 hk;have p7:XV (Vy f es z zb k 0 x y ⟨s,a,b,c,d,e,f',g⟩)=true:=by
    simp only[XV,Aa,Ab];omega
   rw[Ac hk,p7,Dx (n:=k+1) (by omega) (by omega)];simp only[Aj];rw[hj]at hr';simp only[eo]at hr';generalize wh es k x y ⟨s,a,b,c,d,e,f',g⟩=w at hr';cases hb:w.1 with
   |true=>
    rw[hb,Aj]at hr';refine .inr ⟨ZP f es z zb (k+1) x y w.2,rfl,?_,by simp only[oG];omega,?_⟩
    ·simp only[XW,Aa,Ab];exact⟨⟨⟨h0,by omega⟩,by omega⟩,h3⟩
    ·rw[hr'];simp only[oF,hj2];show(DT.br (eo es x y j (k+1) w.2).1 _ _).run=_
     generalize eo es x y j (k+1) w.2=v;cases v.1 <;> rfl
   |false=>
    rw[hb,Ap]at hr';simp only[Ap]at hr';exact .inl (by rw[hr'];rfl)
  ·have hz:((es.length:Int)-k).toNat=0:=by omega
   rw[Ai hk];exact .inl (by rw[hr',hz];rfl)
 ·cases hp
noncomputable def MY4:C9:=MY3.Dr 87 14 [0,3,4,5,8,9,10] [true,true] Ku XW oF
theorem sW:C4 Try.prog MY4.env:=
 acb.Dr (n:=60) Try.func87 (show Try.f87.body=some (D3 Try.f87) by kernel_rfl) (show(loops (D3 Try.f87)).filter (fun b=>Ev b==14)=[Dh Try.f87 14] by kernel_rfl) [0,3,4,5,8,9,10] [4,5,9] [true,true] Ku oG ahl
abbrev wj:BR:=⟨false,0,0,0,0,0,0,0⟩
theorem ahn(f:Bool)(es:List PV)(x y:Int):DC Try.prog MY4 60 87 [.Db f 159 es,FL x y] =
 bif !Zh x y 1 then some (.D8 [iv 0,bv false]) else bif sR (wg f es 0 false 0 x y) then bif sP es ((es.length:Int)-0).toNat 0 then
  bif XW (ZP f es 0 false 0 x y wj) then bif (eo es x y ((es.length:Int)-0).toNat 0 wj).1 then some (.D8 [iv (eo es x y ((es.length:Int)-0).toNat 0 wj).2.g,bv true]) else some (.D8 [iv 0,bv false]) else none
 else some (.D8 [iv 0,bv false]) else none:=by kernel_rfl
def kn(es:List PV)(x y:Int):Bool:=bif !Zh x y 1 then false else bif sP es ((es.length:Int)-0).toNat 0 then (eo es x y ((es.length:Int)-0).toNat 0 wj).1 else false
def eT(es:List PV)(x y:Int):Int:=bif kn es x y then (eo es x y ((es.length:Int)-0).toNat 0 wj).2.g else 0
theorem sZ(f:Bool){es:List PV}(x y:Int)(h:P0 es=true)(hl:es.length<=1000):DC Try.prog MY4 60 87 [.Db f 159 es,FL x y]=some (.D8 [iv (eT es x y),bv (kn es x y)]):=by
 have h1:sR (wg f es 0 false 0 x y)=true:=by
  simp only[sR,Aa,Ab];exact⟨⟨⟨h,by omega⟩,by omega⟩,hl⟩
 have h2:XW (ZP f es 0 false 0 x y wj)=true:=by
  simp only[XW,Aa,Ab];exact⟨⟨⟨h,by omega⟩,by omega⟩,hl⟩
 rw[ahn,h1,h2];unfold eT kn;cases Zh x y 1 <;> cases sP es ((es.length:Int)-0).toNat 0 <;> cases(eo es x y ((es.length:Int)-0).toNat 0 wj).1 <;> rfl
def wk:List PV->Option (DT PV)
 | [.Db _ 159 es,.agg [.val (.int .i64 x),.val (.int .i64 y)]]=>some (.br (P0 es&&decide (es.length<=1000)) (.leaf (.D8 [iv (eT es x y),bv (kn es x y)])) .no)
 |_=>none
theorem aho:Hx.Df Try.prog 87:=(Cz sW (n:=60) (sZ false (es:=[]) 0 0 rfl (by simp))).1
theorem ahp(args:List PV)(d:DT PV)(r:PV)(h:wk args=some d)(hr:d.run=some r):Ds Try.prog 87 args r:=by
 unfold wk at h;split at h
 ·rename_i f es x y;cases h;obtain⟨h1,rfl⟩:=DO hr;rw[Aa,Ab]at h1;exact(Cz sW (n:=60) (sZ f x y h1.1 h1.2)).2
 ·cases h
theorem cq{es:List PV}(h:P0 es=true):∀(m:Nat) (k:Int) (s:Bool×List PV),0<=k->k+m<=(es.length:Int)->(∀ e∈s.2,((e.cellAt 1).Tc).length<=1000)->∀ e∈(sI es m k s).2,((e.cellAt 1).Tc).length<=1000
 |0,_,_,_,_,h2=>h2
 |m+1,k,s,h0,h1,h2=>cq h m (k+1) _ (by omega) (by omega) (fun e he=>by
   rcases A5.1 he with he |he
   ·exact h2 e he
   ·rw[AI]at he;subst he;show(((ssE es k).drop 0).take (D4 es k).length).length<=1000
    have:=Vw h h0 (by omega);rw[Az];omega)
theorem wo{es:List PV}(h:P0 es=true):P0 (Qp es)=true:=by
 unfold P0;rw[Ao];intro e he;exact Ac (cq h ((es.length:Int)-0).toNat 0 (true,[]) (by omega) (by omega) (by intro e he;cases he) e he)
noncomputable def MZ1:C9:=(M7.DH 88 wc).DH 87 wk
theorem s7:C4 Try.prog MZ1.env:=(IM.DH ahf ahg).DH aho ahp
theorem qAt(f:Bool)(es:List PV)(x y:Int):DC Try.prog MZ1 60 79 [.Db f 147 es,FL x y] =
 bif P0 es&&decide (es.length<=1000) then bif P0 (Qp es)&&decide ((Qp es).length<=1000) then some (.D8 [iv (eT (Qp es) x y),bv (kn (Qp es) x y)]) else none else none:=by kernel_rfl
theorem acf(f:Bool){es:List PV}(x y:Int)(h:P0 es=true)(hl:es.length<=1000):DC Try.prog MZ1 60 79 [.Db f 147 es,FL x y]=some (.D8 [iv (eT (Qp es) x y),bv (kn (Qp es) x y)]):=by
 rw[qAt,h,wo h,Vx,Ac hl];rfl
def cAt:List PV->Option (DT PV)
 | [.Db _ 147 es,.agg [.val (.int .i64 x),.val (.int .i64 y)]]=>some (.br (P0 es&&decide (es.length<=1000)) (.leaf (.D8 [iv (eT (Qp es) x y),bv (kn (Qp es) x y)])) .no)
 |_=>none
theorem eAt:Hx.Df Try.prog 79:=(Cz s7 (n:=60) (acf false (es:=[]) 0 0 rfl (by simp))).1
theorem oAt(args:List PV)(d:DT PV)(r:PV)(h:cAt args=some d)(hr:d.run=some r):Ds Try.prog 79 args r:=by
 unfold cAt at h;split at h
 ·rename_i f es x y;cases h;obtain⟨h1,rfl⟩:=DO hr;rw[Aa,Ab]at h1;exact(Cz s7 (n:=60) (acf f x y h1.1 h1.2)).2
 ·cases h
def Oc:S1:=⟨27,[(1,Dm),(2,.ptr 0 1 0 0),(4,Dm),(5,Dm)],[.Gx 73 4 (.agg [.Db 147,.Db 106,.Db 49,.nil])]⟩
abbrev oH(id z k:Int)(g:Bool)(E:List PV)(f:Bool)(F:List PV)(h:Bool)(D:List PV):LS:=([.i id,.i z,.i k],[.l g E,.l f F,.l h D])
noncomputable abbrev xFd(z:Int)(g:Bool)(E:List PV)(f:Bool)(F:List PV)(h:Bool)(D:List PV):PX×List PV×List Row:=(.exit 0,tm 27 [(4,iv z)],(Oc.put (oH 0 0 0 g E f F h D)).2)
noncomputable abbrev rFd(z:Int)(g:Bool)(E:List PV)(f:Bool)(F:List PV)(h:Bool)(D:List PV):PX×List PV×List Row:=(.ret,tm 27 [(4,iv z)],(Oc.put (oH 0 0 0 g E f F h D)).2)
theorem qFd(id z k:Int)(g:Bool)(E:List PV)(f:Bool)(F:List PV)(h:Bool)(D:List PV):Dc Try.prog M7 60 80 (Dh Try.f80 2) [1,2,4,5] [4] (Oc.put (oH id z k g E f F h D)).1 (Oc.put (oH id z k g E f F h D)).2 =
 bif decide (k<(F.length:Int)) then bif F7 F k then bif ((F.getD k.toNat .any).cellAt 0).DN==id then bif F7 F k then some (rFd ((F.getD k.toNat .any).cellAt 4).DN g E f F h D) else none
  else some (.normal,Oc.put (oH id z (W (k+1)) g E f F h D)) else none
 else some (xFd z g E f F h D):=by kernel_rfl
def lA(F:List PV)(id:Int):Nat->Int->Option Int
 |0,_=>none
 |m+1,k=>bif ((F.getD k.toNat .any).cellAt 0).DN==id then some ((F.getD k.toNat .any).cellAt 4).DN else lA F id m (k+1)
def s8:LS->Bool
 |([.i _,.i _,.i k],[.l _ _,.l _ F,.l _ _])=>decide (0<=k)&&decide (k<=(F.length:Int))&&decide (F.length<=1000)
 |_=>false
noncomputable def fFd:LS->DT (PX×List PV×List Row)
 |([.i id,.i z,.i k],[.l g E,.l f F,.l h D])=>.br (lA F id ((F.length:Int)-k).toNat k).isSome (.leaf (rFd ((lA F id ((F.length:Int)-k).toNat k).getD 0) g E f F h D)) (.leaf (xFd z g E f F h D))
 |_=>.no
def mFd:LS->Nat
 |([.i _,.i _,.i k],[.l _ _,.l _ F,.l _ _])=>((F.length:Int)-k).toNat
 |_=>0
theorem sFd:∀ s r,s8 s=true->(fFd s).run=some r->r.1≠.normal/\(Dc Try.prog M7 60 80 (Dh Try.f80 2) [1,2,4,5] [4] (Oc.put s).1 (Oc.put s).2=some r \/
   ∃ s',Dc Try.prog M7 60 80 (Dh Try.f80 2) [1,2,4,5] [4] (Oc.put s).1 (Oc.put s).2=some (.normal,Oc.put s')/\s8 s'=true/\mFd s'<mFd s/\(fFd s').run=some r):=by
 intro t r hp hr;unfold s8 at hp;split at hp
 ·rename_i id z k g E f F h D;simp only[Aa,Ab]at hp;obtain⟨⟨h1,h2⟩,h3⟩:=hp;have hr':=Ob hr;refine⟨by rw[hr'];cases(lA _ _ _ _).isSome <;> simp,?_⟩;rw[show(Oc.put ([.i id,.i z,.i k],[.l g E,.l f F,.l h D]))=Oc.put (oH id z k g E f F h D) from rfl,qFd];by_cases hk:k<(F.length:Int)
  ·obtain⟨j,hj⟩:∃ j,((F.length:Int)-k).toNat=j+1:=⟨((F.length:Int)-k).toNat-1,by omega⟩;have hj2:((F.length:Int)-(k+1)).toNat=j:=by omega
   rw[Ac hk,D1 h1 hk,Dx (n:=k+1) (by omega) (by omega)];simp only[Aj];rw[hj]at hr';simp only[lA]at hr';cases hb:((F.getD k.toNat .any).cellAt 0).DN==id with
   |true=>
    rw[hb]at hr';simp only[Aj,Cg,Bv]at hr';exact .inl (by rw[hr'];rfl)
   |false=>
    rw[hb]at hr';simp only[Ap]at hr';refine .inr ⟨oH id z (k+1) g E f F h D,rfl,?_,by simp only[mFd];omega,?_⟩
    ·simp only[s8,Aa,Ab];omega
    ·rw[hr'];simp only[fFd,hj2];generalize lA F id j (k+1)=w;cases w <;> rfl
  ·have hz:((F.length:Int)-k).toNat=0:=by omega
   rw[Ai hk];exact .inl (by rw[hr',hz];rfl)
 ·cases hp
noncomputable def MW1:C9:=M7.Dr 80 2 [1,2,4,5] [true] Oc s8 fFd
theorem s9:C4 Try.prog MW1.env:=
 IM.Dr (n:=60) Try.func80 (show Try.f80.body=some (D3 Try.f80) by kernel_rfl) (show(loops (D3 Try.f80)).filter (fun b=>Ev b==2)=[Dh Try.f80 2] by kernel_rfl) [1,2,4,5] [4] [true] Oc mFd sFd
abbrev oJ(g:Bool)(E:List PV)(f:Bool)(F:List PV)(h:Bool)(D:List PV):PV:=.agg [.Db g 147 E,.Db f 106 F,.Db h 49 D,.val (.slice none 0 0)]
theorem aht(g:Bool)(E:List PV)(f:Bool)(F:List PV)(h:Bool)(D:List PV)(id:Int):DC Try.prog MW1 60 80 [oJ g E f F h D,iv id] =
 bif s8 (oH id 0 0 g E f F h D) then bif (lA F id ((F.length:Int)-0).toNat 0).isSome then some (iv ((lA F id ((F.length:Int)-0).toNat 0).getD 0)) else some (iv 0) else none:=by kernel_rfl
def oK(F:List PV)(id:Int):Int:=(lA F id ((F.length:Int)-0).toNat 0).getD 0
theorem ta(g:Bool)(E:List PV)(f:Bool){F:List PV}(h:Bool)(D:List PV)(id:Int)(hl:F.length<=1000):DC Try.prog MW1 60 80 [oJ g E f F h D,iv id]=some (iv (oK F id)):=by
 have h1:s8 (oH id 0 0 g E f F h D)=true:=by
  simp only[s8,Aa,Ab];omega
 rw[aht,h1];unfold oK;cases lA F id ((F.length:Int)-0).toNat 0 <;> rfl
def wq:List PV->Option (DT PV)
 | [.agg [.Db _ 147 _,.Db _ 106 F,.Db _ 49 _,.val (.slice none 0 0)],.val (.int .i64 id)]=>some (.br (decide (F.length<=1000)) (.leaf (iv (oK F id))) .no)
 |_=>none
theorem ahu:Hx.Df Try.prog 80:=(Cz s9 (n:=60) (ta false [] false (F:=[]) false [] 0 (by simp))).1
theorem ahv(args:List PV)(d:DT PV)(r:PV)(h:wq args=some d)(hr:d.run=some r):Ds Try.prog 80 args r:=by
 unfold wq at h;split at h
 ·rename_i g E f F h' D id;cases h;obtain⟨h1,rfl⟩:=DO hr;exact(Cz s9 (n:=60) (ta g E f h' D id (AO h1))).2
 ·cases h
theorem ko(f:Bool)(ls:List PV)(k:Int):DC Try.prog M7 60 54 [.Db f 38 ls,iv k] =
 bif decide (k ≥ (ls.length:Int)) then some (.val (.slice none 0 0)) else bif F7 ls k then some (.Db false 3 ((ls.getD k.toNat .any).cellAt 0).Tc) else none:=by kernel_rfl
theorem oL{ls:List PV}{k:Nat}(h:ls.length<=k):nth ls k=[]:=by
 unfold nth;rw[Ay,AF h];rfl
def kp:List PV->Option (DT PV)
 | [.Db _ 38 ls,.val (.int .i64 k)]=>some (.br (decide (0<=k)) (.leaf (.Db false 3 (nth ls k.toNat))) .no)
 |_=>none
theorem acg:Hx.Df Try.prog 54:=(Cz IM (n:=60) ((ko false [] 0).trans (by rfl))).1
theorem ach(args:List PV)(d:DT PV)(r:PV)(h:kp args=some d)(hr:d.run=some r):Ds Try.prog 54 args r:=by
 unfold kp at h;split at h
 ·rename_i f ls k;cases h;obtain⟨h1,rfl⟩:=DO hr;have h0:=AO h1;by_cases hk:k ≥ (ls.length:Int)
  ·rw[oL (by omega)];exact OJ (Cz IM (n:=60) ((ko f ls k).trans (by rw[Ac hk];rfl))).2
  ·exact(Cz IM (n:=60) ((ko f ls k).trans (by rw[Ai hk,D1 h0 (by omega)];rfl))).2
 ·cases h
noncomputable def MW2:C9:=(M7.FU 77 19 4).JP 77 19 [12,13,14,15,16,17,18,19,20,21,22,23,24,25,26,27,28,29,30,31,32,33,34,35,36,37,38,39,40,41,42,43,44,45,46,47,48,49,50,51,52,53,54,55,56,57,58,59,60,61,62,63,64,65,66,67,68,69,70,71,72,73,74,75,76,77,78,79,80,81,82,83,84,85,86,87,88,89,90,91,92,93,94,95,96,97,98,99,100,101,102,103,104,105,106,107,108,109,110,111,112,113,114,115,116,117,118]
theorem acj:C4 Try.prog MW2.env:=(IM.FU 77 19 4).JP 77 19 [12,13,14,15,16,17,18,19,20,21,22,23,24,25,26,27,28,29,30,31,32,33,34,35,36,37,38,39,40,41,42,43,44,45,46,47,48,49,50,51,52,53,54,55,56,57,58,59,60,61,62,63,64,65,66,67,68,69,70,71,72,73,74,75,76,77,78,79,80,81,82,83,84,85,86,87,88,89,90,91,92,93,94,95,96,97,98,99,100,101,102,103,104,105,106,107,108,109,110,111,112,113,114,115,116,117,118]
abbrev xT(nl:Bool)(es:List PV):Row:={ es,s:=8,t:=49,bv:=true,nl }
def O6:S1:=⟨123,[(0,.sl 0),(4,.ptr 1 1 0 0),(6,.ptr 2 1 0 0),(7,.ptr 3 1 0 0),(11,.ptr 5 1 0 0),(12,Dm),(13,Dm)],[.many 49 8,.one 103 2 (.agg [.Db 3,Dm]),.one 28 2 aP,.one 28 2 aP,.many 28 2,.Gx 49 8 (.agg [Dm,.sl 4,Dm,.str,.str,.bool,Dm,Dm])]⟩
abbrev tc(n l:Nat)(m k:Int)(nl:Bool)(es:List PV)(f:Bool)(L:List PV)(a ax ay bx b':Int)(u:Bool)(ps:List PV)(id:Int)(p q:Nat)(lv:Int)(s3 s4:ByteArray)(st:Bool)(c6 c7:Int):LS:=
 ([.n n,.n l,.i m,.i k],[.l nl es,.l f L,.i a,.i ax,.i ay,.i bx,.i b',.l u ps,.i id,.n p,.n q,.i lv,.s s3,.s s4,.b st,.i c6,.i c7])
noncomputable abbrev xWa(n l:Nat)(nl:Bool)(es:List PV)(f:Bool)(L:List PV)(a ax ay bx b':Int)(u:Bool)(ps:List PV)(id:Int)(p q:Nat)(lv:Int)(s3 s4:ByteArray)(st:Bool)(c6 c7:Int):PX×List PV×List Row:=
 (.exit 0,tm 123 [(0,.sl 0 n 0 l),(4,.ptr 1 1 0 0),(7,.ptr 3 1 0 0),(11,.ptr 5 1 0 0)],(O6.put (tc n l 0 0 nl es f L a ax ay bx b' u ps id p q lv s3 s4 st c6 c7)).2)
def wyP(ax ay bx b' m k d:Int):PV:=FL (bif ax==bx then W (T4 ax (W (bx-ax)) m k+W (d-8)) else T4 ax (W (bx-ax)) m k) (bif ay==b' then W (T4 ay (W (b'-ay)) m k+W (d-8)) else T4 ay (W (b'-ay)) m k)
abbrev cr(ps:List PV)(p q:Nat):Bool:=true&&decide (ps.length=p)&&decide (p=q)&&decide ((p+1)*16<=140737488355328)
noncomputable def nWa(n l:Nat)(m k:Int)(nl:Bool)(es:List PV)(f:Bool)(L:List PV)(a ax ay bx b':Int)(u:Bool)(ps:List PV)(id:Int)(p q:Nat)(lv:Int)(s3 s4:ByteArray)(st:Bool)(c6 c7:Int)(X Y:Int):Option (PX×List PV×List Row):=
 bif cr ps p q then some (.normal,O6.put (tc n l m (W (k+1)) nl es (fI f L a) L (aI L a) ax ay bx b' (u&&false) (ps++[FL X Y]) id (p+1) (p+1) lv s3 s4 st c6 c7)) else none
theorem qWa(n l:Nat)(m k:Int)(nl:Bool)(es:List PV)(f:Bool)(L:List PV)(a ax ay bx b':Int)(u:Bool)(ps:List PV)(id:Int)(p q:Nat)(lv:Int)(s3 s4:ByteArray)(st:Bool)(c6 c7:Int):
 Dc Try.prog MW2 60 77 (Dh Try.f77 4) [0,4,6,7,11,12,13] [0,4,7,11] (O6.put (tc n l m k nl es f L a ax ay bx b' u ps id p q lv s3 s4 st c6 c7)).1 (O6.put (tc n l m k nl es f L a ax ay bx b' u ps id p q lv s3 s4 st c6 c7)).2 =
 bif decide (k<=m) then bif true && !decide (W (m+1)=0) then bif true && !decide (W (m+1)=0) then bif E3 a 17 then
  bif ay==b' then
   bif ax==bx then nWa n l m k nl es f L a ax ay bx b' u ps id p q lv s3 s4 st c6 c7 (W (T4 ax (W (bx-ax)) m k+W (dI L a 17-8))) (W (T4 ay (W (b'-ay)) m k+W (dI L a 17-8))) else nWa n l m k nl es f L a ax ay bx b' u ps id p q lv s3 s4 st c6 c7 (T4 ax (W (bx-ax)) m k) (W (T4 ay (W (b'-ay)) m k+W (dI L a 17-8)))
  else
   bif ax==bx then nWa n l m k nl es f L a ax ay bx b' u ps id p q lv s3 s4 st c6 c7 (W (T4 ax (W (bx-ax)) m k+W (dI L a 17-8))) (T4 ay (W (b'-ay)) m k) else nWa n l m k nl es f L a ax ay bx b' u ps id p q lv s3 s4 st c6 c7 (T4 ax (W (bx-ax)) m k) (T4 ay (W (b'-ay)) m k)
 else none else none else none else some (xWa n l nl es f L a ax ay bx b' u ps id p q lv s3 s4 st c6 c7):=by kernel_rfl
def wu(ax ay bx b' m:Int)(L:List PV):Nat->Int->Int->List PV
 |0,_,_=>[]
 |j+1,k,a=>wyP ax ay bx b' m k (dI L a 17)::wu ax ay bx b' m L j (k+1) (aI L a)
theorem ct{ax ay bx b' m:Int}{L:List PV}:∀{j:Nat} {k a:Int},(wu ax ay bx b' m L j k a).length=j
 |0,_,_=>rfl
 |j+1,k,a=>by rw[wu,As,ct]
def td:LS->Bool
 |([.n _,.n _,.i m,.i k],[.l _ _,.l _ _,.i a,.i _,.i _,.i _,.i _,.l u ps,.i _,.n p,.n q,.i _,.s _,.s _,.b _,.i _,.i _])=>decide (p=ps.length)&&decide (q=ps.length)&&decide (0<=m)&&decide (m<=2)&&decide (1<=k)&&decide (k<=m+1)&&decide ((ps.length:Int)<=10+k)&&decide (0<=a)&&decide (a<=1000000000+k) && !u
 |_=>false
noncomputable def fWa:LS->DT (PX×List PV×List Row)
 |([.n n,.n l,.i m,.i k],[.l nl es,.l f L,.i a,.i ax,.i ay,.i bx,.i b',.l _ ps,.i id,.n _,.n _,.i lv,.s s3,.s s4,.b st,.i c6,.i c7])=>
  .leaf (xWa n l nl es (f1 f L a (m+1-k).toNat) L (a1 L a (m+1-k).toNat) ax ay bx b' false (ps++wu ax ay bx b' m L (m+1-k).toNat k a) id (ps.length+(m+1-k).toNat) (ps.length+(m+1-k).toNat) lv s3 s4 st c6 c7)
 |_=>.no
def mWa:LS->Nat
 |([.n _,.n _,.i m,.i k],_)=>(m+1-k).toNat
 |_=>0
theorem sWa:∀ s r,td s=true->(fWa s).run=some r->r.1≠.normal/\(Dc Try.prog MW2 60 77 (Dh Try.f77 4) [0,4,6,7,11,12,13] [0,4,7,11] (O6.put s).1 (O6.put s).2=some r \/
   ∃ s',Dc Try.prog MW2 60 77 (Dh Try.f77 4) [0,4,6,7,11,12,13] [0,4,7,11] (O6.put s).1 (O6.put s).2=some (.normal,O6.put s')/\td s'=true/\mWa s'<mWa s/\(fWa s').run=some r):=by
 intro t r hp hr;unfold td at hp;split at hp
 ·rename_i n l m k nl es f L a ax ay bx b' u ps id p q lv s3 s4 st c6 c7;simp only[Aa,Ab,Am]at hp;obtain⟨⟨⟨⟨⟨⟨⟨⟨⟨rfl,rfl⟩,h2⟩,h3⟩,h4⟩,h5⟩,h6⟩,h7⟩,h8⟩,rfl⟩:=hp;have hr':=(Ah hr).symm;refine⟨by rw[hr'];simp,?_⟩;rw[show(O6.put ([.n n,.n l,.i m,.i k],[.l nl es,.l f L,.i a,.i ax,.i ay,.i bx,.i b',.l false ps,.i id,.n ps.length,.n ps.length,.i lv,.s s3,.s s4,.b st,.i c6,.i c7]))=O6.put (tc n l m k nl es f L a ax ay bx b' false ps id ps.length ps.length lv s3 s4 st c6 c7) from rfl,qWa];by_cases hi:k<=m
  ·obtain⟨j,hj⟩:∃ j,(m+1-k).toNat=j+1:=⟨(m+1-k).toNat-1,by omega⟩;have hj2:(m+1-(k+1)).toNat=j:=by omega
   have hroom:cr ps ps.length ps.length=true:=by show(true&&_&&_&&_)=true;simp;omega
   have hok:E3 a 17=true:=by unfold E3;simp;omega
   have ha:=F6 L a;rw[Ac hi,hok,show(!decide (W (m+1)=0))=true by rw[Dx (n:=m+1) (by omega) (by omega)];simp;omega];simp only[A_,Aj];unfold nWa;rw[hroom,Dx (n:=k+1) (by omega) (by omega)];simp only[Aj];rw[hj]at hr';simp only[wu]at hr';refine .inr ⟨tc n l m (k+1) nl es (fI f L a) L (aI L a) ax ay bx b' (false&&false) (ps++[wyP ax ay bx b' m k (dI L a 17)]) id (ps.length+1) (ps.length+1) lv s3 s4 st c6 c7,?_,?_,by simp only[mWa];omega,?_⟩
   ·unfold wyP;cases ax==bx <;> cases ay==b' <;> rfl
   ·simp only[td,Aa,Ab,Ar,As,AC,Am,BG];exact⟨⟨⟨⟨⟨⟨⟨⟨⟨trivial,trivial⟩,h2⟩,h3⟩,by omega⟩,by omega⟩,by omega⟩,by omega⟩,by omega⟩,trivial⟩
   ·rw[hr'];simp only[fWa,hj2,DT.run,Ar,As,AC,BA,List.cons_append,Bc,QQ,N1];rw[show ps.length+(0+1)+j=ps.length+(j+1) by omega]
  ·have hz:(m+1-k).toNat=0:=by omega
   rw[Ai hi];exact .inl (by rw[hr',hz];simp only[wu,BV,By,f1,a1];rfl)
 ·cases hp
noncomputable def MW3:C9:=MW2.Dr 77 4 [0,4,6,7,11,12,13] [false,true,true,true,false,true] O6 td fWa
theorem te:C4 Try.prog MW3.env:=
 acj.Dr (n:=60) Try.func77 (show Try.f77.body=some (D3 Try.f77) by kernel_rfl) (show(loops (D3 Try.f77)).filter (fun b=>Ev b==4)=[Dh Try.f77 4] by kernel_rfl) [0,4,6,7,11,12,13] [0,4,7,11] [false,true,true,true,false,true] O6 mWa sWa
abbrev acm:List PV:=[.val (.string ⟨#[112,97,116,104]⟩),.val (.string ⟨#[114,111,97,100]⟩)]
abbrev acn:List PV:=[.val (.string ⟨#[]⟩),.val (.string ⟨#[]⟩),.val (.string ⟨#[82,105,110,103]⟩),.val (.string ⟨#[79,108,100,32,87,97,121]⟩)]
def XX(L:List PV)(a:Int):Nat:=(dI L a 3+1-1).toNat
abbrev Nc(L:List PV)(a:Int):Int:=a1 L (aI L a) (XX L a)
abbrev wyF(f:Bool)(L:List PV)(a:Int):Bool:=f1 (fI f L a) L (aI L a) (XX L a)
abbrev SZ(ax ay bx b':Int)(L:List PV)(a:Int):List PV:=[FL ax ay]++wu ax ay bx b' (dI L a 3) L (XX L a) 1 (aI L a)
abbrev wv(ps:List PV)(k:Nat)(i lv:Int)(L:List PV)(c:Int):PV:=
 .agg [iv (W (41+i)),.Db false 28 ((ps.drop 0).take k),iv lv,.val (.string ((acm.getD (0+(dI L (a1 L c 0) 2).toNat) .any).cellAt 0).Hz),.val (.string ((acn.getD (0+(dI L (a1 L c 1) 4).toNat) .any).cellAt 0).Hz),
  bv (dI L (a1 L c 2) 4==0),iv (W (1+dI L (a1 L c 3) 60)),iv (W (1+W (dI L (a1 L c 4) 3*dI L (a1 L c 5) 2)))]
abbrev Vz(L:List PV)(c n:Int):Bool:=decide (0<=dI L c n)&&decide (dI L c n<n)
theorem ahy(n l:Nat)(nl:Bool)(es:List PV)(ax ay bx b' lv:Int)(f:Bool)(L:List PV)(a:Int):Kz Try.prog MW3 60 77 [.sl 0 n 0 l,FL ax ay,FL bx b',iv lv,.ptr 1 1 0 0] [xT nl es,Ie f L a] =
 bif E3 a 3 then bif td (tc n l (dI L a 3) 1 nl es (fI f L a) L (aI L a) ax ay bx b' false [FL ax ay] (W (41+(l:Int))) 1 1 lv .empty .empty false 0 0) then
 bif cr (SZ ax ay bx b' L a) (1+XX L a) (1+XX L a) then bif E3 (a1 L (Nc L a) 0) 2 then bif Vz L (a1 L (Nc L a) 0) 2 then bif E3 (a1 L (Nc L a) 1) 4 then bif Vz L (a1 L (Nc L a) 1) 4 then
 bif E3 (a1 L (Nc L a) 2) 4 then bif E3 (a1 L (Nc L a) 3) 60 then bif E3 (a1 L (Nc L a) 4) 3 then bif E3 (a1 L (Nc L a) 5) 2 then
 bif ((((SZ ax ay bx b' L a++[FL bx b']).length==(1+XX L a)+1)&&true)&&true)&&true then
 bif true&&decide (es.length=n)&&decide (n=l)&&decide ((n+1)*96<=140737488355328) then
  some (.sl 0 (n+1) 0 (n+1),[xT (nl&&false) (es++[wv (SZ ax ay bx b' L a++[FL bx b']) ((1+XX L a)+1) (l:Int) lv L (Nc L a)]),Ie (f1 (wyF f L a) L (Nc L a) 6) L (a1 L (Nc L a) 6)])
 else none else none else none else none else none else none else none else none else none else none else none else none else none:=by kernel_rfl
theorem ZQ(L:List PV)(a:Int):XX L a<=2:=by
 have:=ID L a (n:=3) (by omega);unfold XX;omega
theorem Od(ax ay bx b':Int)(L:List PV)(a:Int):(SZ ax ay bx b' L a).length=1+XX L a:=by
 rw[Ar,ct];rfl
def oM(ax ay bx b' lv:Int)(i:Nat)(L:List PV)(a:Int):PV:=
 .agg [iv (41+(i:Int)),.Db false 28 (SZ ax ay bx b' L a++[FL bx b']),iv lv,.val (.string ((acm.getD (0+(dI L (a1 L (Nc L a) 0) 2).toNat) .any).cellAt 0).Hz),.val (.string ((acn.getD (0+(dI L (a1 L (Nc L a) 1) 4).toNat) .any).cellAt 0).Hz),
  bv (dI L (a1 L (Nc L a) 2) 4==0),iv (W (1+dI L (a1 L (Nc L a) 3) 60)),iv (W (1+W (dI L (a1 L (Nc L a) 4) 3*dI L (a1 L (Nc L a) 5) 2)))]
def Un(ax ay bx b' lv:Int)(L:List PV)(s:EW):EW:=
 (s.1++[oM ax ay bx b' lv s.1.length L s.2.2.1],f1 (wyF s.2.1 L s.2.2.1) L (Nc L s.2.2.1) 6,a1 L (Nc L s.2.2.1) 6,false)
theorem tf(ax ay bx b' lv:Int)(L:List PV)(s:EW):s.2.2.1<=(Un ax ay bx b' lv L s).2.2.1/\(Un ax ay bx b' lv L s).2.2.1<=s.2.2.1+9:=by
 have h1:=F6 L s.2.2.1;have h2:=Hv L (aI L s.2.2.1) (XX L s.2.2.1);have h3:=Hv L (Nc L s.2.2.1) 6;have h4:=ZQ L s.2.2.1;show _<=a1 L (Nc L s.2.2.1) 6/\a1 L (Nc L s.2.2.1) 6<=_
 change _<=Nc L s.2.2.1/\Nc L s.2.2.1<=_ at h2
 omega
def VA(n l:Nat)(es:List PV)(a:Int):Bool:=decide (n=es.length)&&decide (l=es.length)&&decide (es.length<=1000)&&decide (0<=a)&&decide (a<=1000000)
theorem aco{n l:Nat}{nl:Bool}{es:List PV}(ax ay bx b' lv:Int){f:Bool}{L:List PV}{a:Int}(h:VA n l es a=true):Kz Try.prog MW3 60 77 [.sl 0 n 0 l,FL ax ay,FL bx b',iv lv,.ptr 1 1 0 0] [xT nl es,Ie f L a] =
  some (.sl 0 (es.length+1) 0 (es.length+1),[xT false (Un ax ay bx b' lv L (es,f,a,nl)).1,Ie (Un ax ay bx b' lv L (es,f,a,nl)).2.1 L (Un ax ay bx b' lv L (es,f,a,nl)).2.2.1]):=by
 unfold VA at h;simp only[Aa,Ab]at h;obtain⟨⟨⟨⟨rfl,rfl⟩,h1⟩,h2⟩,h3⟩:=h;have i1:=F6 L a;have i2:=Hv L (aI L a) (XX L a);have i3:=ZQ L a;have d1:=IZ L a (n:=3) (by omega);have d2:=ID L a (n:=3) (by omega);change _<=Nc L a/\Nc L a<=_ at i2
 have ok:∀(k:Nat) (n:Int),k<=6->0<n->n<=100->E3 (a1 L (Nc L a) k) n=true:=fun k n hk hn hn2=>by
  have:=Hv L (Nc L a) k;unfold E3;simp;omega
 have ind:∀(k:Nat) (n:Int),0<n->Vz L (a1 L (Nc L a) k) n=true:=fun k n hn=>by
  rw[Aa];exact⟨Ac (IZ _ _ hn),Ac (ID _ _ hn)⟩
 have p1:td (tc es.length es.length (dI L a 3) 1 nl es (fI f L a) L (aI L a) ax ay bx b' false [FL ax ay] (W (41+(es.length:Int))) 1 1 lv .empty .empty false 0 0)=true:=by
  simp only[td,Aa,Ab,As,AC,Am];exact⟨⟨⟨⟨⟨⟨⟨⟨⟨trivial,trivial⟩,by omega⟩,by omega⟩,by omega⟩,by omega⟩,by omega⟩,by omega⟩,by omega⟩,trivial⟩
 have p2:cr (SZ ax ay bx b' L a) (1+XX L a) (1+XX L a)=true:=by
  show(true&&_&&_&&_)=true
  rw[Od];simp;omega
 have p3:(((((SZ ax ay bx b' L a++[FL bx b']).length==(1+XX L a)+1)&&true)&&true)&&true)=true:=by
  rw[Ar,Od];simp
 rw[ahy,show E3 a 3=true by unfold E3;simp;omega,p1,p2,ok 0 2 (by omega) (by omega) (by omega),ind 0 2 (by omega),ok 1 4 (by omega) (by omega) (by omega),ind 1 4 (by omega),ok 2 4 (by omega) (by omega) (by omega),ok 3 60 (by omega) (by omega) (by omega),ok 4 3 (by omega) (by omega) (by omega),ok 5 2 (by omega) (by omega) (by omega),p3,
  show(true&&decide (es.length=es.length)&&decide (es.length=es.length)&&decide ((es.length+1)*96<=140737488355328))=true by simp;omega]
 simp only[Aj];have e1:(((SZ ax ay bx b' L a++[FL bx b']).drop 0).take ((1+XX L a)+1))=SZ ax ay bx b' L a++[FL bx b']:=by
  rw[AH,A7 (by rw[Ar,Od];simp)]
 have e2:wv (SZ ax ay bx b' L a++[FL bx b']) ((1+XX L a)+1) (es.length:Int) lv L (Nc L a)=oM ax ay bx b' lv es.length L a:=by
  unfold wv oM;rw[e1,Dx (n:=41+(es.length:Int)) (by omega) (by omega)]
 rw[e2,BG];rfl
def cWay':List PV->List Row->Option (DT (PV×List Row))
 | [.sl 0 n 0 l,.agg [.val (.int .i64 ax),.val (.int .i64 ay)],.agg [.val (.int .i64 bx),.val (.int .i64 b')],.val (.int .i64 lv),.ptr 1 1 0 0],[⟨es,8,49,true,true,nl,none,false⟩,⟨[.agg [.Db f 3 L,.val (.int .i64 a)]],2,103,true,true,false,none,false⟩]=>
  some (.br (VA n l es a) (.leaf (.sl 0 (es.length+1) 0 (es.length+1),[xT false (Un ax ay bx b' lv L (es,f,a,nl)).1,Ie (Un ax ay bx b' lv L (es,f,a,nl)).2.1 L (Un ax ay bx b' lv L (es,f,a,nl)).2.2.1])) .no)
 |_,_=>none
theorem eWay':Hx.Df Try.prog 77:=(DP te (aco (n:=0) (l:=0) (nl:=false) (es:=[]) 0 0 0 0 0 (f:=false) (L:=[]) (a:=0) (by rfl))).1
theorem oWay'(args:List PV)(H:List Row)(d:DT (PV×List Row))(q:PV)(H':List Row)(h:cWay' args H=some d)(hd:d.run=some (q,H')):Fh Try.prog 0 77 args H q H':=by
 unfold cWay' at h;split at h
 ·rename_i n l ax ay bx b' lv es nl f L a;cases h;obtain⟨hc,he⟩:=Gc hd;cases he;exact(DP te (aco ax ay bx b' lv hc)).2
 ·cases h
def cStp':List PV->Option PV | [.val (.int .i64 i),.val (.int .i64 j)]=>some (FL (W (55+W (80*i))) (W (65+W (70*j)))) |_=>none
theorem oStp'(args:List PV)(r:PV)(h:cStp' args=some r):Hx.Df Try.prog 78/\Ds Try.prog 78 args r:=by
 unfold cStp' at h;split at h
 ·rename_i i j;cases h;exact Cz IM (n:=60) (by kernel_rfl)
 ·cases h
noncomputable def xU:C9:=(((((M7.Ff 77 cWay').EM 78 cStp').GH 56 4 [(4,49,8)])))
theorem acp:C4 Try.prog xU.env:=(((((IM.Ff eWay' oWay').EM oStp').GH 56 4 [(4,49,8)])))
end Go.Hr
