import Derived.Test.YtggmhenfkidjbaaPart8
import Derived.Test.YtggmhenfkidjbaaPart5
noncomputable section
namespace Go.Hr
abbrev Rc:=T3×Ky
def D3:Rc->List Rc->Rc
 |b,[]=>b
 |b,x::N=>D3 (bif decide (Ua x.2 b.2) then x else b) N
theorem G5:∀{N:List Rc} {b:Rc},D3 b N∈b::N/\∀ x∈b::N,PF (D3 b N).2 x.2
 | [],b=>⟨by simp[D3],fun x hx=>by rw[AI.1 hx];exact IG⟩
 |y::N,b=>by
  rw[D3];by_cases h:Ua y.2 b.2
  ·rw[Ac h,Aj];obtain⟨h1,h2⟩:=G5 (N:=N) (b:=y);refine⟨AU _ h1,fun x hx=>?_⟩;rcases AK.1 hx with rfl |hx
   ·exact Fe (h2 y (AJ ..)) (iS h)
   ·exact h2 x hx
  ·rw[Ai h,Ar];obtain⟨h1,h2⟩:=G5 (N:=N) (b:=b);refine⟨?_,fun x hx=>?_⟩
   ·rcases AK.1 h1 with h1 |h1
    ·rw[h1];exact AJ ..
    ·exact AU _ (AU _ h1)
   ·rcases AK.1 hx with rfl |hx
    ·exact h2 _ (AJ ..)
    ·rcases AK.1 hx with rfl |hx
     ·exact Fe (h2 b (AJ ..)) h
     ·exact h2 x (AU _ hx)
abbrev Gt(r:T3)(N:List Rc):List Rc:=N.filter fun x=>!decide (x.1=r)
def Je(G:List Eg):Nat->List Rc->List Rc->List Rc
 |0,D,_=>D
 |_+1,D,[]=>D
 |k+1,D,n::N=>bif decide ((D3 n N).1∈D.map (·.1)) then Je G k D (Gt (D3 n N).1 (n::N)) else Je G k (D++[D3 n N]) (Gt (D3 n N).1 (n::N)++HN G (D++[D3 n N]) (D3 n N))
structure Kf(G:List Eg)(s:T3)(S:List T3)(K:Int)(D N:List Rc):Prop extends Dij G s D N where
 kD:∀ x∈D,x.1∈S
 kN:∀ x∈N,x.1∈S
 bD:∀ x∈D,x.2.2.length+1<=D.length/\x.2.1<=K*D.length
 bN:∀ x∈N,x.2.2.length<=D.length/\x.2.1<=K*D.length
structure jf(G:List Eg)(S:List T3)(K:Int):Prop where
 k0:0<=K
 nn:∀ e∈G,0<=e.2.2.2/\e.2.2.2<=K
 to:∀ e∈G,e.2.1∈S
theorem jf.Vh{G:List Eg}{S:List T3}{K:Int}(h:jf G S K):NonNeg G:=fun e he=>(h.nn e he).1
def mu(G:List Eg)(S:List T3)(D N:List Rc):Nat:=(S.length-D.length)*(G.length+1)+N.length
theorem jg{G:List Eg}{D:List Rc}{r:Rc}:(HN G D r).length<=G.length:=List.length_filterMap_le ..
theorem QN{G:List Eg}{D:List Rc}{r x:Rc}(h:x∈HN G D r):∃ e∈G,e.1=r.1/\x=(e.2.1,JC r.2 e.2.2.1 e.2.2.2):=by
 obtain⟨e,he,hx⟩:=BZ.1 h;split at hx
 ·rename_i hc;cases hx;exact⟨e,he,hc.1,rfl⟩
 ·cases hx
theorem XD{r:Rc}{N:List Rc}(h:r∈N):(Gt r.1 N).length<N.length:=by
 refine Nat.lt_of_le_of_ne (List.length_filter_le ..) fun e=>?_
 have:=List.length_filter_eq_length_iff.1 e r h;simp at this
theorem Kf.cap{G:List Eg}{s:T3}{S:List T3}{K:Int}{D N:List Rc}(h:Kf G s S K D N):D.length<=S.length:=by
 have:=List.Nodup.length_le_of_subset h.nd (l₂:=S) fun x hx=>by
  obtain⟨y,hy,rfl⟩:=AX.1 hx;exact h.kD y hy
 simpa using this
theorem Kf.known{G:List Eg}{s:T3}{S:List T3}{K:Int}{D N:List Rc}(h:Kf G s S K D N){r:Rc}(hr:r∈N)(hk:r.1∈D.map (·.1)):
  Kf G s S K D (Gt r.1 N)/\mu G S D (Gt r.1 N)<mu G S D N:=
 ⟨{ h.toDij.known hk with kD:=h.kD,kN:=fun x hx=>h.kN x (Bj.1 hx).1,bD:=h.bD,bN:=fun x hx=>h.bN x (Bj.1 hx).1 },Nat.add_lt_add_left (XD hr) _⟩
theorem Kf.take{G:List Eg}{s:T3}{S:List T3}{K:Int}{D N:List Rc}(hG:jf G S K)(h:Kf G s S K D N){r:Rc}(hr:r∈N)(hl:∀ x∈N,PF r.2 x.2)(hk:r.1∉D.map (·.1)):
  Kf G s S K (D++[r]) (Gt r.1 N++HN G (D++[r]) r)/\mu G S (D++[r]) (Gt r.1 N++HN G (D++[r]) r)<mu G S D N:=by
 have hb:=h.bN r hr;have hlen:(D++[r]).length=D.length+1:=by simp
 have hnew:Kf G s S K (D++[r]) (Gt r.1 N++HN G (D++[r]) r):=
  { h.toDij.take hG.Vh hr hl hk with
   kD:=fun x hx=>by
    rcases A3.1 hx with hx |hx
    ·exact h.kD x hx
    ·rw[AI.1 hx];exact h.kN r hr
   kN:=fun x hx=>by
    rcases A3.1 hx with hx |hx
    ·exact h.kN x (Bj.1 hx).1
    ·obtain⟨e,he,-,rfl⟩:=QN hx;exact hG.to e he
   bD:=fun x hx=>by
    have hK:K*(D++[r]).length=K*D.length+K:=by rw[hlen,Int.natCast_add,Int.mul_add];omega
    have:=hG.k0;rcases A3.1 hx with hx |hx
    ·have:=h.bD x hx;omega
    ·rw[AI.1 hx];omega
   bN:=fun x hx=>by
    have hK:K*(D++[r]).length=K*D.length+K:=by rw[hlen,Int.natCast_add,Int.mul_add];omega
    have:=hG.k0;rcases A3.1 hx with hx |hx
    ·have:=h.bN x (Bj.1 hx).1;omega
    ·obtain⟨e,he,-,rfl⟩:=QN hx;have:=hG.nn e he;simp only[Ap,As,AB]at hK ⊢;omega }
 refine⟨hnew,?_⟩;have hc:=hnew.cap;rw[hlen]at hc;have h1:=XD hr;have h2:=jg (G:=G) (D:=D++[r]) (r:=r);unfold mu;rw[hlen,Ap];have e1:S.length-D.length=(S.length-(D.length+1))+1:=by omega
 rw[e1,Bb];omega
theorem SG{G:List Eg}{s:T3}{S:List T3}{K:Int}(hG:jf G S K):∀{k:Nat} {D N:List Rc},Kf G s S K D N->mu G S D N<k->Kf G s S K (Je G k D N) []
 |0,_,_,_,hk=>by omega
 |k+1,D,[],h,_=>h
 |k+1,D,n::N,h,hk=>by
  obtain⟨h1,h2⟩:=G5 (N:=N) (b:=n);rw[Je];by_cases hm:(D3 n N).1∈D.map (·.1)
  ·rw[Ac hm,Aj];obtain⟨g1,g2⟩:=h.known h1 hm;exact SG hG g1 (by omega)
  ·rw[Ai hm,Ar];obtain⟨g1,g2⟩:=h.take hG h1 h2 hm;exact SG hG g1 (by omega)
theorem JE{G:List Eg}{s:T3}{S:List T3}{K:Int}(hG:jf G S K):∀{k j:Nat} {D N:List Rc},Kf G s S K D N->mu G S D N<k->mu G S D N<j->Je G k D N=Je G j D N
 |0,_,_,_,_,hk,_=>by omega
 |_+1,0,_,_,_,_,hj=>by omega
 |k+1,j+1,D,[],_,_,_=>rfl
 |k+1,j+1,D,n::N,h,hk,hj=>by
  obtain⟨h1,h2⟩:=G5 (N:=N) (b:=n);rw[Je,Je];by_cases hm:(D3 n N).1∈D.map (·.1)
  ·rw[Ac hm,Aj,Aj];obtain⟨g1,g2⟩:=h.known h1 hm;exact JE hG g1 (by omega) (by omega)
  ·rw[Ai hm,Ar,Ar];obtain⟨g1,g2⟩:=h.take hG h1 h2 hm;exact JE hG g1 (by omega) (by omega)
theorem Kf.init{G:List Eg}{s:T3}{S:List T3}{K:Int}(hs:s∈S):Kf G s S K [] [(s,(0,[]))]:=
 { Dij.init with
  kD:=fun x hx=>by cases hx
  kN:=fun x hx=>by rw[AI.1 hx];exact hs
  bD:=fun x hx=>by cases hx
  bN:=fun x hx=>by rw[AI.1 hx];simp }
def XE(G:List Eg)(S:List T3)(s:T3):List Rc:=Je G (mu G S [] [(s,(0,[]))]+1) [] [(s,(0,[]))]
theorem Hm{G:List Eg}{s:T3}{S:List T3}{K:Int}(hG:jf G S K)(hs:s∈S):Kf G s S K (XE G S s) []:=SG hG (Kf.init hs) (by omega)
theorem Lp{G:List Eg}{s v:T3}{S:List T3}{K:Int}{k:Ky}(hG:jf G S K)(hs:s∈S):(v,k)∈XE G S s ↔ Kv G s v k:=by
 have h:=Hm hG hs;constructor
 ·exact fun hx=>h.wD _ hx
 ·intro hm;obtain⟨x,hx,rfl⟩:=AX.1 (h.done hG.Vh hm.1);rw[<- (h.wD x hx).uniq hm];exact hx
theorem aaq{G:List Eg}{s:T3}{S:List T3}{K:Int}(hG:jf G S K)(hs:s∈S):vb G s where
 ex v k hw:=by
  obtain⟨x,hx,rfl⟩:=AX.1 ((Hm hG hs).done hG.Vh hw);exact⟨x.2,(Hm hG hs).wD x hx⟩
 bd:=⟨S.length,fun v k hm=>by
  have h:=Hm hG hs;have:=h.bD _ ((Lp hG hs).2 hm);have:=h.cap;simp only at *;omega⟩
theorem vr{G:List Eg}{s:T3}{S:List T3}{K:Int}{f:OF}(hG:jf G S K)(hs:s∈S)(h:BF G s f):bw G s f<=S.length:=by
 have hF:=aaq hG hs;have he:OK G S.length f=Gw G s:=by
  funext v
  have hwf:=U9 (n:=S.length) h.wf;cases hm:Gw G s v with
  |some k=>
   have hk:=EK.1 hm;have hb:=(Hm hG hs).bD _ ((Lp hG hs).2 hk);have hc:=(Hm hG hs).cap;simp only at hb;obtain⟨k',h1,h2⟩:=Ug hk.1 (n:=S.length) h.st (by omega);rw[h1,SB h2 (hk.2 _ (hwf _ _ h1))]
  |none=>
   cases hs':OK G S.length f v with
   |none=>rfl
   |some k=>
    obtain⟨k',hk'⟩:=hF.ex _ _ (hwf _ _ hs');rw[EK.2 hk']at hm;cases hm
 have h1:∃ n,OK G n f=Gw G s:=⟨_,he⟩;unfold bw;rw[dif_pos h1];have e1:=(G4 h1).choose_spec;generalize (G4 h1).choose=a at *;by_cases hc:a<=S.length
 ·exact hc
 ·exact absurd he (e1.2 _ (by omega))
end Go.Hr
namespace Go.Hr
open Go.Hx Go.Hg Go.Hn Go.Proofs
structure ZJ(ws l:List PV):Prop where
 nd:(l.map DA).Nodup
 len:l.length<=10000
 mem:∀ e∈ws,(wL e).length≠0->DA (eF e)∈l.map DA/\DA (eL e)∈l.map DA
 wl:∀ e∈ws,(wL e).length<=1000
 wsl:ws.length<=100
theorem qx{ws l:List PV}{e:PV}(h:ZJ ws l)(he:e∈ws)(h0:(wL e).length≠0):∀ x∈eE e,(0<=x.2.2.2/\x.2.2.2<=3037000499000)/\x.2.1∈l.map DA:=fun x hx=>by
 have h1:=GL (h.wl e he);have h2:=h.mem e he h0;rcases AK.1 hx with rfl |hx
 ·exact⟨h1,h2.2⟩
 ·rw[AI.1 hx];exact⟨h1,h2.1⟩
theorem XF{ws l:List PV}(fl:Bool)(h:ZJ ws l):∀ x∈gE fl ws,(0<=x.2.2.2/\x.2.2.2<=3037000499000)/\x.2.1∈l.map DA:=fun x hx=>by
 obtain⟨e,he,hx⟩:=List.mem_flatMap.1 hx;cases hs:Dc fl e with
 |true=>rw[hs,Aj]at hx;cases hx
 |false=>
  rw[hs,Ar]at hx;refine qx h he ?_ x hx;simp only[Dc,BK,AR]at hs;omega
theorem ZJ.gok{ws l:List PV}(fl:Bool)(h:ZJ ws l):jf (gE fl ws) (l.map DA) 3037000499000:=⟨by decide,fun e he=>(XF fl h e he).1,fun e he=>(XF fl h e he).2⟩
theorem jh(fl:Bool):∀ ws:List PV,(gE fl ws).length<=2*ws.length
 | []=>by simp[gE]
 |e::ws=>by
  have:=jh fl ws;show((bif Dc fl e then [] else eE e)++gE fl ws).length<=_
  rw[Ap,As];cases Dc fl e with
  |true=>rw[Aj,AB];omega
  |false=>rw[Ar];show 2+_<=_;omega
structure qy(ws l es:List PV)(i:Int):Prop where
 i0:0<=i
 i1:i<=(ws.length:Int)
 Ec:ZJ ws l
 enc:es=Ff l (fO es)
 sup:Mb l (fO es)
 bd:Yg (fO es) (800000000000000000+i*6074000998000) (50000+2*i.toNat)
def dB(p:Prop):Bool:=@decide p (Classical.propDecidable p)
theorem Dy{p:Prop}:dB p=true ↔ p:=by unfold dB;exact @B5 _ (Classical.propDecidable _)
def ji:LS->Bool
 |([.l _ ws,.b _,.n n,.n k,.l _ l,.b _,.i i],[.i _,.i _,.i _,.l _ es])=>decide (n=es.length)&&decide (k=es.length)&&dB (qy ws l es i)
 |_=>false
abbrev xA2(f:Bool)(ws:List PV)(fl:Bool)(n k:Nat)(g:Bool)(l:List PV)(ag:Bool)(x y z:Int)(nl:Bool)(es:List PV):PX×List PV×List Row:=
 (.exit 4,tm 138 [(0,.C9 f 49 ws),(2,bv fl),(7,.sl 1 n 0 k),(8,.C9 g 30 l),(10,bv ag)],(Kc.put (ZF f ws fl n k g l ag 0 x y z nl es)).2)
def vt:LS->DT (PX×List PV×List Row)
 |([.l f ws,.b fl,.n n,.n k,.l g l,.b ag,.i i],[.i x,.i y,.i z,.l nl es])=>.leaf (xA2 f ws fl n k g l (ag||again (gE fl (ws.drop i.toNat)) (fO es)) x y z nl (Ff l (HY (gE fl (ws.drop i.toNat)) (fO es))))
 |_=>.no
def nN:LS->Nat
 |([.l _ ws,.b _,.n _,.n _,.l _ _,.b _,.i i],_)=>((ws.length:Int)-i).toNat
 |_=>0
theorem qy.next{ws l es:List PV}{i:Int}(h:qy ws l es i){f:OF}(hi:i<(ws.length:Int))(hs:Mb l f)(hb:Yg f (800000000000000000+i*6074000998000+6074000998000) (50000+2*i.toNat+2)):qy ws l (Ff l f) (i+1) where
 i0:=by have:=h.i0;omega
 i1:=by omega
 Ec:=h.Ec
 enc:=by rw[ON h.Ec.nd hs]
 sup:=by rw[ON h.Ec.nd hs];exact hs
 bd:=by rw[ON h.Ec.nd hs];exact hb.mono (by omega) (by have:=h.i0;omega)
theorem qy.two{ws l es:List PV}{i:Int}(h:qy ws l es i)(hi:i<(ws.length:Int))(h0:(wL (ws.getD i.toNat .any)).length≠0):
  qy ws l (Ff l (HY (eE (ws.getD i.toNat .any)) (fO es))) (i+1)/\fO (Ff l (HY (eE (ws.getD i.toNat .any)) (fO es)))=HY (eE (ws.getD i.toNat .any)) (fO es):=by
 have hm:ws.getD i.toNat .any∈ws:=Jd h.i0 hi;have he:=qx h.Ec hm h0;have hs:Mb l (HY (eE (ws.getD i.toNat .any)) (fO es)):=h.sup.HY fun x hx=>(he x hx).2
 have hb:Yg (HY (eE (ws.getD i.toNat .any)) (fO es)) _ _:=h.bd.HY (by decide) fun x hx=>(he x hx).1
 exact⟨h.next hi hs (hb.mono (by simp only[eE,As,AB];omega) (by simp only[eE,As,AB];omega)),ON h.Ec.nd hs⟩
theorem sA2:∀ s r,ji s=true->(vt s).run=some r->r.1≠.normal/\(Db Try.prog R45 60 34 (Dg Try.f34 13) [0,2,7,8,10,11] [0,2,7,8,10] (Kc.put s).1 (Kc.put s).2=some r \/
   ∃ s',Db Try.prog R45 60 34 (Dg Try.f34 13) [0,2,7,8,10,11] [0,2,7,8,10] (Kc.put s).1 (Kc.put s).2=some (.normal,Kc.put s')/\ji s'=true/\nN s'<nN s/\(vt s').run=some r):=by
 intro t r hp hr;unfold ji at hp;split at hp
 ·rename_i f ws fl n k g l ag i x y z nl es;simp only[Aa,Ab,Dy]at hp;obtain⟨⟨rfl,rfl⟩,h⟩:=hp;have hr':=(Ah hr).symm;refine⟨by rw[hr'];simp,?_⟩;have hi0:=h.i0;have hi1:=h.i1;have hwsl:=h.Ec.wsl;rw[show Kc.put ([.l f ws,.b fl,.n es.length,.n es.length,.l g l,.b ag,.i i],[.i x,.i y,.i z,.l nl es])=Kc.put (ZF f ws fl es.length es.length g l ag i x y z nl es) from rfl,qA2];by_cases hi:i<(ws.length:Int)
  ·rw[Ac hi,DW hi0 hi,Dx (n:=i+1) (by omega) (by omega)];rw[Ds hi0 hi]at hr';have hm:ws.getD i.toNat .any∈ws:=Jd hi0 hi;have skip:Dc fl (ws.getD i.toNat .any)=true->∃ s',(some (PX.normal,Kc.put (ZF f ws fl es.length es.length g l ag (i+1) x y z nl es)):Option (PX×List PV×List Row))=some (.normal,Kc.put s')/\ji s'=true/\nN s'<nN (ZF f ws fl es.length es.length g l ag i x y z nl es)/\(vt s').run=some r:=fun hsh=>by
    refine⟨ZF f ws fl es.length es.length g l ag (i+1) x y z nl es,rfl,?_,by simp only[nN];omega,?_⟩
    ·have h':=h.next (f:=fO es) hi h.sup (h.bd.mono (by omega) (by omega))
     rw[<- h.enc]at h';simp only[ji,Aa,Ab,Dy];exact⟨⟨trivial,trivial⟩,h'⟩
    ·rw[hr'];have hg:gE fl (ws.getD i.toNat .any::ws.drop (i+1).toNat)=gE fl (ws.drop (i+1).toNat):=by
      show(bif Dc fl (ws.getD i.toNat .any) then [] else _)++_=_
      rw[hsh];rfl
     simp only[vt,hg];rfl
   have go:Dc fl (ws.getD i.toNat .any)=false->∃ s',nL f ws fl es.length es.length g l ag i x y z nl es (ws.getD i.toNat .any)=some (.normal,Kc.put s')/\ji s'=true/\nN s'<nN (ZF f ws fl es.length es.length g l ag i x y z nl es)/\(vt s').run=some r:=fun hsh=>by
    have h0:(wL (ws.getD i.toNat .any)).length≠0:=by
     have h2:=hsh;simp only[Dc,BK,AR]at h2;omega
    have hwl:=h.Ec.wl _ hm;obtain⟨m1,m2⟩:=h.Ec.mem _ hm h0;obtain⟨a1,a2,-⟩:=bG m1;obtain⟨b1,b2,-⟩:=bG m2;have hel:es.length=l.length:=by rw[h.enc];exact Fg
    have hp3:qw (eb f ws fl es.length es.length g l ag i (lx l (ws.getD i.toNat .any)) (ly l (ws.getD i.toNat .any)) 0 x y z nl es (wI (ws.getD i.toNat .any)) false (wL (ws.getD i.toNat .any)) (Mw (ws.getD i.toNat .any)) (cS (ws.getD i.toNat .any) 3) (cS (ws.getD i.toNat .any) 4) (Jv (ws.getD i.toNat .any)) (cI (ws.getD i.toNat .any) 6) (cI (ws.getD i.toNat .any) 7) (gX (eF (ws.getD i.toNat .any))) (gY (eF (ws.getD i.toNat .any))) (gL (eF (ws.getD i.toNat .any))) (gX (eL (ws.getD i.toNat .any))) (gY (eL (ws.getD i.toNat .any))) (gL (eL (ws.getD i.toNat .any))))=true:=by
     have hbd:(es.all (Xz (900000000000000000+(0:Int)*3037000499000) (100000+(0:Int).toNat)))=true:=by
      rw[h.enc];exact vq (by decide) (h.bd.mono (by omega) (by omega))
     simp only[qw,Aa,Ab];exact⟨⟨⟨⟨⟨⟨⟨⟨⟨trivial,trivial⟩,a1⟩,by rw[hel];exact a2⟩,b1⟩,by rw[hel];exact b2⟩,by decide⟩,by decide⟩,hwl⟩,hbd⟩
    have htwo:=je (l:=l) (f:=fO es) (ag:=ag) (e:=ws.getD i.toNat .any) h.Ec.nd m1 m2;rw[<- h.enc]at htwo;obtain⟨g1,g2⟩:=h.two hi h0;refine⟨ZF f ws fl es.length es.length g l (ag||again (eE (ws.getD i.toNat .any)) (fO es)) (i+1) x y z nl (Ff l (HY (eE (ws.getD i.toNat .any)) (fO es))),?_,?_,by simp only[nN];omega,?_⟩
    ·unfold nL;rw[Ll h0 (by omega),Ac h.Ec.len,hp3,show(2-0:Int).toNat=2 from rfl,htwo,Dx (n:=i+1) (by omega) (by omega)];rfl
    ·simp only[ji,Aa,Ab,Dy];exact⟨⟨by rw[Fg];exact hel,by rw[Fg];exact hel⟩,g1⟩
    ·rw[hr'];have hg:gE fl (ws.getD i.toNat .any::ws.drop (i+1).toNat)=eE (ws.getD i.toNat .any)++gE fl (ws.drop (i+1).toNat):=by
      show(bif Dc fl (ws.getD i.toNat .any) then [] else _)++_=_
      rw[hsh];rfl
     simp only[vt,hg,g2,Ui,bH,Bool.or_assoc];rfl
   simp only[Aj];right
   cases c1:(((wL (ws.getD i.toNat .any)).length:Int)==0) with
   |true=>rw[Aj];exact skip (by unfold Dc;rw[c1];rfl)
   |false=>
    rw[Ar];cases c2:fl with
    |false=>rw[c2]at go;exact go (by unfold Dc;rw[c1];rfl)
    |true=>
     rw[c2]at go skip;rw[Aj];cases c3:Jv (ws.getD i.toNat .any) with
     |true=>rw[Aj];exact skip (by unfold Dc;rw[c1,c3];rfl)
     |false=>rw[Ar];exact go (by unfold Dc;rw[c1,c3];rfl)
  ·rw[Ai hi];rw[AC (by omega)]at hr';refine .inl ?_;have e1:Ff l (HY (gE fl []) (fO es))=es:=h.enc.symm;have e2:(ag||again (gE fl []) (fO es))=ag:=CL _;rw[hr',e1,e2];rfl
 ·cases hp
def R46:CY:=R45.Dl 34 13 [0,2,7,8,10,11] [false,false] Kc ji vt
theorem aas:CG Try.prog R46.env:=
 aap.Dl (n:=60) Try.func34 (show Try.f34.body=some (DY Try.f34) by kernel_rfl) (show(loops (DY Try.f34)).filter (fun b=>Ew b==13)=[Dg Try.f34 13] by kernel_rfl) [0,2,7,8,10,11] [0,2,7,8,10] [false,false] Kc nN sA2
def OO:Hx.S1:=⟨138,[(0,.C9 49),(2,.bool),(7,.sl 1),(8,.C9 30),(10,.bool)],[.one 30 3 aS,.many 83 6]⟩
abbrev nO(f:Bool)(ws:List PV)(fl:Bool)(n k:Nat)(g:Bool)(l:List PV)(ag:Bool)(x y z:Int)(nl:Bool)(es:List PV):LS:=([.l f ws,.b fl,.n n,.n k,.l g l,.b ag],[.i x,.i y,.i z,.l nl es])
abbrev xA4(n k:Nat)(x y z:Int)(nl:Bool)(es:List PV):PX×List PV×List Row:=(.exit 2,tm 138 [(7,.sl 1 n 0 k)],(OO.put (nO false [] false 0 0 false [] false x y z nl es)).2)
theorem qA4(f:Bool)(ws:List PV)(fl:Bool)(n k:Nat)(g:Bool)(l:List PV)(ag:Bool)(x y z:Int)(nl:Bool)(es:List PV):
 Db Try.prog R46 60 34 (Dg Try.f34 10) [0,2,7,8,10] [7] (OO.put (nO f ws fl n k g l ag x y z nl es)).1 (OO.put (nO f ws fl n k g l ag x y z nl es)).2 =
 bif ag then bif ji (ZF f ws fl n k g l false 0 x y z nl es) then some (.normal,OO.put (nO f ws fl n k g l (false||again (gE fl (ws.drop (0:Int).toNat)) (fO es)) x y z nl (Ff l (HY (gE fl (ws.drop (0:Int).toNat)) (fO es))))) else none
 else some (xA4 n k x y z nl es):=by kernel_rfl
structure nQ(fl:Bool)(ws l es:List PV)(s:T3):Prop where
 Ec:ZJ ws l
 two:l.length<=200
 enc:es=Ff l (fO es)
 sup:Mb l (fO es)
 bf:BF (gE fl ws) s (fO es)
 mem:s∈l.map DA
 bd:Yg (fO es) (((l.length-bw (gE fl ws) s (fO es):Nat):Int)*607400099800000) (200*(l.length-bw (gE fl ws) s (fO es)))
def nR:LS->Bool
 |([.l _ ws,.b fl,.n n,.n k,.l _ l,.b ag],[.i x,.i y,.i z,.l _ es])=>decide (n=es.length)&&decide (k=es.length)&&bif ag then dB (nQ fl ws l es (x,y,z)) else dB (es=Ff l (Gw (gE fl ws) (x,y,z)))
 |_=>false
def fA4:LS->DT (PX×List PV×List Row)
 |([.l _ ws,.b fl,.n n,.n k,.l _ l,.b _],[.i x,.i y,.i z,.l nl _])=>.leaf (xA4 n k x y z nl (Ff l (Gw (gE fl ws) (x,y,z))))
 |_=>.no
def mA4:LS->Nat
 |([.l _ ws,.b fl,.n _,.n _,.l _ _,.b ag],[.i x,.i y,.i z,.l _ es])=>bif ag then bw (gE fl ws) (x,y,z) (fO es)+1 else 0
 |_=>0
theorem nQ.p13{fl:Bool}{ws l es:List PV}{s:T3}(h:nQ fl ws l es s):qy ws l es 0 where
 i0:=BG _
 i1:=by omega
 Ec:=h.Ec
 enc:=h.enc
 sup:=h.sup
 bd:=h.bd.mono (by
  have:=h.two;have:((l.length-bw (gE fl ws) s (fO es):Nat):Int)<=200:=by omega
  omega) (by have:=h.two;omega)
theorem nQ.HY{fl:Bool}{ws l es:List PV}{s:T3}(h:nQ fl ws l es s):Mb l (HY (gE fl ws) (fO es)):=h.sup.HY fun x hx=>(XF fl h.Ec x hx).2
theorem nQ.next{fl:Bool}{ws l es:List PV}{s:T3}(h:nQ fl ws l es s)(ha:again (gE fl ws) (fO es)=true):nQ fl ws l (Ff l (Go.Hr.HY (gE fl ws) (fO es))) s/\bw (gE fl ws) s (fO (Ff l (Go.Hr.HY (gE fl ws) (fO es))))<bw (gE fl ws) s (fO es):=by
 have e1:=ON h.Ec.nd h.HY;have hF:=aaq (h.Ec.gok fl) h.mem;have hr:=vc hF h.bf ha;have hle:bw (gE fl ws) s (fO es)<=l.length:=by have:=vr (h.Ec.gok fl) h.mem h.bf;rwa [AP]at this
 have hgl:=jh fl ws;have hwl:=h.Ec.wsl;refine⟨⟨h.Ec,h.two,by rw[e1],by rw[e1];exact h.HY,by rw[e1];exact h.bf.HY,h.mem,?_⟩,by rw[e1];exact hr⟩;rw[e1];have hb:Yg (Go.Hr.HY (gE fl ws) (fO es)) _ _:=h.bd.HY (K:=3037000499000) (by decide) fun x hx=>(XF fl h.Ec x hx).1
 refine hb.mono ?_ (by omega);generalize bw (gE fl ws) s (Go.Hr.HY (gE fl ws) (fO es))=a at *;generalize bw (gE fl ws) s (fO es)=b at *;have:((gE fl ws).length:Int)<=200:=by omega
 have:((l.length-a:Nat):Int) ≥ ((l.length-b:Nat):Int)+1:=by omega
 omega
theorem sA4:∀ s r,nR s=true->(fA4 s).run=some r->r.1≠.normal/\(Db Try.prog R46 60 34 (Dg Try.f34 10) [0,2,7,8,10] [7] (OO.put s).1 (OO.put s).2=some r \/
   ∃ s',Db Try.prog R46 60 34 (Dg Try.f34 10) [0,2,7,8,10] [7] (OO.put s).1 (OO.put s).2=some (.normal,OO.put s')/\nR s'=true/\mA4 s'<mA4 s/\(fA4 s').run=some r):=by
 intro t r hp hr;unfold nR at hp;split at hp
 ·rename_i f ws fl n k g l ag x y z nl es;simp only[Aa,Ab]at hp;obtain⟨⟨rfl,rfl⟩,h⟩:=hp;have hr':=(Ah hr).symm;refine⟨by rw[hr'];simp,?_⟩;rw[show OO.put ([.l f ws,.b fl,.n es.length,.n es.length,.l g l,.b ag],[.i x,.i y,.i z,.l nl es])=OO.put (nO f ws fl es.length es.length g l ag x y z nl es) from rfl,qA4];cases ag with
  |false=>
   rw[Ar,Dy]at h;rw[Ar];exact .inl (by rw[hr',<- h])
  |true=>
   rw[Aj,Dy]at h;have hp2:ji (ZF f ws fl es.length es.length g l false 0 x y z nl es)=true:=by
    simp only[ji,Aa,Ab,Dy];exact⟨⟨trivial,trivial⟩,h.p13⟩
   have hel:es.length=l.length:=by rw[h.enc];exact Fg
   rw[Aj,hp2,Aj,show(0:Int).toNat=0 from rfl,AF,Bt];cases ha:again (gE fl ws) (fO es) with
   |true=>
    obtain⟨g1,g2⟩:=h.next ha
    refine .inr ⟨nO f ws fl es.length es.length g l true x y z nl (Ff l (HY (gE fl ws) (fO es))),rfl,?_,by simp only[mA4,Aj];omega,?_⟩
    ·simp only[nR,Aa,Ab,Aj,Dy];exact⟨⟨by rw[Fg];exact hel,by rw[Fg];exact hel⟩,g1⟩
    ·rw[hr'];rfl
   |false=>
    obtain⟨g1,g2⟩:=Xx ha;have hmin:=Zy h.bf.wf h.bf.st g2;refine .inr ⟨nO f ws fl es.length es.length g l false x y z nl (Ff l (HY (gE fl ws) (fO es))),rfl,?_,by simp only[mA4,Aj,Ar];omega,?_⟩
    ·simp only[nR,Aa,Ab,Ar,Dy];exact⟨⟨by rw[Fg];exact hel,by rw[Fg];exact hel⟩,by rw[g1,hmin]⟩
    ·rw[hr'];rfl
 ·cases hp
def R47:CY:=R46.Dl 34 10 [0,2,7,8,10] [false,false] OO nR fA4
theorem qz:CG Try.prog R47.env:=
 aas.Dl (n:=60) Try.func34 (show Try.f34.body=some (DY Try.f34) by kernel_rfl) (show(loops (DY Try.f34)).filter (fun b=>Ew b==10)=[Dg Try.f34 10] by kernel_rfl) [0,2,7,8,10] [7] [false,false] OO mA4 sA4
abbrev Lj(x y z:Int)(l:List PV):List PV:=[]++(l.drop (0:Int).toNat).map (Xy x y z)
theorem agd(f:Bool)(ws:List PV)(x y z:Int)(fl:Bool):DD Try.prog R47 60 34 [.C9 f 49 ws,DV x y z,bv fl] =
 bif decide (ws.length<=1000)&&Jz ws then bif decide ((Eb ws []).length<=10000) then bif decide (DI x y z 0 (Eb ws [])<0) then some (.val (.slice none 0 0)) else
  bif qp (qo f ws fl 0 0 false (Eb ws []) 0 x y z true []) then
   bif nR (nO f ws fl (Lj x y z (Eb ws [])).length (Lj x y z (Eb ws [])).length false (Eb ws []) true x y z (Lj x y z (Eb ws [])).isEmpty (Lj x y z (Eb ws []))) then
    HM (Ff (Eb ws []) (Gw (gE fl ws) (x,y,z))) (Lj x y z (Eb ws [])).length (some (.C9 false 83 (((Ff (Eb ws []) (Gw (gE fl ws) (x,y,z))).drop 0).take (Lj x y z (Eb ws [])).length)))
   else none else none else none else none:=by kernel_rfl
structure Ho(ws:List PV):Prop where
 Tp:ws.length<=100
 wl:∀ e∈ws,(wL e).length<=1000
theorem Ho.Jz{ws:List PV}(h:Ho ws):Jz ws=true:=by
 unfold Hr.Jz;rw[Ao];intro e he;have:=h.wl e he;exact Ac (by omega)
theorem bJ{es:List PV}{s:PV}(h:(es.map DA).Nodup):((JA es s).map DA).Nodup:=by
 unfold JA;cases hd:decide (DI (gX s) (gY s) (gL s) 0 es<0) with
 |false=>exact h
 |true=>
  rw[Ab,Gr (by omega)]at hd;rw[Aj,Bz,CX];exact⟨h,by simp,fun a ha b hb=>by rw[AV,Bs,AI]at hb;subst hb;exact fun e=>hd (by rw[e]at ha;exact ha)⟩
theorem Vi:∀{ws es:List PV},(es.map DA).Nodup->((Eb ws es).map DA).Nodup
 | [],es,h=>h
 |e::ws,es,h=>by
  show((Eb ws (Jc es e)).map DA).Nodup
  apply Vi
  unfold Jc;cases((wL e).length:Int)==0 with
  |true=>exact h
  |false=>exact bJ (bJ h)
theorem eg{ws:List PV}(h:Ho ws):ZJ ws (Eb ws [])/\(Eb ws []).length<=200:=by
 have hl:=Su ws [];simp only[AB]at hl;have:=h.Tp;exact⟨⟨Vi .nil,by omega,fun e he h0=>⟨Gs.2 ⟨e,he,h0,.inl rfl⟩,Gs.2 ⟨e,he,h0,.inr rfl⟩⟩,h.wl,h.Tp⟩,by omega⟩
def f0(l:List PV)(s:T3):OF:=fun v=>if v∈l.map DA/\v=s then some (0,[]) else none
theorem Vj(x y z:Int)(l:List PV):Lj x y z l=Ff l (f0 l (x,y,z)):=by
 show []++(l.drop 0).map (Xy x y z)=l.map _
 rw[A9,AF];apply Bm
 intro e he;unfold f0;cases hq:VU e x y z with
 |true=>
  rw[Ak ⟨Br he,I3.1 hq⟩];show Vf (gX e) (gY e) (gL e) true [] 0 (VU e x y z)=_
  rw[hq];rfl
 |false=>
  rw[Aq (fun h=>by rw[I3.2 h.2]at hq;cases hq)];show Vf (gX e) (gY e) (gL e) true [] 0 (VU e x y z)=_
  rw[hq];rfl
theorem jk(l:List PV)(s:T3):Mb l (f0 l s):=fun v k hk=>by
 unfold f0 at hk;split at hk
 ·rename_i h;exact h.1
 ·cases hk
theorem bL{l:List PV}{s v:T3}{k:Ky}(h:f0 l s v=some k):v=s/\k=(0,[]):=by
 unfold f0 at h;split at h
 ·rename_i hc;cases h;exact⟨hc.2,rfl⟩
 ·cases h
theorem p10{ws:List PV}(fl:Bool)(h:Ho ws){x y z:Int}(hs:(x,y,z)∈(Eb ws []).map DA):nQ fl ws (Eb ws []) (Lj x y z (Eb ws [])) (x,y,z):=by
 obtain⟨h1,h2⟩:=eg h;have e1:fO (Lj x y z (Eb ws []))=f0 (Eb ws []) (x,y,z):=by rw[Vj];exact ON h1.nd (jk _ _)
 refine⟨h1,h2,by rw[e1];exact Vj x y z _,by rw[e1];exact jk _ _,?_,hs,?_⟩
 ·rw[e1];refine⟨fun v k hk=>?_,(0,[]),?_,IG⟩
  ·obtain⟨rfl,rfl⟩:=bL hk;exact .nil
  ·unfold f0;rw[Ak ⟨hs,rfl⟩]
 ·rw[e1];intro v k hk;obtain⟨rfl,rfl⟩:=bL hk;exact⟨BG _,Int.mul_nonneg (by omega) (by decide),AT _⟩
abbrev KE(ws:List PV)(fl:Bool)(x y z:Int):List PV:=Ff (Eb ws []) (Gw (gE fl ws) (x,y,z))
theorem qA(f:Bool)(ws:List PV)(x y z:Int)(fl:Bool)(h:Ho ws):DD Try.prog R47 60 34 [.C9 f 49 ws,DV x y z,bv fl] =
  bif decide (DI x y z 0 (Eb ws [])<0) then some (.val (.slice none 0 0)) else some (.C9 false 83 (KE ws fl x y z)):=by
 obtain⟨h1,h2⟩:=eg h;have:=h.Tp;rw[agd,Ac (show ws.length<=1000 by omega),h.Jz,Ac h1.len];cases hd:decide (DI x y z 0 (Eb ws [])<0) with
 |true=>rfl
 |false=>
  rw[AQ,Gr (by omega),C7]at hd;have hp1:qp (qo f ws fl 0 0 false (Eb ws []) 0 x y z true [])=true:=by
   simp only[qp,Aa,Ab,Ay];exact⟨⟨⟨⟨⟨⟨rfl,rfl⟩,by omega⟩,by omega⟩,by simp⟩,h1.len⟩,rfl⟩
  have hp4:nR (nO f ws fl (Lj x y z (Eb ws [])).length (Lj x y z (Eb ws [])).length false (Eb ws []) true x y z (Lj x y z (Eb ws [])).isEmpty (Lj x y z (Eb ws [])))=true:=by
   simp only[nR,Aa,Ab,Aj,Dy];exact⟨⟨trivial,trivial⟩,p10 fl h hd⟩
  have e0:(Lj x y z (Eb ws [])).length=(Eb ws []).length:=by rw[Vj];exact Fg
  have e1:(KE ws fl x y z).length=(Eb ws []).length:=Fg;rw[hp1,hp4,e0,DJ e1,AF,A7 (Nat.le_of_eq e1)];rfl
theorem nS{α:Type}{b c:Bool}{x y r:α}(h:(DT.br b (.br c (.leaf x) (.leaf y)) .no).run=some r):b=true/\r=bif c then x else y:=by
 cases b with
 |true=>refine⟨rfl,?_⟩;cases c <;> exact(Ah h).symm
 |false=>cases h
def nT:List PV->Option (DT PV)
 | [.C9 _ 49 ws,.agg [.val (.int .i64 x),.val (.int .i64 y),.val (.int .i64 z)],.val (.bool fl)]=>
  some (.br (dB (Ho ws)) (.br (decide (DI x y z 0 (Eb ws [])<0)) (.leaf (.val (.slice none 0 0))) (.leaf (.C9 false 83 (KE ws fl x y z)))) .no)
 |_=>none
theorem ZK:Ho []:=⟨by simp,fun e h=>by cases h⟩
theorem aau:Hx.Dd Try.prog 34:=(Cy qz (n:=60) ((qA false [] 0 0 0 false ZK).trans (by rfl))).1
theorem aav(args:List PV)(d:DT PV)(r:PV)(h:nT args=some d)(hr:d.run=some r):Dr Try.prog 34 args r:=by
 unfold nT at h;split at h
 ·rename_i f ws x y z fl;cases h;obtain⟨h1,rfl⟩:=nS hr;refine(Cy qz (n:=60) ((qA f ws x y z fl (Dy.1 h1)).trans ?_)).2;cases decide (DI x y z 0 (Eb ws [])<0) <;> rfl
 ·cases h
abbrev aC:X1:=.agg [Dk,Dk,Dk,.C9 3,Dk]
abbrev fnC:X1:=.fn 59 [] []
def Yh:S1:=⟨31,[(0,.sl 0),(1,fnC),(4,.ptr 1 1 0 0),(6,.ptr 2 1 0 0),(9,.sl 0),(10,Dk),(11,Dk)],[.many 78 5,.one 78 5 aC,.one 78 5 aC]⟩
abbrev lN(n k n2 k2:Nat)(len i:Int)(nl:Bool)(es:List PV)(a0 a1 a2:Int)(fa:Bool)(pa:List PV)(ac b0 b1 b2:Int)(fb:Bool)(pb:List PV)(bc:Int):LS:=
 ([.n n,.n k,.n n2,.n k2,.i len,.i i],[.l nl es,.i a0,.i a1,.i a2,.l fa pa,.i ac,.i b0,.i b1,.i b2,.l fb pb,.i bc])
abbrev HG(e:PV):PV:=Hv (gX e) (gY e) (gL e) false (rP e) (rC e)
def xG(e b:PV):Bool:=decide (Ve (rC e) (rP e) (rC b) (rP b)<0)
def eh:Bool->PV->List PV->PV
 |_,b,[]=>b
 |first,b,e::es=>eh false (bif first then HG e else bif xG e b then HG e else b) es
abbrev xN(n k:Nat)(nl:Bool)(es:List PV)(a0 a1 a2:Int)(fa:Bool)(pa:List PV)(ac:Int)(b:PV):PX×List PV×List Row:=
 (.exit 0,tm 31 [(0,.sl 0 n 0 k),(4,.ptr 1 1 0 0),(6,.ptr 2 1 0 0)],[rN 78 5 nl es,r1 78 5 (Hv a0 a1 a2 fa pa ac),r1 78 5 b])
theorem qN(n k n2 k2:Nat)(len i:Int)(nl:Bool)(es:List PV)(a0 a1 a2:Int)(fa:Bool)(pa:List PV)(ac b0 b1 b2:Int)(fb:Bool)(pb:List PV)(bc:Int):
 Db Try.prog R42 60 58 (Dg Try.f58 3) [0,1,4,6,9,10,11] [0,4,6] (Yh.put (lN n k n2 k2 len i nl es a0 a1 a2 fa pa ac b0 b1 b2 fb pb bc)).1 (Yh.put (lN n k n2 k2 len i nl es a0 a1 a2 fa pa ac b0 b1 b2 fb pb bc)).2 =
 bif decide (i<len) then Sa es n2 k2 i (HM es n2 (bif i==0 then some (.normal,Yh.put (lN n k n2 k2 len (W (i+1)) nl es a0 a1 a2 fa pa ac (gX (rE es i)) (gY (rE es i)) (gL (rE es i)) false (rP (rE es i)) (rC (rE es i)))) else
  bif decide ((rP (rE es i)).length<=1000000) then bif decide (Ve (rC (rE es i)) (rP (rE es i)) bc pb<0) then some (.normal,Yh.put (lN n k n2 k2 len (W (i+1)) nl es a0 a1 a2 fa pa ac (gX (rE es i)) (gY (rE es i)) (gL (rE es i)) false (rP (rE es i)) (rC (rE es i))))
   else some (.normal,Yh.put (lN n k n2 k2 len (W (i+1)) nl es a0 a1 a2 fa pa ac b0 b1 b2 fb pb bc)) else none)) else some (xN n k nl es a0 a1 a2 fa pa ac (Hv b0 b1 b2 fb pb bc)):=by kernel_rfl
def Kg(e:PV):Bool:=decide ((rP e).length<=1000000)
def pN:LS->Bool
 |([.n n,.n k,.n n2,.n k2,.i len,.i i],[.l _ es,.i _,.i _,.i _,.l _ _,.i _,.i _,.i _,.i _,.l _ _,.i _])=>
  decide (n=es.length)&&decide (n2=es.length)&&decide (k2=k)&&decide (k<=es.length)&&decide (len=(k:Int))&&decide (0<=i)&&decide (i<=len)&&decide (k<=1000000)&&(es.take k).all Kg
 |_=>false
def fN:LS->DT (PX×List PV×List Row)
 |([.n n,.n k,.n _,.n _,.i _,.i i],[.l nl es,.i a0,.i a1,.i a2,.l fa pa,.i ac,.i b0,.i b1,.i b2,.l fb pb,.i bc])=>.leaf (xN n k nl es a0 a1 a2 fa pa ac (eh (i==0) (Hv b0 b1 b2 fb pb bc) ((es.take k).drop i.toNat)))
 |_=>.no
def mN:LS->Nat
 |([.n _,.n _,.n _,.n _,.i len,.i i],_)=>(len-i).toNat
 |_=>0
theorem Uj{es:List PV}{k:Nat}{i:Int}(h0:0<=i)(h:i<(k:Int))(_:k<=es.length):(es.take k).getD i.toNat .any=es.getD i.toNat .any:=by
 rw[Av,Av,Au,Ak (by omega)]
theorem sN:∀ s r,pN s=true->(fN s).run=some r->r.1≠.normal/\(Db Try.prog R42 60 58 (Dg Try.f58 3) [0,1,4,6,9,10,11] [0,4,6] (Yh.put s).1 (Yh.put s).2=some r \/
   ∃ s',Db Try.prog R42 60 58 (Dg Try.f58 3) [0,1,4,6,9,10,11] [0,4,6] (Yh.put s).1 (Yh.put s).2=some (.normal,Yh.put s')/\pN s'=true/\mN s'<mN s/\(fN s').run=some r):=by
 intro t r hp hr;unfold pN at hp;split at hp
 ·rename_i n k n2 k2 len i nl es a0 a1 a2 fa pa ac b0 b1 b2 fb pb bc;simp only[Aa,Ab]at hp;obtain⟨⟨⟨⟨⟨⟨⟨⟨rfl,rfl⟩,rfl⟩,h4⟩,rfl⟩,h6⟩,h7⟩,h8⟩,h9⟩:=hp;have hr':=(Ah hr).symm;refine⟨by rw[hr'];simp,?_⟩;rw[show Yh.put ([.n es.length,.n k2,.n es.length,.n k2,.i (k2:Int),.i i],[.l nl es,.i a0,.i a1,.i a2,.l fa pa,.i ac,.i b0,.i b1,.i b2,.l fb pb,.i bc])=Yh.put (lN es.length k2 es.length k2 k2 i nl es a0 a1 a2 fa pa ac b0 b1 b2 fb pb bc) from rfl,qN];have htl:(es.take k2).length=k2:=by rw[Az];omega
  by_cases hi:i<(k2:Int)
  ·have hsh:(rP (rE es i)).length<=1000000:=by
    have hm:(es.take k2).getD i.toNat .any∈es.take k2:=Jd h6 (by rw[htl];exact hi);have:=Ao.1 h9 _ hm;rw[Uj h6 hi h4]at this;rw[QH];exact AN this
   rw[Ac hi,Aj,FC rfl h6 hi,DJ rfl,Ac hsh,Dx (by omega) (by omega)];have hi1:(i+1==0)=false:=by rw[AR];omega
   have hd:(es.take k2).drop i.toNat=rE es i::(es.take k2).drop (i+1).toNat:=by
    have:=Ds (es:=es.take k2) h6 (by rw[htl];exact hi);rw[Uj h6 hi h4]at this;rw[this,QH]
   rw[hd]at hr';have go:∀ e0 e1 e2 ef ep ec,Hv e0 e1 e2 ef ep ec=(bif i==0 then HG (rE es i) else bif xG (rE es i) (Hv b0 b1 b2 fb pb bc) then HG (rE es i) else Hv b0 b1 b2 fb pb bc) ->
     ∃ s',(some (PX.normal,Yh.put (lN es.length k2 es.length k2 k2 (i+1) nl es a0 a1 a2 fa pa ac e0 e1 e2 ef ep ec)):Option (PX×List PV×List Row))=some (.normal,Yh.put s')/\pN s'=true/\mN s'<mN (lN es.length k2 es.length k2 k2 i nl es a0 a1 a2 fa pa ac b0 b1 b2 fb pb bc)/\(fN s').run=some r:=fun e0 e1 e2 ef ep ec hc=>by
    refine⟨lN es.length k2 es.length k2 k2 (i+1) nl es a0 a1 a2 fa pa ac e0 e1 e2 ef ep ec,rfl,by simp only[pN,Aa,Ab];exact⟨⟨⟨⟨⟨⟨⟨⟨trivial,trivial⟩,trivial⟩,h4⟩,trivial⟩,by omega⟩,by omega⟩,h8⟩,h9⟩,by simp only[mN];omega,?_⟩;rw[hr'];simp only[eh,fN,hi1];rw[<- hc];rfl
   right
   cases c1:i==0 with
   |true=>rw[Aj];exact go _ _ _ _ _ _ (by rw[c1];rfl)
   |false=>
    rw[Ar,Aj];cases c2:decide (Ve (rC (rE es i)) (rP (rE es i)) bc pb<0) with
    |true=>rw[Aj];exact go _ _ _ _ _ _ (by rw[c1,show xG (rE es i) (Hv b0 b1 b2 fb pb bc)=true from c2];rfl)
    |false=>rw[Ar];exact go _ _ _ _ _ _ (by rw[c1,show xG (rE es i) (Hv b0 b1 b2 fb pb bc)=false from c2];rfl)
  ·rw[Ai hi];rw[AC (by rw[htl];omega)]at hr';exact .inl (by rw[hr'];rfl)
 ·cases hp
def R49:CY:=R42.Kw Try.prog [false,true,true] 58 3 [0,1,4,6,9,10,11] [false,true,true] Yh pN fN
theorem jl:CG Try.prog R49.env:=
 aag.Kw (n:=60) Try.func58 (show Try.f58.body=some (DY Try.f58) by kernel_rfl) (show(loops (DY Try.f58)).filter (fun b=>Ew b==3)=[Dg Try.f58 3] by kernel_rfl) [false,true,true] [0,1,4,6,9,10,11] [0,4,6] [false,true,true] Yh mN sN
theorem qLs(n k:Nat)(nl:Bool)(es:List PV):Jx Try.prog R49 60 58 [.sl 0 n 0 k,.fn (.func 59) [] []] [rN 78 5 nl es] =
 bif pN (lN n k n k k 0 nl es 0 0 0 false [] 0 0 0 0 false [] 0) then some (.El [HG (eh true (Hv 0 0 0 false [] 0) ((es.take k).drop (0:Int).toNat)),bv (decide ((k:Int) > 0))],[rN 78 5 nl es]) else none:=by kernel_rfl
def cLs:List PV->List Row->Option (DT (PV×List Row))
 | [.sl 0 n 0 k,.fn (.func 59) [] []],[⟨es,5,78,true,true,nl,none,false⟩]=>
  some (.br (decide (n=es.length)&&decide (k<=es.length)&&decide (k<=1000000)&&(es.take k).all Kg) (.leaf (.El [HG (eh true (Hv 0 0 0 false [] 0) (es.take k)),bv (decide ((k:Int) > 0))],[rN 78 5 nl es])) .no)
 |_,_=>none
theorem aaw{n k:Nat}{nl:Bool}{es:List PV}(h:(decide (n=es.length)&&decide (k<=es.length)&&decide (k<=1000000)&&(es.take k).all Kg)=true):
  Jx Try.prog R49 60 58 [.sl 0 n 0 k,.fn (.func 59) [] []] [rN 78 5 nl es]=some (.El [HG (eh true (Hv 0 0 0 false [] 0) (es.take k)),bv (decide ((k:Int) > 0))],[rN 78 5 nl es]):=by
 simp only[Aa,Ab]at h;obtain⟨⟨⟨rfl,h2⟩,h3⟩,h4⟩:=h;rw[qLs,show pN (lN es.length k es.length k k 0 nl es 0 0 0 false [] 0 0 0 0 false [] 0)=true by simp only[pN,Aa,Ab];exact⟨⟨⟨⟨⟨⟨⟨⟨trivial,trivial⟩,trivial⟩,h2⟩,trivial⟩,by omega⟩,by omega⟩,h3⟩,h4⟩];rw[show(0:Int).toNat=0 from rfl,AF];rfl
theorem eLs:Hx.Dd Try.prog 58:=(DH jl (aaw (n:=0) (k:=0) (nl:=false) (es:=[]) rfl)).1
theorem oLs(args:List PV)(H:List Row)(d:DT (PV×List Row))(q:PV)(H':List Row)(h:cLs args H=some d)(hd:d.run=some (q,H')):Fa Try.prog 0 58 args H q H':=by
 unfold cLs at h;split at h
 ·cases h;obtain⟨hc,he⟩:=FU hd;cases he;exact(DH jl (aaw hc)).2
 ·cases h
def R50:CY:=R49.E7 58 cLs
theorem aay:CG Try.prog R50.env:=jl.E7 eLs oLs
abbrev fnD(j:Nat):X1:=.fn 61 [] [.ptr j 1 0 0]
def OP:S1:=⟨19,[(0,.sl 0),(1,fnD 1),(7,Dk),(8,Dk)],[.many 78 5,.GJ 78 5 aC]⟩
abbrev qC(n l:Nat)(len i:Int)(nl:Bool)(es:List PV)(x y z:Int)(rf:Bool)(rp:List PV)(rc:Int):LS:=([.n n,.n l,.i len,.i i],[.l nl es,.i x,.i y,.i z,.l rf rp,.i rc])
abbrev hX2(nl:Bool)(es:List PV)(x y z:Int)(rf:Bool)(rp:List PV)(rc:Int):List Row:=(OP.put (qC 0 0 0 0 nl es x y z rf rp rc)).2
abbrev yX0(nl:Bool)(es:List PV)(x y z:Int)(rf:Bool)(rp:List PV)(rc:Int):PX×List PV×List Row:=(.exit 0,tm 19 [],hX2 nl es x y z rf rp rc)
abbrev yX1(i:Int)(nl:Bool)(es:List PV)(x y z:Int)(rf:Bool)(rp:List PV)(rc:Int):PX×List PV×List Row:=(.ret,tm 19 [(4,iv i)],hX2 nl es x y z rf rp rc)
theorem qX2(n l:Nat)(len i:Int)(nl:Bool)(es:List PV)(x y z:Int)(rf:Bool)(rp:List PV)(rc:Int):Db Try.prog R50 60 82 (Dg Try.f82 2) [0,1,7,8] [4] (OP.put (qC n l len i nl es x y z rf rp rc)).1 (OP.put (qC n l len i nl es x y z rf rp rc)).2 =
 bif decide (i<len) then Sa es n l i (HM es n (bif VU (rE es i) x y z then some (yX1 i nl es x y z rf rp rc) else some (.normal,OP.put (qC n l len (W (i+1)) nl es x y z rf rp rc)))) else some (yX0 nl es x y z rf rp rc):=by kernel_rfl
abbrev IM(x y z:Int)(e:PV):Bool:=VU e x y z
def qD:LS->Bool
 |([.n n,.n l,.i len,.i i],[.l _ es,.i _,.i _,.i _,.l _ _,.i _])=>decide (n=es.length)&&decide (l<=es.length)&&decide (len=(l:Int))&&decide (0<=i)&&decide (i<=len)&&decide (es.length<=1000000)
 |_=>false
def fX2:LS->DT (PX×List PV×List Row)
 |([.n _,.n _,.i len,.i i],[.l nl es,.i x,.i y,.i z,.l rf rp,.i rc])=>.br (Jb (IM x y z) es i (len-i).toNat) (.leaf (yX1 (FH (IM x y z) es i (len-i).toNat) nl es x y z rf rp rc)) (.leaf (yX0 nl es x y z rf rp rc))
 |_=>.no
def mX2:LS->Nat
 |([.n _,.n _,.i len,.i i],_)=>(len-i).toNat
 |_=>0
theorem sX2:∀ s r,qD s=true->(fX2 s).run=some r->r.1≠.normal/\(Db Try.prog R50 60 82 (Dg Try.f82 2) [0,1,7,8] [4] (OP.put s).1 (OP.put s).2=some r \/
   ∃ s',Db Try.prog R50 60 82 (Dg Try.f82 2) [0,1,7,8] [4] (OP.put s).1 (OP.put s).2=some (.normal,OP.put s')/\qD s'=true/\mX2 s'<mX2 s/\(fX2 s').run=some r):=by
 intro t r hp hr;unfold qD at hp;split at hp
 ·rename_i n l len i nl es x y z rf rp rc;simp only[Aa,Ab]at hp;obtain⟨⟨⟨⟨⟨rfl,h2⟩,rfl⟩,h4⟩,h5⟩,h6⟩:=hp;have hr':=Hl hr;refine⟨by rw[hr'];cases Jb (IM x y z) es i ((l:Int)-i).toNat <;> simp,?_⟩;rw[show OP.put ([.n es.length,.n l,.i (l:Int),.i i],[.l nl es,.i x,.i y,.i z,.l rf rp,.i rc])=OP.put (qC es.length l (l:Int) i nl es x y z rf rp rc) from rfl,qX2];by_cases hi:i<(l:Int)
  ·rw[Ac hi,Aj,FC rfl h4 hi,DJ rfl,Dx (by omega) (by omega)];obtain⟨m,hm⟩:∃ m,((l:Int)-i).toNat=m+1:=⟨((l:Int)-i).toNat-1,by omega⟩;have hm2:((l:Int)-(i+1)).toNat=m:=by omega
   rw[hm]at hr';simp only[Jb,FH]at hr';cases c1:VU (rE es i) x y z with
   |true=>
    rw[show IM x y z (rE es i)=true from c1]at hr';exact .inl (by rw[hr'];rfl)
   |false=>
    rw[show IM x y z (rE es i)=false from c1]at hr';refine .inr ⟨qC es.length l (l:Int) (i+1) nl es x y z rf rp rc,rfl,by simp only[qD,Aa,Ab];exact⟨⟨⟨⟨⟨trivial,h2⟩,trivial⟩,by omega⟩,by omega⟩,h6⟩,by simp only[mX2];omega,?_⟩;rw[hr'];simp only[fX2,hm2,Bt,Ar];show _=some (bif Jb (IM x y z) es (i+1) m then _ else _)
    cases Jb (IM x y z) es (i+1) m <;> rfl
  ·rw[Ai hi];rw[show((l:Int)-i).toNat=0 by omega]at hr';exact .inl (by rw[hr'];rfl)
 ·cases hp
def R51:CY:=R50.Dl 82 2 [0,1,7,8] [] OP qD fX2
theorem aaA:CG Try.prog R51.env:=
 aay.Dl (n:=60) Try.func82 (show Try.f82.body=some (DY Try.f82) by kernel_rfl) (show(loops (DY Try.f82)).filter (fun b=>Ew b==2)=[Dg Try.f82 2] by kernel_rfl) [0,1,7,8] [4] [] OP mX2 sX2
def OQ:S1:=⟨42,[(0,.sl 0),(1,fnD 1),(5,Dk),(6,Dk)],[.many 78 5,.GJ 78 5 aC]⟩
abbrev nU(n l:Nat)(i j:Int)(nl:Bool)(es:List PV)(x y z:Int)(rf:Bool)(rp:List PV)(rc:Int):LS:=([.n n,.n l,.i i,.i j],[.l nl es,.i x,.i y,.i z,.l rf rp,.i rc])
abbrev yY(n l:Nat)(i:Int)(nl:Bool)(es:List PV)(x y z:Int)(rf:Bool)(rp:List PV)(rc:Int):PX×List PV×List Row:=(.exit 0,tm 42 [(0,.sl 0 n 0 l),(5,iv i)],hX2 nl es x y z rf rp rc)
theorem qY2(n l:Nat)(i j:Int)(nl:Bool)(es:List PV)(x y z:Int)(rf:Bool)(rp:List PV)(rc:Int):Db Try.prog R51 60 60 (Dg Try.f60 5) [0,1,5,6] [0,5] (OQ.put (nU n l i j nl es x y z rf rp rc)).1 (OQ.put (nU n l i j nl es x y z rf rp rc)).2 =
 bif decide (j<(l:Int)) then Sa es n l j (HM es n (bif !VU (rE es j) x y z then y9 es n l i (some (.normal,OQ.put (nU n l (W (i+1)) (W (j+1)) nl (es.set (0+i.toNat) (HG (rE es j))) x y z rf rp rc))) else some (.normal,OQ.put (nU n l i (W (j+1)) nl es x y z rf rp rc)))) else some (yY n l i nl es x y z rf rp rc):=by kernel_rfl
def nV:LS->Bool
 |([.n n,.n l,.i i,.i j],[.l _ es,.i _,.i _,.i _,.l _ _,.i _])=>decide (n=es.length)&&decide (l<=es.length)&&decide (0<=i)&&decide (i<j)&&decide (j<=(l:Int))&&decide (es.length<=1000000)
 |_=>false
abbrev Uk(e:PV):PV:=HG e
def fY2:LS->DT (PX×List PV×List Row)
 |([.n n,.n l,.i i,.i j],[.l nl es,.i x,.i y,.i z,.l rf rp,.i rc])=>.leaf (yY n l (HF (IM x y z) Uk es i j ((l:Int)-j).toNat).2 nl (HF (IM x y z) Uk es i j ((l:Int)-j).toNat).1 x y z rf rp rc)
 |_=>.no
def mY2:LS->Nat
 |([.n _,.n l,.i _,.i j],_)=>((l:Int)-j).toNat
 |_=>0
theorem sY2:∀ s r,nV s=true->(fY2 s).run=some r->r.1≠.normal/\(Db Try.prog R51 60 60 (Dg Try.f60 5) [0,1,5,6] [0,5] (OQ.put s).1 (OQ.put s).2=some r \/
   ∃ s',Db Try.prog R51 60 60 (Dg Try.f60 5) [0,1,5,6] [0,5] (OQ.put s).1 (OQ.put s).2=some (.normal,OQ.put s')/\nV s'=true/\mY2 s'<mY2 s/\(fY2 s').run=some r):=by
 intro t r hp hr;unfold nV at hp;split at hp
 ·rename_i n l i j nl es x y z rf rp rc;simp only[Aa,Ab]at hp;obtain⟨⟨⟨⟨⟨rfl,h2⟩,h3⟩,h4⟩,h5⟩,h6⟩:=hp;have hr':=(Ah hr).symm;refine⟨by rw[hr'];simp,?_⟩;rw[show OQ.put ([.n es.length,.n l,.i i,.i j],[.l nl es,.i x,.i y,.i z,.l rf rp,.i rc])=OQ.put (nU es.length l i j nl es x y z rf rp rc) from rfl,qY2];by_cases hj:j<(l:Int)
  ·rw[Ac hj,Aj,FC rfl (by omega) hj,DJ rfl,Dx (n:=j+1) (by omega) (by omega),Dx (n:=i+1) (by omega) (by omega),gZ rfl h3 (by omega)];obtain⟨m,hm⟩:∃ m,((l:Int)-j).toNat=m+1:=⟨((l:Int)-j).toNat-1,by omega⟩;have hm2:((l:Int)-(j+1)).toNat=m:=by omega
   rw[hm]at hr';simp only[HF]at hr';right
   cases c1:VU (rE es j) x y z with
   |true=>
    rw[show IM x y z (rE es j)=true from c1]at hr';refine⟨nU es.length l i (j+1) nl es x y z rf rp rc,rfl,by simp only[nV,Aa,Ab];exact⟨⟨⟨⟨⟨trivial,h2⟩,h3⟩,by omega⟩,by omega⟩,h6⟩,by simp only[mY2];omega,?_⟩;rw[hr'];simp only[fY2,hm2,Aj];rfl
   |false=>
    rw[show IM x y z (rE es j)=false from c1]at hr';refine⟨nU es.length l (i+1) (j+1) nl (es.set (0+i.toNat) (HG (rE es j))) x y z rf rp rc,rfl,by
     simp only[nV,Aa,Ab,Bi];exact⟨⟨⟨⟨⟨trivial,h2⟩,by omega⟩,by omega⟩,by omega⟩,h6⟩,by simp only[mY2];omega,?_⟩
    rw[hr'];simp only[fY2,hm2,Ar];rfl
  ·rw[Ai hj];rw[show((l:Int)-j).toNat=0 by omega]at hr';exact .inl (by rw[hr'];rfl)
 ·cases hp
def R52:CY:=R51.Dl 60 5 [0,1,5,6] [] OQ nV fY2
theorem jm:CG Try.prog R52.env:=
 aaA.Dl (n:=60) Try.func60 (show Try.f60.body=some (DY Try.f60) by kernel_rfl) (show(loops (DY Try.f60)).filter (fun b=>Ew b==5)=[Dg Try.f60 5] by kernel_rfl) [0,1,5,6] [0,5] [] OQ mY2 sY2
abbrev rX(x y z:Int)(rf:Bool)(rp:List PV)(rc:Int):Row:={ es:=[Hv x y z rf rp rc],s:=5,t:=78,bv:=false }
abbrev Jg:PV:=Hv 0 0 0 false [] 0
abbrev qE(es:List PV):Row:=rN 78 5 false es
def aaD(n l:Nat)(D:List PV)(i:Int)(r:Row):Option (PV×List Row):=
 bif (D.length==n)&&true then bif decide (0<=i)&&decide (i<(l:Int))&&decide (i<=(l:Int))&&decide ((l:Int)<=(l:Int)) then bif D.length==n then
  bif ((Sc Jg D i l).length==n)&&true then bif decide (0<=i)&&decide (i<=(l:Int)) then some (.sl 0 n 0 i.toNat,[qE (Sc Jg D i l),r]) else none else none else none
  else (bif decide (i=(l:Int))&&decide ((l:Int)=(l:Int)) then none else none) else none
def vu(n l:Nat)(es:List PV)(x y z:Int)(rf:Bool)(rp:List PV)(rc:Int):Option (PV×List Row):=
 HM es n (bif qD (qC n l (l:Int) 0 false es x y z rf rp rc) then bif Jb (IM x y z) es 0 ((l:Int)-0).toNat then
  bif FH (IM x y z) es 0 ((l:Int)-0).toNat == -1 then some (.sl 0 n 0 l,[qE es,rX x y z rf rp rc]) else
   bif nV (nU n l (FH (IM x y z) es 0 ((l:Int)-0).toNat) (W (FH (IM x y z) es 0 ((l:Int)-0).toNat+1)) false es x y z rf rp rc) then
    aaD n l (HF (IM x y z) Uk es (FH (IM x y z) es 0 ((l:Int)-0).toNat) (W (FH (IM x y z) es 0 ((l:Int)-0).toNat+1)) ((l:Int)-W (FH (IM x y z) es 0 ((l:Int)-0).toNat+1)).toNat).1
     (HF (IM x y z) Uk es (FH (IM x y z) es 0 ((l:Int)-0).toNat) (W (FH (IM x y z) es 0 ((l:Int)-0).toNat+1)) ((l:Int)-W (FH (IM x y z) es 0 ((l:Int)-0).toNat+1)).toNat).2 (rX x y z rf rp rc) else none
  else some (.sl 0 n 0 l,[qE es,rX x y z rf rp rc]) else none)
theorem qDf(n l:Nat)(es:List PV)(x y z:Int)(rf:Bool)(rp:List PV)(rc:Int):Jx Try.prog R52 60 60 [.sl 0 n 0 l,.fn (.func 61) [] [.ptr 1 1 0 0]] [qE es,rX x y z rf rp rc]=vu n l es x y z rf rp rc:=by kernel_rfl
theorem nW{n l:Nat}{es:List PV}{x y z:Int}{rf:Bool}{rp:List PV}{rc:Int}(hn:n=es.length)(hl:l<=es.length)(h:es.length<=1000000)(hN:Ed Uk es):
  vu n l es x y z rf rp rc=some (.sl 0 n 0 (Df (IM x y z) (es.take l)).length,[qE (FY (IM x y z) Jg es l),rX x y z rf rp rc]):=by
 subst hn;unfold vu;have hp:qD (qC es.length l (l:Int) 0 false es x y z rf rp rc)=true:=by simp only[qD,Aa,Ab];exact⟨⟨⟨⟨⟨trivial,hl⟩,trivial⟩,by omega⟩,by omega⟩,h⟩
 rw[DJ rfl,hp,show((l:Int)-0).toNat=l by omega,Aj];cases ha:Jb (IM x y z) es 0 l with
 |false=>
  obtain⟨g1,g2⟩:=Xg hl ha Jg;rw[Ar,g1,g2,Az,show min l es.length=l by omega]
 |true=>
  obtain⟨g1,g2,g3,g4,g5,g6,g7,g8,g9⟩:=Xh hN hl ha Jg rfl rfl;generalize FH (IM x y z) es 0 l=u at *;have hw:W (u+1)=u+1:=Dx (by omega) (by omega);have hy:nV (nU es.length l u (u+1) false es x y z rf rp rc)=true:=by simp only[nV,Aa,Ab];exact⟨⟨⟨⟨⟨trivial,hl⟩,g1⟩,by omega⟩,by omega⟩,h⟩
  rw[hw,hy,Aj,Aj,show(u == -1)=false by rw[AR];omega,Ar];generalize HF (IM x y z) Uk es u (u+1) ((l:Int)-(u+1)).toNat=r at *;obtain⟨D,i⟩:=r;dsimp only at g3 g4 g5 g6 g7 g8 g9 ⊢;have hc:Sc Jg D i l=FY (IM x y z) Jg es l:=by
   rw[<- g9];unfold Sc;rw[AM,show((l:Int)-i).toNat=l-i.toNat by omega,show i.toNat+(l-i.toNat)=l by omega]
  have hcl:(FY (IM x y z) Jg es l).length=es.length:=IC hl;unfold aaD;rw[hc,hcl,g6,AS,show(decide (0<=i)&&decide (i<(l:Int))&&decide (i<=(l:Int))&&decide ((l:Int)<=(l:Int)))=true by simp;omega,show(decide (0<=i)&&decide (i<=(l:Int)))=true by simp;omega,g5];rfl
def cDf:List PV->List Row->Option (DT (PV×List Row))
 | [.sl 0 n 0 l,.fn (.func 61) [] [.ptr 1 1 0 0]],[⟨es,5,78,true,true,false,none,false⟩,⟨[.agg [.val (.int .i64 x),.val (.int .i64 y),.val (.int .i64 z),.C9 rf 3 rp,.val (.int .i64 rc)]],5,78,false,true,false,none,false⟩]=>
  some (.br (decide (n=es.length)&&decide (l<=es.length)&&decide (es.length<=1000000)&&E1 Uk es) (.leaf (.sl 0 n 0 (Df (IM x y z) (es.take l)).length,[qE (FY (IM x y z) Jg es l),rX x y z rf rp rc])) .no)
 |_,_=>none
theorem aaE{n l:Nat}{es:List PV}(x y z:Int)(rf:Bool)(rp:List PV)(rc:Int)(h:(decide (n=es.length)&&decide (l<=es.length)&&decide (es.length<=1000000)&&E1 Uk es)=true):
  Jx Try.prog R52 60 60 [.sl 0 n 0 l,.fn (.func 61) [] [.ptr 1 1 0 0]] [qE es,rX x y z rf rp rc]=some (.sl 0 n 0 (Df (IM x y z) (es.take l)).length,[qE (FY (IM x y z) Jg es l),rX x y z rf rp rc]):=by
 simp only[Aa,Ab,Ea]at h;rw[qDf,nW h.1.1.1 h.1.1.2 h.1.2 h.2]
theorem eDf:Hx.Dd Try.prog 60:=(DH jm (aaE (n:=0) (l:=0) (es:=[]) 0 0 0 false [] 0 (by simp[Ea,Ed]))).1
theorem oDf(args:List PV)(H:List Row)(d:DT (PV×List Row))(q:PV)(H':List Row)(h:cDf args H=some d)(hd:d.run=some (q,H')):Fa Try.prog 0 60 args H q H':=by
 unfold cDf at h;split at h
 ·rename_i n l es x y z rf rp rc;cases h;obtain⟨hc,he⟩:=FU hd;cases he;exact(DH jm (aaE x y z rf rp rc hc)).2
 ·cases h
def R53:CY:=R52.E7 60 cDf
theorem aaF:CG Try.prog R53.env:=jm.E7 eDf oDf
def xI:CY:=((((((((R53.FX 62).Ee 33 22).J9 33 22).J7 Try.prog 111).J8 Try.prog 38 101 104).GH 33 13 1001).GH 33 22 1001).MQ Try.prog 32).GH 33 8 5
theorem aaG:CG Try.prog xI.env:=((((((((aaF.FX 62).Ee 33 22).J9 33 22).J7 111).J8 38 101 104).GH 33 13 1001).GH 33 22 1001).MQ 32).GH 33 8 5
abbrev Qa(a b c x y z:Int):Bool:=((a==x)&&((b==y)&&true))&&((c==z)&&true)
abbrev bM(e:PV):Row:={ es:=[.agg [iv (cI e 0),iv (cI e 1),iv (cI e 2),iv (cI e 3),iv (cI e 4),iv (cI e 5)]],s:=6,t:=116,bv:=true }
abbrev Ul(rp:List PV)(wi:Int):List PV:=([]++rp).take (0+rp.length)++iv wi::([]++rp).drop (0+rp.length+1)
abbrev jn(rp:List PV)(wi:Int):List PV:=(Ul rp wi).take (0+rp.length+1)
abbrev vv(rp:List PV)(wi:Int):Bool:=((([]++rp).length==0+rp.length)&&(decide (0+rp.length<=0+rp.length)&&decide ((0+rp.length+1)*8<=140737488355328)))&&((Ul rp wi).length==max (0+rp.length) (0+rp.length+1))
abbrev vw(e:PV)(ps:List PV)(c:Int):PV:=Hv (cI e 3) (cI e 4) (cI e 5) false ps c
def nX(es:List PV)(k:Nat)(z:PV):List PV:=es.take k++z::es.drop (k+1)
theorem NY{es:List PV}{k:Nat}{z:PV}(h:k<=es.length):(nX es k z).length=max es.length (k+1):=by
 unfold nX;simp only[Ap,As,Az,B7];omega
theorem jo{es:List PV}{k:Nat}{z:PV}(h:k<=es.length):(nX es k z).take (k+1)=es.take k++[z]:=by
 unfold nX;have:(es.take k).length=k:=by rw[Az];omega
 rw[List.take_append,this,A7 (by omega),show k+1-k=1 by omega];rfl
def jq(e:PV)(x y z:Int)(D:List (PV×PV)):Bool:=Qa (cI e 0) (cI e 1) (cI e 2) x y z && !EE D (DV (cI e 3) (cI e 4) (cI e 5))
def JO(x y z:Int)(D:List (PV×PV))(ps:List PV)(c:Int)(s:List PV×Nat)(e:PV):List PV×Nat:=bif jq e x y z D then (nX s.1 s.2 (vw e ps c),s.2+1) else s
def HH(x y z:Int)(D:List (PV×PV))(ps:List PV)(c:Int)(s:List PV×Nat)(l:List PV):List PV×Nat:=l.foldl (JO x y z D ps c) s
theorem XG(rp:List PV)(wi:Int):jn rp wi=rp++[iv wi]:=by
 have h1:Ul rp wi=rp++[iv wi]:=by
  show List.take _ _++_=_
  rw[A9,AM,A_,AC (by omega)]
 show List.take _ (Ul rp wi)=_
 rw[h1];exact A7 (by simp)
theorem bO{rp:List PV}{wi:Int}(h:rp.length<=1000000):vv rp wi=true:=by
 have h1:Ul rp wi=rp++[iv wi]:=by
  show List.take _ _++_=_
  rw[A9,AM,A_,AC (by omega)]
 show((([]++rp).length==0+rp.length)&&(decide (0+rp.length<=0+rp.length)&&decide ((0+rp.length+1)*8<=140737488355328))&&((Ul rp wi).length==max (0+rp.length) (0+rp.length+1)))=true
 rw[h1];simp only[A9,Ap,As,AB,Aa,Ay,Ab];omega
theorem Kh{x y z:Int}{D:List (PV×PV)}{ps:List PV}{c:Int}{s:List PV×Nat}{e:PV}(h:s.2<=s.1.length):(JO x y z D ps c s e).2<=(JO x y z D ps c s e).1.length/\(JO x y z D ps c s e).1.length<=s.1.length+1/\s.1.length<=(JO x y z D ps c s e).1.length:=by
 unfold JO;cases jq e x y z D with
 |false=>exact⟨h,by show s.1.length<=_;omega,Al _⟩
 |true=>
  show s.2+1<=(nX s.1 s.2 _).length/\(nX s.1 s.2 _).length<=s.1.length+1/\s.1.length<=(nX s.1 s.2 _).length
  rw[NY h];omega
abbrev jr(a b:PV):PV:=.agg [iv (gX a),iv (gY a),iv (gL a),iv (gX b),iv (gY b),iv (gL b)]
abbrev Te(e:PV):List PV:=[jr (eF e) (eL e),jr (eL e) (eF e)]
def IQ(x y z:Int)(D:List (PV×PV))(ps:List PV)(rc:Int)(s:List PV×Nat)(e:PV):List PV×Nat:=HH x y z D (ps++[iv (wI e)]) (rc+Du (wL e)) s (Te e)
def DQ(x y z:Int)(D:List (PV×PV))(ps:List PV)(rc:Int)(s:List PV×Nat)(l:List PV):List PV×Nat:=l.foldl (IQ x y z D ps rc) s
theorem JF{x y z:Int}{D:List (PV×PV)}{ps:List PV}{rc:Int}{s:List PV×Nat}{e:PV}(h:s.2<=s.1.length):(IQ x y z D ps rc s e).2<=(IQ x y z D ps rc s e).1.length/\(IQ x y z D ps rc s e).1.length<=s.1.length+2/\s.1.length<=(IQ x y z D ps rc s e).1.length:=by
 show(JO x y z D _ _ (JO x y z D _ _ s _) _).2<=(JO x y z D _ _ (JO x y z D _ _ s _) _).1.length/\(JO x y z D _ _ (JO x y z D _ _ s _) _).1.length<=_/\_<=(JO x y z D _ _ (JO x y z D _ _ s _) _).1.length
 obtain⟨a1,a2,a3⟩:=Kh (x:=x) (y:=y) (z:=z) (D:=D) (ps:=ps++[iv (wI e)]) (c:=rc+Du (wL e)) (s:=s) (e:=jr (eF e) (eL e)) h;obtain⟨b1,b2,b3⟩:=Kh (x:=x) (y:=y) (z:=z) (D:=D) (ps:=ps++[iv (wI e)]) (c:=rc+Du (wL e)) (s:=JO x y z D (ps++[iv (wI e)]) (rc+Du (wL e)) s (jr (eF e) (eL e))) (e:=jr (eL e) (eF e)) a1;exact⟨b1,by omega,by omega⟩
def HI(e:PV):Bool:=!((wL e).length==0)&&decide ((wL e).length<=1000)
abbrev Dj(es:List PV)(k:Nat):PV:=eh true (Hv 0 0 0 false [] 0) (es.take k)
abbrev MU(es:List PV)(k:Nat):List PV:=Df (IM (gX (Dj es k)) (gY (Dj es k)) (gL (Dj es k))) (es.take k)
abbrev NZ(es:List PV)(k:Nat):List PV:=FY (IM (gX (Dj es k)) (gY (Dj es k)) (gL (Dj es k))) Jg es k
abbrev OR(us:List PV)(D:List (PV×PV))(es:List PV)(k:Nat):List PV×Nat:=
 DQ (gX (Dj es k)) (gY (Dj es k)) (gL (Dj es k)) (EU D (DV (gX (Dj es k)) (gY (Dj es k)) (gL (Dj es k))) (HG (Dj es k))) (rP (Dj es k)) (rC (Dj es k)) (NZ es k,(MU es k).length) (us.drop (0:Int).toNat)
def Fm:S1:=⟨116,[(4,.ptr 2 1 0 0),(7,.C9 49),(8,.mp 4),(9,.sl 5),(10,.ptr 6 1 0 0),(15,.ptr 8 1 0 0),(57,.C9 49),(58,Dk),(59,Dk),(74,.sl 11),(75,Dk),(76,Dk)],
 [.one 30 3 aS,.one 30 3 aS,.one 30 3 aS,.map 30 4,.map 30 78,.many 78 5,.GJ 78 5 (.agg [Dk,Dk,Dk,.nil,Dk]),.dead,.GJ 49 8 aW,.one 30 3 aS,.one 30 3 aS,.many 116 6]⟩
abbrev JG(f:Bool)(us:List PV)(n k:Nat)(f2:Bool)(us2:List PV)(len i:Int)(n2 k2:Nat)(l2 j p0 p1 p2:Int)(q0 q1 q2:Int)(s0 s1 s2:Int)(D0 D:List (PV×PV))(nl:Bool)(es:List PV)(x y z:Int)(rc:Int)
 (wi:Int) (wf:Bool) (wl:List PV) (lv:Int) (cs nm:ByteArray) (st:Bool) (wt ds a0 a1 a2 b0 b1 b2:Int) (nl2:Bool) (ab:List PV):LS:=
 ([.l f us,.n n,.n k,.l f2 us2,.i len,.i i,.n n2,.n k2,.i l2,.i j],[.i p0,.i p1,.i p2,.i q0,.i q1,.i q2,.i s0,.i s1,.i s2,.m D0,.m D,.l nl es,.i x,.i y,.i z,.i rc,
  .i wi,.l wf wl,.i lv,.s cs,.s nm,.b st,.i wt,.i ds,.i a0,.i a1,.i a2,.i b0,.i b1,.i b2,.l nl2 ab])
abbrev qG(f:Bool)(us:List PV)(n k:Nat)(f2:Bool)(us2:List PV)(len i p0 p1 p2:Int)(q0 q1 q2:Int)(s0 s1 s2:Int)(D0 D:List (PV×PV))(nl:Bool)(es:List PV)(x y z:Int)(rc:Int)
 (wi:Int) (wf:Bool) (wl:List PV) (lv:Int) (cs nm:ByteArray) (st:Bool) (wt ds a0 a1 a2 b0 b1 b2:Int) (nl2:Bool) (ab:List PV):PX×List PV×List Row:=
 (.exit 4,tm 116 [(4,.ptr 2 1 0 0),(7,.C9 f 49 us),(8,.mp 4),(9,.sl 5 n 0 k),(10,.ptr 6 1 0 0),(57,.C9 f2 49 us2),(58,iv len),(59,iv i)],
  (Fm.put (JG f us n k f2 us2 len i 0 0 0 0 p0 p1 p2 q0 q1 q2 s0 s1 s2 D0 D nl es x y z rc wi wf wl lv cs nm st wt ds a0 a1 a2 b0 b1 b2 nl2 ab)).2)
abbrev qI(p0 p1 p2:Int)(q0 q1 q2:Int)(s0 s1 s2:Int)(D0 D:List (PV×PV))(nl:Bool)(es:List PV)(x y z:Int)(rc:Int)
 (wi:Int) (wf:Bool) (wl:List PV) (lv:Int) (cs nm:ByteArray) (st:Bool) (wt ds a0 a1 a2 b0 b1 b2:Int) (nl2:Bool) (ab:List PV) (j:Int):List Row:=
 (Fm.put (JG false [] 0 0 false [] 0 0 0 0 0 0 p0 p1 p2 q0 q1 q2 s0 s1 s2 D0 D nl es x y z rc wi wf wl lv cs nm st wt ds a0 a1 a2 b0 b1 b2 nl2 ab)).2++[bM (rE ab j),Dt]
theorem qJ(f:Bool)(us:List PV)(n k:Nat)(f2:Bool)(us2:List PV)(len i:Int)(n2 k2:Nat)(l2 j p0 p1 p2:Int)(q0 q1 q2:Int)(s0 s1 s2:Int)(D0 D:List (PV×PV))(es:List PV)(x y z:Int)(rc:Int)
 (wi:Int) (wf:Bool) (wl:List PV) (lv:Int) (cs nm:ByteArray) (st:Bool) (wt ds a0 a1 a2 b0 b1 b2:Int) (nl2:Bool) (ab:List PV):
 Db Try.prog xI 60 33 (Dg Try.f33 18) [4,7,8,9,10,15,57,58,59,74,75,76] [4,7,8,9,10,57,58,59] (Fm.put (JG f us n k f2 us2 len i n2 k2 l2 j p0 p1 p2 q0 q1 q2 s0 s1 s2 D0 D false es x y z rc wi wf wl lv cs nm st wt ds a0 a1 a2 b0 b1 b2 nl2 ab)).1 (Fm.put (JG f us n k f2 us2 len i n2 k2 l2 j p0 p1 p2 q0 q1 q2 s0 s1 s2 D0 D false es x y z rc wi wf wl lv cs nm st wt ds a0 a1 a2 b0 b1 b2 nl2 ab)).2 =
 bif decide (j<l2) then Sa ab n2 k2 j (HM ab n2 (bif Qa (cI (rE ab j) 0) (cI (rE ab j) 1) (cI (rE ab j) 2) x y z then bif !EE D (DV (cI (rE ab j) 3) (cI (rE ab j) 4) (cI (rE ab j) 5)) then
  bif GQ (qI p0 p1 p2 q0 q1 q2 s0 s1 s2 D0 D false es x y z rc wi wf wl lv cs nm st wt ds a0 a1 a2 b0 b1 b2 nl2 ab j) (qI p0 p1 p2 q0 q1 q2 s0 s1 s2 D0 D false es x y z rc wi wf wl lv cs nm st wt ds a0 a1 a2 b0 b1 b2 nl2 ab j) then
  bif decide (wl.length<=100000) then bif (es.length==n)&&(decide (k<=n)&&decide ((n+1)*56<=140737488355328)) then
   some (.normal,Fm.put (JG f us (max n (k+1)) (k+1) f2 us2 len i n2 k2 l2 (W (j+1)) p0 p1 p2 q0 q1 q2 s0 s1 s2 D0 D false (es.take k++Hv (cI (rE ab j) 3) (cI (rE ab j) 4) (cI (rE ab j) 5) false [iv wi] (W (rc+Du wl))::es.drop (k+1)) x y z rc wi wf wl lv cs nm st wt ds a0 a1 a2 b0 b1 b2 nl2 ab))
  else none else none else none
  else some (.normal,Fm.put (JG f us n k f2 us2 len i n2 k2 l2 (W (j+1)) p0 p1 p2 q0 q1 q2 s0 s1 s2 D0 D false es x y z rc wi wf wl lv cs nm st wt ds a0 a1 a2 b0 b1 b2 nl2 ab))
  else some (.normal,Fm.put (JG f us n k f2 us2 len i n2 k2 l2 (W (j+1)) p0 p1 p2 q0 q1 q2 s0 s1 s2 D0 D false es x y z rc wi wf wl lv cs nm st wt ds a0 a1 a2 b0 b1 b2 nl2 ab))))
 else some (qG f us n k f2 us2 len i p0 p1 p2 q0 q1 q2 s0 s1 s2 D0 D false es x y z rc wi wf wl lv cs nm st wt ds a0 a1 a2 b0 b1 b2 nl2 ab):=by kernel_rfl
theorem vx(f:Bool)(us:List PV)(k:Nat)(f2:Bool)(us2:List PV)(len i j p0 p1 p2:Int)(q0 q1 q2:Int)(s0 s1 s2:Int)(D0 D:List (PV×PV))(es:List PV)(x y z:Int)(rc:Int)
 (wi:Int) (wf:Bool) (wl:List PV) (lv:Int) (cs nm:ByteArray) (st:Bool) (wt ds a0 a1 a2 b0 b1 b2:Int) (nl2:Bool) (ab:List PV) (hj:0<=j) (hj2:j<(ab.length:Int)) (hab:ab.length<=2) (hk:k<=es.length) (hes:es.length<=600000) (hwl:wl.length<=1000) (hrc:0<=rc) (hrc2:rc<=1000000000000000000):
 Db Try.prog xI 60 33 (Dg Try.f33 18) [4,7,8,9,10,15,57,58,59,74,75,76] [4,7,8,9,10,57,58,59] (Fm.put (JG f us es.length k f2 us2 len i ab.length ab.length ab.length j p0 p1 p2 q0 q1 q2 s0 s1 s2 D0 D false es x y z rc wi wf wl lv cs nm st wt ds a0 a1 a2 b0 b1 b2 nl2 ab)).1 (Fm.put (JG f us es.length k f2 us2 len i ab.length ab.length ab.length j p0 p1 p2 q0 q1 q2 s0 s1 s2 D0 D false es x y z rc wi wf wl lv cs nm st wt ds a0 a1 a2 b0 b1 b2 nl2 ab)).2 =
 some (.normal,Fm.put (JG f us (JO x y z D ([]++[iv wi]) (rc+Du wl) (es,k) (aE ab j)).1.length (JO x y z D ([]++[iv wi]) (rc+Du wl) (es,k) (aE ab j)).2 f2 us2 len i ab.length ab.length ab.length (j+1) p0 p1 p2 q0 q1 q2 s0 s1 s2 D0 D false (JO x y z D ([]++[iv wi]) (rc+Du wl) (es,k) (aE ab j)).1 x y z rc wi wf wl lv cs nm st wt ds a0 a1 a2 b0 b1 b2 nl2 ab)):=by
 obtain⟨w1,w2⟩:=GL hwl;rw[qJ,Ac hj2,Aj,FC rfl hj hj2,DJ rfl,Dx (n:=j+1) (by omega) (by omega),Dx (n:=rc+Du wl) (by omega) (by omega),OM,EM,
  Ac (show wl.length<=100000 by omega),show((es.length==es.length)&&(decide (k<=es.length)&&decide ((es.length+1)*56<=140737488355328)))=true by simp only[AS,BY,Aa,Ab];omega]
 simp only[Aj];unfold JO jq;cases h1:Qa (cI (aE ab j) 0) (cI (aE ab j) 1) (cI (aE ab j) 2) x y z with
 |false=>rfl
 |true=>
  cases h2:EE D (DV (cI (aE ab j) 3) (cI (aE ab j) 4) (cI (aE ab j) 5)) with
  |true=>rfl
  |false=>
   have e1:=NY (z:=vw (aE ab j) ([]++[iv wi]) (rc+Du wl)) hk;simp only[Aj,BS,Bg,e1];rfl
def PG:LS->Bool
 |([.l _ _,.n n,.n k,.l _ _,.i _,.i _,.n n2,.n k2,.i l2,.i j],[.i _,.i _,.i _,.i _,.i _,.i _,.i _,.i _,.i _,.m _,.m _,.l nl es,.i _,.i _,.i _,.i rc,
  .i _,.l _ wl,.i _,.s _,.s _,.b _,.i _,.i _,.i _,.i _,.i _,.i _,.i _,.i _,.l _ ab])=>
  decide (n=es.length)&&decide (k<=es.length)&&decide (n2=ab.length)&&decide (k2=ab.length)&&decide (l2=(ab.length:Int))&&decide (0<=j)&&decide (j<=(ab.length:Int))&&decide (ab.length<=2)&&decide ((es.length:Int)<=500000+j)&&decide (wl.length<=1000)&&decide (0<=rc)&&decide (rc<=1000000000000000000) && !nl
 |_=>false
def js:LS->DT (PX×List PV×List Row)
 |([.l f us,.n _,.n k,.l f2 us2,.i len,.i i,.n _,.n _,.i _,.i j],[.i p0,.i p1,.i p2,.i q0,.i q1,.i q2,.i s0,.i s1,.i s2,.m D0,.m D,.l _ es,.i x,.i y,.i z,.i rc,
  .i wi,.l wf wl,.i lv,.s cs,.s nm,.b st,.i wt,.i ds,.i a0,.i a1,.i a2,.i b0,.i b1,.i b2,.l nl2 ab])=>
  .leaf (qG f us (HH x y z D ([]++[iv wi]) (rc+Du wl) (es,k) (ab.drop j.toNat)).1.length (HH x y z D ([]++[iv wi]) (rc+Du wl) (es,k) (ab.drop j.toNat)).2 f2 us2 len i p0 p1 p2 q0 q1 q2 s0 s1 s2 D0 D false (HH x y z D ([]++[iv wi]) (rc+Du wl) (es,k) (ab.drop j.toNat)).1 x y z rc wi wf wl lv cs nm st wt ds a0 a1 a2 b0 b1 b2 nl2 ab)
 |_=>.no
def bP:LS->Nat
 |([.l _ _,.n _,.n _,.l _ _,.i _,.i _,.n _,.n _,.i l2,.i j],_)=>(l2-j).toNat
 |_=>0
theorem aaH:∀ s r,PG s=true->(js s).run=some r->r.1≠.normal/\(Db Try.prog xI 60 33 (Dg Try.f33 18) [4,7,8,9,10,15,57,58,59,74,75,76] [4,7,8,9,10,57,58,59] (Fm.put s).1 (Fm.put s).2=some r \/
   ∃ s',Db Try.prog xI 60 33 (Dg Try.f33 18) [4,7,8,9,10,15,57,58,59,74,75,76] [4,7,8,9,10,57,58,59] (Fm.put s).1 (Fm.put s).2=some (.normal,Fm.put s')/\PG s'=true/\bP s'<bP s/\(js s').run=some r):=by
 intro t r hp hr;unfold PG at hp;split at hp
 ·rename_i f us n k f2 us2 len i n2 k2 l2 j p0 p1 p2 q0 q1 q2 s0 s1 s2 D0 D nl es x y z rc wi wf wl lv cs nm st wt ds a0 a1 a2 b0 b1 b2 nl2 ab;simp only[Aa,Ab,Am]at hp;obtain⟨⟨⟨⟨⟨⟨⟨⟨⟨⟨⟨⟨rfl,h2⟩,rfl⟩,rfl⟩,rfl⟩,h6⟩,h7⟩,h8⟩,h9⟩,h10⟩,h11⟩,h12⟩,rfl⟩:=hp;have hr':=(Ah hr).symm;refine⟨by rw[hr'];simp,?_⟩;rw[show Fm.put ([.l f us,.n es.length,.n k,.l f2 us2,.i len,.i i,.n ab.length,.n ab.length,.i (ab.length:Int),.i j],[.i p0,.i p1,.i p2,.i q0,.i q1,.i q2,.i s0,.i s1,.i s2,.m D0,.m D,.l false es,.i x,.i y,.i z,.i rc,
   .i wi,.l wf wl,.i lv,.s cs,.s nm,.b st,.i wt,.i ds,.i a0,.i a1,.i a2,.i b0,.i b1,.i b2,.l nl2 ab])=Fm.put (JG f us es.length k f2 us2 len i ab.length ab.length ab.length j p0 p1 p2 q0 q1 q2 s0 s1 s2 D0 D false es x y z rc wi wf wl lv cs nm st wt ds a0 a1 a2 b0 b1 b2 nl2 ab) from rfl]
  by_cases hi:j<(ab.length:Int)
  ·rw[vx (hj:=h6) (hj2:=hi) (hab:=h8) (hk:=h2) (hes:=by omega) (hwl:=h10) (hrc:=h11) (hrc2:=h12)];obtain⟨g1,g2,g3⟩:=Kh (x:=x) (y:=y) (z:=z) (D:=D) (ps:=[]++[iv wi]) (c:=rc+Du wl) (s:=(es,k)) (e:=aE ab j) h2;simp only at g1 g2 g3;refine .inr ⟨_,rfl,?_,?_,?_⟩
   ·simp only[PG,Aa,Ab,Am];exact⟨⟨⟨⟨⟨⟨⟨⟨⟨⟨⟨⟨trivial,g1⟩,trivial⟩,trivial⟩,trivial⟩,by omega⟩,by omega⟩,h8⟩,by omega⟩,h10⟩,h11⟩,h12⟩,trivial⟩
   ·simp only[bP];omega
   ·rw[hr',Ds h6 hi];rfl
  ·rw[qJ,Ai hi];rw[AC (by omega)]at hr';exact .inl (by rw[hr'];rfl)
 ·cases hp
def R55:CY:=xI.Dl 33 18 [4,7,8,9,10,15,57,58,59,74,75,76] [false,false,false,false,false,false,false,false,true,true,true,false] Fm PG js
theorem aaJ:CG Try.prog R55.env:=
 aaG.Dl (n:=60) Try.func33 (show Try.f33.body=some (DY Try.f33) by kernel_rfl) (show(loops (DY Try.f33)).filter (fun b=>Ew b==18)=[Dg Try.f33 18] by kernel_rfl) [4,7,8,9,10,15,57,58,59,74,75,76] [4,7,8,9,10,57,58,59] [false,false,false,false,false,false,false,false,true,true,true,false] Fm bP aaH
def G6:S1:=⟨116,[(4,.ptr 2 1 0 0),(7,.C9 49),(8,.mp 4),(9,.sl 5),(10,.ptr 6 1 0 0),(57,.C9 49),(58,Dk),(59,Dk)],
 [.one 30 3 aS,.one 30 3 aS,.one 30 3 aS,.map 30 4,.map 30 78,.many 78 5,.GJ 78 5 (.agg [Dk,Dk,Dk,.nil,Dk]),.dead]⟩
abbrev PH(f:Bool)(us:List PV)(n k:Nat)(f2:Bool)(us2:List PV)(len i p0 p1 p2:Int)(q0 q1 q2:Int)(s0 s1 s2:Int)(D0 D:List (PV×PV))(nl:Bool)(es:List PV)(x y z:Int)(rc:Int):LS:=
 ([.l f us,.n n,.n k,.l f2 us2,.i len,.i i],[.i p0,.i p1,.i p2,.i q0,.i q1,.i q2,.i s0,.i s1,.i s2,.m D0,.m D,.l nl es,.i x,.i y,.i z,.i rc])
abbrev qK(f:Bool)(us:List PV)(n k:Nat)(p0 p1 p2:Int)(q0 q1 q2:Int)(s0 s1 s2:Int)(D0 D:List (PV×PV))(nl:Bool)(es:List PV)(x y z:Int)(rc:Int):PX×List PV×List Row:=
 (.exit 2,tm 116 [(4,.ptr 2 1 0 0),(7,.C9 f 49 us),(8,.mp 4),(9,.sl 5 n 0 k)],(G6.put (PH f us n k false [] 0 0 p0 p1 p2 q0 q1 q2 s0 s1 s2 D0 D nl es x y z rc)).2)
theorem aaK(f:Bool)(us:List PV)(n k:Nat)(f2:Bool)(us2:List PV)(len i p0 p1 p2:Int)(q0 q1 q2:Int)(s0 s1 s2:Int)(D0 D:List (PV×PV))(es:List PV)(x y z:Int)(rc:Int):
 Db Try.prog R55 60 33 (Dg Try.f33 14) [4,7,8,9,10,57,58,59] [4,7,8,9] (G6.put (PH f us n k f2 us2 len i p0 p1 p2 q0 q1 q2 s0 s1 s2 D0 D false es x y z rc)).1 (G6.put (PH f us n k f2 us2 len i p0 p1 p2 q0 q1 q2 s0 s1 s2 D0 D false es x y z rc)).2 =
 bif decide (i<len) then bif F8 us2 i then bif P8 (wL (us2.getD i.toNat .any)) then
  bif PG (JG f us n k f2 us2 len i 2 2 2 0 p0 p1 p2 q0 q1 q2 s0 s1 s2 D0 D false es x y z rc (wI (us2.getD i.toNat .any)) false (wL (us2.getD i.toNat .any)) (Mw (us2.getD i.toNat .any)) (cS (us2.getD i.toNat .any) 3) (cS (us2.getD i.toNat .any) 4) (Jv (us2.getD i.toNat .any)) (cI (us2.getD i.toNat .any) 6) (cI (us2.getD i.toNat .any) 7)
    (gX (eF (us2.getD i.toNat .any))) (gY (eF (us2.getD i.toNat .any))) (gL (eF (us2.getD i.toNat .any))) (gX (eL (us2.getD i.toNat .any))) (gY (eL (us2.getD i.toNat .any))) (gL (eL (us2.getD i.toNat .any))) false (Te (us2.getD i.toNat .any))) then
   some (.normal,G6.put (PH f us (HH x y z D ([]++[iv (wI (us2.getD i.toNat .any))]) (rc+Du (wL (us2.getD i.toNat .any))) (es,k) ((Te (us2.getD i.toNat .any)).drop (0:Int).toNat)).1.length (HH x y z D ([]++[iv (wI (us2.getD i.toNat .any))]) (rc+Du (wL (us2.getD i.toNat .any))) (es,k) ((Te (us2.getD i.toNat .any)).drop (0:Int).toNat)).2 f2 us2 len (W (i+1)) p0 p1 p2 q0 q1 q2 s0 s1 s2 D0 D false
    (HH x y z D ([]++[iv (wI (us2.getD i.toNat .any))]) (rc+Du (wL (us2.getD i.toNat .any))) (es,k) ((Te (us2.getD i.toNat .any)).drop (0:Int).toNat)).1 x y z rc)) else none else none else none
 else some (qK f us n k p0 p1 p2 q0 q1 q2 s0 s1 s2 D0 D false es x y z rc):=by kernel_rfl
def PI:LS->Bool
 |([.l _ _,.n n,.n k,.l _ us2,.i len,.i i],[.i _,.i _,.i _,.i _,.i _,.i _,.i _,.i _,.i _,.m _,.m _,.l nl es,.i _,.i _,.i _,.i rc])=>
  decide (n=es.length)&&decide (k<=es.length)&&decide (len=(us2.length:Int))&&decide (0<=i)&&decide (i<=(us2.length:Int))&&decide (us2.length<=100)&&decide ((es.length:Int)<=400000+2*i)&&(us2.all HI)&&decide (0<=rc)&&decide (rc<=1000000000000000000) && !nl
 |_=>false
def jt:LS->DT (PX×List PV×List Row)
 |([.l f us,.n _,.n k,.l _ us2,.i _,.i i],[.i p0,.i p1,.i p2,.i q0,.i q1,.i q2,.i s0,.i s1,.i s2,.m D0,.m D,.l _ es,.i x,.i y,.i z,.i rc])=>
  .leaf (qK f us (DQ x y z D [] rc (es,k) (us2.drop i.toNat)).1.length (DQ x y z D [] rc (es,k) (us2.drop i.toNat)).2 p0 p1 p2 q0 q1 q2 s0 s1 s2 D0 D false (DQ x y z D [] rc (es,k) (us2.drop i.toNat)).1 x y z rc)
 |_=>.no
def bQ:LS->Nat
 |([.l _ _,.n _,.n _,.l _ _,.i len,.i i],_)=>(len-i).toNat
 |_=>0
theorem aaL:∀ s r,PI s=true->(jt s).run=some r->r.1≠.normal/\(Db Try.prog R55 60 33 (Dg Try.f33 14) [4,7,8,9,10,57,58,59] [4,7,8,9] (G6.put s).1 (G6.put s).2=some r \/
   ∃ s',Db Try.prog R55 60 33 (Dg Try.f33 14) [4,7,8,9,10,57,58,59] [4,7,8,9] (G6.put s).1 (G6.put s).2=some (.normal,G6.put s')/\PI s'=true/\bQ s'<bQ s/\(jt s').run=some r):=by
 intro t r hp hr;unfold PI at hp;split at hp
 ·rename_i f us n k f2 us2 len i p0 p1 p2 q0 q1 q2 s0 s1 s2 D0 D nl es x y z rc;simp only[Aa,Ab,Am]at hp;obtain⟨⟨⟨⟨⟨⟨⟨⟨⟨⟨rfl,h2⟩,rfl⟩,h4⟩,h5⟩,h6⟩,h7⟩,h8⟩,h9⟩,h10⟩,rfl⟩:=hp;have hr':=(Ah hr).symm;refine⟨by rw[hr'];simp,?_⟩;rw[show G6.put ([.l f us,.n es.length,.n k,.l f2 us2,.i (us2.length:Int),.i i],[.i p0,.i p1,.i p2,.i q0,.i q1,.i q2,.i s0,.i s1,.i s2,.m D0,.m D,.l false es,.i x,.i y,.i z,.i rc]) =
   G6.put (PH f us es.length k f2 us2 us2.length i p0 p1 p2 q0 q1 q2 s0 s1 s2 D0 D false es x y z rc) from rfl,aaK]
  by_cases hi:i<(us2.length:Int)
  ·have hu:=Ao.1 h8 _ (Jd h4 hi);have hu0:¬(wL (us2.getD i.toNat .any)).length=0/\(wL (us2.getD i.toNat .any)).length<=1000:=by
    have:HI (us2.getD i.toNat .any)=true:=hu;simp only[HI,Aa,Am,AR,Ab]at this;exact this
   rw[Ds h4 hi]at hr';generalize us2.getD i.toNat .any=e at *;have hp18:PG (JG f us es.length k f2 us2 us2.length i 2 2 2 0 p0 p1 p2 q0 q1 q2 s0 s1 s2 D0 D false es x y z rc (wI e) false (wL e) (Mw e) (cS e 3) (cS e 4) (Jv e) (cI e 6) (cI e 7) (gX (eF e)) (gY (eF e)) (gL (eF e)) (gX (eL e)) (gY (eL e)) (gL (eL e)) false (Te e))=true:=by
    simp only[PG,Aa,Ab,Am,As,AB];exact⟨⟨⟨⟨⟨⟨⟨⟨⟨⟨⟨⟨trivial,h2⟩,trivial⟩,trivial⟩,by decide⟩,by decide⟩,by decide⟩,by decide⟩,by omega⟩,hu0.2⟩,h9⟩,h10⟩,trivial⟩
   rw[Ac hi,DW h4 hi,Ll hu0.1 (by omega),hp18,Dx (n:=i+1) (by omega) (by omega),show(0:Int).toNat=0 from rfl,AF];obtain⟨g1,g2,g3⟩:=JF (x:=x) (y:=y) (z:=z) (D:=D) (ps:=[]) (rc:=rc) (s:=(es,k)) (e:=e) h2;simp only at g1 g2 g3;refine .inr ⟨PH f us (IQ x y z D [] rc (es,k) e).1.length (IQ x y z D [] rc (es,k) e).2 f2 us2 us2.length (i+1) p0 p1 p2 q0 q1 q2 s0 s1 s2 D0 D false (IQ x y z D [] rc (es,k) e).1 x y z rc,rfl,?_,?_,?_⟩
   ·simp only[PI,Aa,Ab,Am];exact⟨⟨⟨⟨⟨⟨⟨⟨⟨⟨trivial,g1⟩,trivial⟩,by omega⟩,by omega⟩,h6⟩,by omega⟩,h8⟩,h9⟩,h10⟩,trivial⟩
   ·simp only[bQ];omega
   ·rw[hr'];rfl
  ·rw[Ai hi];rw[AC (by omega)]at hr';exact .inl (by rw[hr'];rfl)
 ·cases hp
def xJ:CY:=R55.Kw Try.prog [false,false,false,false,false,true,false,false] 33 14 [4,7,8,9,10,57,58,59] [false,false,false,false,false,false,true,false] G6 PI jt
theorem aaM:CG Try.prog xJ.env:=
 aaJ.Kw (n:=60) Try.func33 (show Try.f33.body=some (DY Try.f33) by kernel_rfl) (show(loops (DY Try.f33)).filter (fun b=>Ew b==14)=[Dg Try.f33 14] by kernel_rfl) [false,false,false,false,false,true,false,false] [4,7,8,9,10,57,58,59] [4,7,8,9] [false,false,false,false,false,false,true,false] G6 bQ aaL
def Fo:S1:=⟨116,[(4,.ptr 2 1 0 0),(7,.C9 49),(8,.mp 4),(9,.sl 5),(10,.ptr 6 1 0 0),(15,.ptr 8 1 0 0),(57,.C9 49),(58,Dk),(59,Dk),(74,.sl 11),(75,Dk),(76,Dk)],
 [.one 30 3 aS,.one 30 3 aS,.one 30 3 aS,.map 30 4,.map 30 78,.many 78 5,.GJ 78 5 (.agg [Dk,Dk,Dk,.C9 3,Dk]),.dead,.GJ 49 8 aW,.one 30 3 aS,.one 30 3 aS,.many 116 6]⟩
abbrev JH(f:Bool)(us:List PV)(n k:Nat)(f2:Bool)(us2:List PV)(len i:Int)(n2 k2:Nat)(l2 j p0 p1 p2:Int)(q0 q1 q2:Int)(s0 s1 s2:Int)(D0 D:List (PV×PV))(nl:Bool)(es:List PV)(x y z:Int)(rf:Bool)(rp:List PV)(rc:Int)
 (wi:Int) (wf:Bool) (wl:List PV) (lv:Int) (cs nm:ByteArray) (st:Bool) (wt ds a0 a1 a2 b0 b1 b2:Int) (nl2:Bool) (ab:List PV):LS:=
 ([.l f us,.n n,.n k,.l f2 us2,.i len,.i i,.n n2,.n k2,.i l2,.i j],[.i p0,.i p1,.i p2,.i q0,.i q1,.i q2,.i s0,.i s1,.i s2,.m D0,.m D,.l nl es,.i x,.i y,.i z,.l rf rp,.i rc,
  .i wi,.l wf wl,.i lv,.s cs,.s nm,.b st,.i wt,.i ds,.i a0,.i a1,.i a2,.i b0,.i b1,.i b2,.l nl2 ab])
abbrev qO(f:Bool)(us:List PV)(n k:Nat)(f2:Bool)(us2:List PV)(len i p0 p1 p2:Int)(q0 q1 q2:Int)(s0 s1 s2:Int)(D0 D:List (PV×PV))(nl:Bool)(es:List PV)(x y z:Int)(rf:Bool)(rp:List PV)(rc:Int)
 (wi:Int) (wf:Bool) (wl:List PV) (lv:Int) (cs nm:ByteArray) (st:Bool) (wt ds a0 a1 a2 b0 b1 b2:Int) (nl2:Bool) (ab:List PV):PX×List PV×List Row:=
 (.exit 4,tm 116 [(4,.ptr 2 1 0 0),(7,.C9 f 49 us),(8,.mp 4),(9,.sl 5 n 0 k),(10,.ptr 6 1 0 0),(57,.C9 f2 49 us2),(58,iv len),(59,iv i)],
  (Fo.put (JH f us n k f2 us2 len i 0 0 0 0 p0 p1 p2 q0 q1 q2 s0 s1 s2 D0 D nl es x y z rf rp rc wi wf wl lv cs nm st wt ds a0 a1 a2 b0 b1 b2 nl2 ab)).2)
abbrev qQ(p0 p1 p2:Int)(q0 q1 q2:Int)(s0 s1 s2:Int)(D0 D:List (PV×PV))(nl:Bool)(es:List PV)(x y z:Int)(rf:Bool)(rp:List PV)(rc:Int)
 (wi:Int) (wf:Bool) (wl:List PV) (lv:Int) (cs nm:ByteArray) (st:Bool) (wt ds a0 a1 a2 b0 b1 b2:Int) (nl2:Bool) (ab:List PV) (j:Int):List Row:=
 (Fo.put (JH false [] 0 0 false [] 0 0 0 0 0 0 p0 p1 p2 q0 q1 q2 s0 s1 s2 D0 D nl es x y z rf rp rc wi wf wl lv cs nm st wt ds a0 a1 a2 b0 b1 b2 nl2 ab)).2++[bM (rE ab j),Dt]
theorem qR(f:Bool)(us:List PV)(n k:Nat)(f2:Bool)(us2:List PV)(len i:Int)(n2 k2:Nat)(l2 j p0 p1 p2:Int)(q0 q1 q2:Int)(s0 s1 s2:Int)(D0 D:List (PV×PV))(es:List PV)(x y z:Int)(rf:Bool)(rp:List PV)(rc:Int)
 (wi:Int) (wf:Bool) (wl:List PV) (lv:Int) (cs nm:ByteArray) (st:Bool) (wt ds a0 a1 a2 b0 b1 b2:Int) (nl2:Bool) (ab:List PV):
 Db Try.prog xJ 60 33 (Dg Try.f33 18) [4,7,8,9,10,15,57,58,59,74,75,76] [4,7,8,9,10,57,58,59] (Fo.put (JH f us n k f2 us2 len i n2 k2 l2 j p0 p1 p2 q0 q1 q2 s0 s1 s2 D0 D false es x y z rf rp rc wi wf wl lv cs nm st wt ds a0 a1 a2 b0 b1 b2 nl2 ab)).1 (Fo.put (JH f us n k f2 us2 len i n2 k2 l2 j p0 p1 p2 q0 q1 q2 s0 s1 s2 D0 D false es x y z rf rp rc wi wf wl lv cs nm st wt ds a0 a1 a2 b0 b1 b2 nl2 ab)).2 =
 bif decide (j<l2) then Sa ab n2 k2 j (HM ab n2 (bif Qa (cI (rE ab j) 0) (cI (rE ab j) 1) (cI (rE ab j) 2) x y z then bif !EE D (DV (cI (rE ab j) 3) (cI (rE ab j) 4) (cI (rE ab j) 5)) then
  bif decide (0<rp.length) then bif decide ((0+rp.length)*8<=140737488355328) then bif GQ (qQ p0 p1 p2 q0 q1 q2 s0 s1 s2 D0 D false es x y z rf rp rc wi wf wl lv cs nm st wt ds a0 a1 a2 b0 b1 b2 nl2 ab j) (qQ p0 p1 p2 q0 q1 q2 s0 s1 s2 D0 D false es x y z rf rp rc wi wf wl lv cs nm st wt ds a0 a1 a2 b0 b1 b2 nl2 ab j) then
  bif vv rp wi then bif decide (wl.length<=100000) then bif (es.length==n)&&(decide (k<=n)&&decide ((n+1)*56<=140737488355328)) then
   some (.normal,Fo.put (JH f us (max n (k+1)) (k+1) f2 us2 len i n2 k2 l2 (W (j+1)) p0 p1 p2 q0 q1 q2 s0 s1 s2 D0 D false (es.take k++Hv (cI (rE ab j) 3) (cI (rE ab j) 4) (cI (rE ab j) 5) false (jn rp wi) (W (rc+Du wl))::es.drop (k+1)) x y z rf rp rc wi wf wl lv cs nm st wt ds a0 a1 a2 b0 b1 b2 nl2 ab))
  else none else none else none else none else none else none
  else some (.normal,Fo.put (JH f us n k f2 us2 len i n2 k2 l2 (W (j+1)) p0 p1 p2 q0 q1 q2 s0 s1 s2 D0 D false es x y z rf rp rc wi wf wl lv cs nm st wt ds a0 a1 a2 b0 b1 b2 nl2 ab))
  else some (.normal,Fo.put (JH f us n k f2 us2 len i n2 k2 l2 (W (j+1)) p0 p1 p2 q0 q1 q2 s0 s1 s2 D0 D false es x y z rf rp rc wi wf wl lv cs nm st wt ds a0 a1 a2 b0 b1 b2 nl2 ab))))
 else some (qO f us n k f2 us2 len i p0 p1 p2 q0 q1 q2 s0 s1 s2 D0 D false es x y z rf rp rc wi wf wl lv cs nm st wt ds a0 a1 a2 b0 b1 b2 nl2 ab):=by kernel_rfl
theorem vy(f:Bool)(us:List PV)(k:Nat)(f2:Bool)(us2:List PV)(len i j p0 p1 p2:Int)(q0 q1 q2:Int)(s0 s1 s2:Int)(D0 D:List (PV×PV))(es:List PV)(x y z:Int)(rf:Bool)(rp:List PV)(rc:Int)
 (wi:Int) (wf:Bool) (wl:List PV) (lv:Int) (cs nm:ByteArray) (st:Bool) (wt ds a0 a1 a2 b0 b1 b2:Int) (nl2:Bool) (ab:List PV) (hj:0<=j) (hj2:j<(ab.length:Int)) (hab:ab.length<=2) (hk:k<=es.length) (hes:es.length<=600000) (hwl:wl.length<=1000) (hrc:0<=rc) (hrc2:rc<=1000000000000000000) (hr0:0<rp.length) (hr1:rp.length<=100000):
 Db Try.prog xJ 60 33 (Dg Try.f33 18) [4,7,8,9,10,15,57,58,59,74,75,76] [4,7,8,9,10,57,58,59] (Fo.put (JH f us es.length k f2 us2 len i ab.length ab.length ab.length j p0 p1 p2 q0 q1 q2 s0 s1 s2 D0 D false es x y z rf rp rc wi wf wl lv cs nm st wt ds a0 a1 a2 b0 b1 b2 nl2 ab)).1 (Fo.put (JH f us es.length k f2 us2 len i ab.length ab.length ab.length j p0 p1 p2 q0 q1 q2 s0 s1 s2 D0 D false es x y z rf rp rc wi wf wl lv cs nm st wt ds a0 a1 a2 b0 b1 b2 nl2 ab)).2 =
 some (.normal,Fo.put (JH f us (JO x y z D (rp++[iv wi]) (rc+Du wl) (es,k) (aE ab j)).1.length (JO x y z D (rp++[iv wi]) (rc+Du wl) (es,k) (aE ab j)).2 f2 us2 len i ab.length ab.length ab.length (j+1) p0 p1 p2 q0 q1 q2 s0 s1 s2 D0 D false (JO x y z D (rp++[iv wi]) (rc+Du wl) (es,k) (aE ab j)).1 x y z rf rp rc wi wf wl lv cs nm st wt ds a0 a1 a2 b0 b1 b2 nl2 ab)):=by
 obtain⟨w1,w2⟩:=GL hwl;rw[qR,Ac hj2,Aj,FC rfl hj hj2,DJ rfl,Dx (n:=j+1) (by omega) (by omega),Dx (n:=rc+Du wl) (by omega) (by omega),OM,EM,Ac hr0,Ac (show(0+rp.length)*8<=140737488355328 by omega),bO (wi:=wi) (show rp.length<=1000000 by omega),XG,
  Ac (show wl.length<=100000 by omega),show((es.length==es.length)&&(decide (k<=es.length)&&decide ((es.length+1)*56<=140737488355328)))=true by simp only[AS,BY,Aa,Ab];omega]
 simp only[Aj];unfold JO jq;cases h1:Qa (cI (aE ab j) 0) (cI (aE ab j) 1) (cI (aE ab j) 2) x y z with
 |false=>rfl
 |true=>
  cases h2:EE D (DV (cI (aE ab j) 3) (cI (aE ab j) 4) (cI (aE ab j) 5)) with
  |true=>rfl
  |false=>
   have e1:=NY (z:=vw (aE ab j) (rp++[iv wi]) (rc+Du wl)) hk;simp only[Aj,BS,Bg,e1];rfl
def PJ:LS->Bool
 |([.l _ _,.n n,.n k,.l _ _,.i _,.i _,.n n2,.n k2,.i l2,.i j],[.i _,.i _,.i _,.i _,.i _,.i _,.i _,.i _,.i _,.m _,.m _,.l nl es,.i _,.i _,.i _,.l _ rp,.i rc,
  .i _,.l _ wl,.i _,.s _,.s _,.b _,.i _,.i _,.i _,.i _,.i _,.i _,.i _,.i _,.l _ ab])=>
  decide (n=es.length)&&decide (k<=es.length)&&decide (n2=ab.length)&&decide (k2=ab.length)&&decide (l2=(ab.length:Int))&&decide (0<=j)&&decide (j<=(ab.length:Int))&&decide (ab.length<=2)&&decide ((es.length:Int)<=500000+j)&&decide (wl.length<=1000)&&decide (0<=rc)&&decide (rc<=1000000000000000000) && !nl&&decide (0<rp.length)&&decide (rp.length<=100000)
 |_=>false
def ju:LS->DT (PX×List PV×List Row)
 |([.l f us,.n _,.n k,.l f2 us2,.i len,.i i,.n _,.n _,.i _,.i j],[.i p0,.i p1,.i p2,.i q0,.i q1,.i q2,.i s0,.i s1,.i s2,.m D0,.m D,.l _ es,.i x,.i y,.i z,.l rf rp,.i rc,
  .i wi,.l wf wl,.i lv,.s cs,.s nm,.b st,.i wt,.i ds,.i a0,.i a1,.i a2,.i b0,.i b1,.i b2,.l nl2 ab])=>
  .leaf (qO f us (HH x y z D (rp++[iv wi]) (rc+Du wl) (es,k) (ab.drop j.toNat)).1.length (HH x y z D (rp++[iv wi]) (rc+Du wl) (es,k) (ab.drop j.toNat)).2 f2 us2 len i p0 p1 p2 q0 q1 q2 s0 s1 s2 D0 D false (HH x y z D (rp++[iv wi]) (rc+Du wl) (es,k) (ab.drop j.toNat)).1 x y z rf rp rc wi wf wl lv cs nm st wt ds a0 a1 a2 b0 b1 b2 nl2 ab)
 |_=>.no
def bR:LS->Nat
 |([.l _ _,.n _,.n _,.l _ _,.i _,.i _,.n _,.n _,.i l2,.i j],_)=>(l2-j).toNat
 |_=>0
theorem aaN:∀ s r,PJ s=true->(ju s).run=some r->r.1≠.normal/\(Db Try.prog xJ 60 33 (Dg Try.f33 18) [4,7,8,9,10,15,57,58,59,74,75,76] [4,7,8,9,10,57,58,59] (Fo.put s).1 (Fo.put s).2=some r \/
   ∃ s',Db Try.prog xJ 60 33 (Dg Try.f33 18) [4,7,8,9,10,15,57,58,59,74,75,76] [4,7,8,9,10,57,58,59] (Fo.put s).1 (Fo.put s).2=some (.normal,Fo.put s')/\PJ s'=true/\bR s'<bR s/\(ju s').run=some r):=by
 intro t r hp hr;unfold PJ at hp;split at hp
 ·rename_i f us n k f2 us2 len i n2 k2 l2 j p0 p1 p2 q0 q1 q2 s0 s1 s2 D0 D nl es x y z rf rp rc wi wf wl lv cs nm st wt ds a0 a1 a2 b0 b1 b2 nl2 ab;simp only[Aa,Ab,Am]at hp;obtain⟨⟨⟨⟨⟨⟨⟨⟨⟨⟨⟨⟨⟨⟨rfl,h2⟩,rfl⟩,rfl⟩,rfl⟩,h6⟩,h7⟩,h8⟩,h9⟩,h10⟩,h11⟩,h12⟩,rfl⟩,h14⟩,h15⟩:=hp;have hr':=(Ah hr).symm;refine⟨by rw[hr'];simp,?_⟩;rw[show Fo.put ([.l f us,.n es.length,.n k,.l f2 us2,.i len,.i i,.n ab.length,.n ab.length,.i (ab.length:Int),.i j],[.i p0,.i p1,.i p2,.i q0,.i q1,.i q2,.i s0,.i s1,.i s2,.m D0,.m D,.l false es,.i x,.i y,.i z,.l rf rp,.i rc,
   .i wi,.l wf wl,.i lv,.s cs,.s nm,.b st,.i wt,.i ds,.i a0,.i a1,.i a2,.i b0,.i b1,.i b2,.l nl2 ab])=Fo.put (JH f us es.length k f2 us2 len i ab.length ab.length ab.length j p0 p1 p2 q0 q1 q2 s0 s1 s2 D0 D false es x y z rf rp rc wi wf wl lv cs nm st wt ds a0 a1 a2 b0 b1 b2 nl2 ab) from rfl]
  by_cases hi:j<(ab.length:Int)
  ·rw[vy (hj:=h6) (hj2:=hi) (hab:=h8) (hk:=h2) (hes:=by omega) (hwl:=h10) (hrc:=h11) (hrc2:=h12) (hr0:=h14) (hr1:=h15)];obtain⟨g1,g2,g3⟩:=Kh (x:=x) (y:=y) (z:=z) (D:=D) (ps:=rp++[iv wi]) (c:=rc+Du wl) (s:=(es,k)) (e:=aE ab j) h2;simp only at g1 g2 g3;refine .inr ⟨_,rfl,?_,?_,?_⟩
   ·simp only[PJ,Aa,Ab,Am];exact⟨⟨⟨⟨⟨⟨⟨⟨⟨⟨⟨⟨⟨⟨trivial,g1⟩,trivial⟩,trivial⟩,trivial⟩,by omega⟩,by omega⟩,h8⟩,by omega⟩,h10⟩,h11⟩,h12⟩,trivial⟩,h14⟩,h15⟩
   ·simp only[bR];omega
   ·rw[hr',Ds h6 hi];rfl
  ·rw[qR,Ai hi];rw[AC (by omega)]at hr';exact .inl (by rw[hr'];rfl)
 ·cases hp
def R57:CY:=xJ.Dl 33 18 [4,7,8,9,10,15,57,58,59,74,75,76] [false,false,false,false,false,false,false,false,true,true,true,false] Fo PJ ju
theorem aaP:CG Try.prog R57.env:=
 aaM.Dl (n:=60) Try.func33 (show Try.f33.body=some (DY Try.f33) by kernel_rfl) (show(loops (DY Try.f33)).filter (fun b=>Ew b==18)=[Dg Try.f33 18] by kernel_rfl) [4,7,8,9,10,15,57,58,59,74,75,76] [4,7,8,9,10,57,58,59] [false,false,false,false,false,false,false,false,true,true,true,false] Fo bR aaN
def G7:S1:=⟨116,[(4,.ptr 2 1 0 0),(7,.C9 49),(8,.mp 4),(9,.sl 5),(10,.ptr 6 1 0 0),(57,.C9 49),(58,Dk),(59,Dk)],
 [.one 30 3 aS,.one 30 3 aS,.one 30 3 aS,.map 30 4,.map 30 78,.many 78 5,.GJ 78 5 (.agg [Dk,Dk,Dk,.C9 3,Dk]),.dead]⟩
abbrev PK(f:Bool)(us:List PV)(n k:Nat)(f2:Bool)(us2:List PV)(len i p0 p1 p2:Int)(q0 q1 q2:Int)(s0 s1 s2:Int)(D0 D:List (PV×PV))(nl:Bool)(es:List PV)(x y z:Int)(rf:Bool)(rp:List PV)(rc:Int):LS:=
 ([.l f us,.n n,.n k,.l f2 us2,.i len,.i i],[.i p0,.i p1,.i p2,.i q0,.i q1,.i q2,.i s0,.i s1,.i s2,.m D0,.m D,.l nl es,.i x,.i y,.i z,.l rf rp,.i rc])
abbrev qV(f:Bool)(us:List PV)(n k:Nat)(p0 p1 p2:Int)(q0 q1 q2:Int)(s0 s1 s2:Int)(D0 D:List (PV×PV))(nl:Bool)(es:List PV)(x y z:Int)(rf:Bool)(rp:List PV)(rc:Int):PX×List PV×List Row:=
 (.exit 2,tm 116 [(4,.ptr 2 1 0 0),(7,.C9 f 49 us),(8,.mp 4),(9,.sl 5 n 0 k)],(G7.put (PK f us n k false [] 0 0 p0 p1 p2 q0 q1 q2 s0 s1 s2 D0 D nl es x y z rf rp rc)).2)
theorem aaQ(f:Bool)(us:List PV)(n k:Nat)(f2:Bool)(us2:List PV)(len i p0 p1 p2:Int)(q0 q1 q2:Int)(s0 s1 s2:Int)(D0 D:List (PV×PV))(es:List PV)(x y z:Int)(rf:Bool)(rp:List PV)(rc:Int):
 Db Try.prog R57 60 33 (Dg Try.f33 14) [4,7,8,9,10,57,58,59] [4,7,8,9] (G7.put (PK f us n k f2 us2 len i p0 p1 p2 q0 q1 q2 s0 s1 s2 D0 D false es x y z rf rp rc)).1 (G7.put (PK f us n k f2 us2 len i p0 p1 p2 q0 q1 q2 s0 s1 s2 D0 D false es x y z rf rp rc)).2 =
 bif decide (i<len) then bif F8 us2 i then bif P8 (wL (us2.getD i.toNat .any)) then
  bif PJ (JH f us n k f2 us2 len i 2 2 2 0 p0 p1 p2 q0 q1 q2 s0 s1 s2 D0 D false es x y z rf rp rc (wI (us2.getD i.toNat .any)) false (wL (us2.getD i.toNat .any)) (Mw (us2.getD i.toNat .any)) (cS (us2.getD i.toNat .any) 3) (cS (us2.getD i.toNat .any) 4) (Jv (us2.getD i.toNat .any)) (cI (us2.getD i.toNat .any) 6) (cI (us2.getD i.toNat .any) 7)
    (gX (eF (us2.getD i.toNat .any))) (gY (eF (us2.getD i.toNat .any))) (gL (eF (us2.getD i.toNat .any))) (gX (eL (us2.getD i.toNat .any))) (gY (eL (us2.getD i.toNat .any))) (gL (eL (us2.getD i.toNat .any))) false (Te (us2.getD i.toNat .any))) then
   some (.normal,G7.put (PK f us (HH x y z D (rp++[iv (wI (us2.getD i.toNat .any))]) (rc+Du (wL (us2.getD i.toNat .any))) (es,k) ((Te (us2.getD i.toNat .any)).drop (0:Int).toNat)).1.length (HH x y z D (rp++[iv (wI (us2.getD i.toNat .any))]) (rc+Du (wL (us2.getD i.toNat .any))) (es,k) ((Te (us2.getD i.toNat .any)).drop (0:Int).toNat)).2 f2 us2 len (W (i+1)) p0 p1 p2 q0 q1 q2 s0 s1 s2 D0 D false
    (HH x y z D (rp++[iv (wI (us2.getD i.toNat .any))]) (rc+Du (wL (us2.getD i.toNat .any))) (es,k) ((Te (us2.getD i.toNat .any)).drop (0:Int).toNat)).1 x y z rf rp rc)) else none else none else none
 else some (qV f us n k p0 p1 p2 q0 q1 q2 s0 s1 s2 D0 D false es x y z rf rp rc):=by kernel_rfl
def PL:LS->Bool
 |([.l _ _,.n n,.n k,.l _ us2,.i len,.i i],[.i _,.i _,.i _,.i _,.i _,.i _,.i _,.i _,.i _,.m _,.m _,.l nl es,.i _,.i _,.i _,.l _ rp,.i rc])=>
  decide (n=es.length)&&decide (k<=es.length)&&decide (len=(us2.length:Int))&&decide (0<=i)&&decide (i<=(us2.length:Int))&&decide (us2.length<=100)&&decide ((es.length:Int)<=400000+2*i)&&(us2.all HI)&&decide (0<=rc)&&decide (rc<=1000000000000000000) && !nl&&decide (0<rp.length)&&decide (rp.length<=100000)
 |_=>false
def jv:LS->DT (PX×List PV×List Row)
 |([.l f us,.n _,.n k,.l _ us2,.i _,.i i],[.i p0,.i p1,.i p2,.i q0,.i q1,.i q2,.i s0,.i s1,.i s2,.m D0,.m D,.l _ es,.i x,.i y,.i z,.l rf rp,.i rc])=>
  .leaf (qV f us (DQ x y z D rp rc (es,k) (us2.drop i.toNat)).1.length (DQ x y z D rp rc (es,k) (us2.drop i.toNat)).2 p0 p1 p2 q0 q1 q2 s0 s1 s2 D0 D false (DQ x y z D rp rc (es,k) (us2.drop i.toNat)).1 x y z rf rp rc)
 |_=>.no
def bS:LS->Nat
 |([.l _ _,.n _,.n _,.l _ _,.i len,.i i],_)=>(len-i).toNat
 |_=>0
theorem aaR:∀ s r,PL s=true->(jv s).run=some r->r.1≠.normal/\(Db Try.prog R57 60 33 (Dg Try.f33 14) [4,7,8,9,10,57,58,59] [4,7,8,9] (G7.put s).1 (G7.put s).2=some r \/
   ∃ s',Db Try.prog R57 60 33 (Dg Try.f33 14) [4,7,8,9,10,57,58,59] [4,7,8,9] (G7.put s).1 (G7.put s).2=some (.normal,G7.put s')/\PL s'=true/\bS s'<bS s/\(jv s').run=some r):=by
 intro t r hp hr;unfold PL at hp;split at hp
 ·rename_i f us n k f2 us2 len i p0 p1 p2 q0 q1 q2 s0 s1 s2 D0 D nl es x y z rf rp rc;simp only[Aa,Ab,Am]at hp;obtain⟨⟨⟨⟨⟨⟨⟨⟨⟨⟨⟨⟨rfl,h2⟩,rfl⟩,h4⟩,h5⟩,h6⟩,h7⟩,h8⟩,h9⟩,h10⟩,rfl⟩,h14⟩,h15⟩:=hp;have hr':=(Ah hr).symm;refine⟨by rw[hr'];simp,?_⟩;rw[show G7.put ([.l f us,.n es.length,.n k,.l f2 us2,.i (us2.length:Int),.i i],[.i p0,.i p1,.i p2,.i q0,.i q1,.i q2,.i s0,.i s1,.i s2,.m D0,.m D,.l false es,.i x,.i y,.i z,.l rf rp,.i rc]) =
   G7.put (PK f us es.length k f2 us2 us2.length i p0 p1 p2 q0 q1 q2 s0 s1 s2 D0 D false es x y z rf rp rc) from rfl,aaQ]
  by_cases hi:i<(us2.length:Int)
  ·have hu:=Ao.1 h8 _ (Jd h4 hi);have hu0:¬(wL (us2.getD i.toNat .any)).length=0/\(wL (us2.getD i.toNat .any)).length<=1000:=by
    have:HI (us2.getD i.toNat .any)=true:=hu;simp only[HI,Aa,Am,AR,Ab]at this;exact this
   rw[Ds h4 hi]at hr';generalize us2.getD i.toNat .any=e at *;have hp18:PJ (JH f us es.length k f2 us2 us2.length i 2 2 2 0 p0 p1 p2 q0 q1 q2 s0 s1 s2 D0 D false es x y z rf rp rc (wI e) false (wL e) (Mw e) (cS e 3) (cS e 4) (Jv e) (cI e 6) (cI e 7) (gX (eF e)) (gY (eF e)) (gL (eF e)) (gX (eL e)) (gY (eL e)) (gL (eL e)) false (Te e))=true:=by
    simp only[PJ,Aa,Ab,Am,As,AB];exact⟨⟨⟨⟨⟨⟨⟨⟨⟨⟨⟨⟨⟨⟨trivial,h2⟩,trivial⟩,trivial⟩,by decide⟩,by decide⟩,by decide⟩,by decide⟩,by omega⟩,hu0.2⟩,h9⟩,h10⟩,trivial⟩,h14⟩,h15⟩
   rw[Ac hi,DW h4 hi,Ll hu0.1 (by omega),hp18,Dx (n:=i+1) (by omega) (by omega),show(0:Int).toNat=0 from rfl,AF];obtain⟨g1,g2,g3⟩:=JF (x:=x) (y:=y) (z:=z) (D:=D) (ps:=rp) (rc:=rc) (s:=(es,k)) (e:=e) h2;simp only at g1 g2 g3;refine .inr ⟨PK f us (IQ x y z D rp rc (es,k) e).1.length (IQ x y z D rp rc (es,k) e).2 f2 us2 us2.length (i+1) p0 p1 p2 q0 q1 q2 s0 s1 s2 D0 D false (IQ x y z D rp rc (es,k) e).1 x y z rf rp rc,rfl,?_,?_,?_⟩
   ·simp only[PL,Aa,Ab,Am];exact⟨⟨⟨⟨⟨⟨⟨⟨⟨⟨⟨⟨trivial,g1⟩,trivial⟩,by omega⟩,by omega⟩,h6⟩,by omega⟩,h8⟩,h9⟩,h10⟩,trivial⟩,h14⟩,h15⟩
   ·simp only[bS];omega
   ·rw[hr'];rfl
  ·rw[Ai hi];rw[AC (by omega)]at hr';exact .inl (by rw[hr'];rfl)
 ·cases hp
def R58:CY:=R57.Dl 33 14 [4,7,8,9,10,57,58,59] [false,false,false,false,false,false,true,false] G7 PL jv
theorem qW:CG Try.prog R58.env:=
 aaP.Dl (n:=60) Try.func33 (show Try.f33.body=some (DY Try.f33) by kernel_rfl) (show(loops (DY Try.f33)).filter (fun b=>Ew b==14)=[Dg Try.f33 14] by kernel_rfl) [4,7,8,9,10,57,58,59] [4,7,8,9] [false,false,false,false,false,false,true,false] G7 bS aaR
abbrev DK(x y z c:Int):PV:=.agg [iv x,iv y,iv z,.val (.slice none 0 0),iv c]
abbrev Um(x y z c:Int):Row:={ es:=[DK x y z c],s:=5,t:=78,bv:=false }
abbrev rwz:Row:={ es:=[Jg],s:=5,t:=78,bv:=false }
theorem agi(x y z c:Int):Jx Try.prog R58 60 60 [.sl 0 1 0 1,.fn (.func 61) [] [.ptr 1 1 0 0]] [Um x y z c,Um x y z c] =
 bif Qa x y z x y z then some (.sl 0 1 0 0,[rwz,Um x y z c]) else some (.sl 0 1 0 1,[Um x y z c,Um x y z c]):=by kernel_rfl
def aaS:List PV->List Row->Option (DT (PV×List Row))
 | [.sl 0 1 0 1,.fn (.func 61) [] [.ptr 1 1 0 0]],[⟨[.agg [.val (.int .i64 x),.val (.int .i64 y),.val (.int .i64 z),.val (.slice none 0 0),.val (.int .i64 c)]],5,78,false,true,false,none,false⟩,
   ⟨[.agg [.val (.int .i64 a),.val (.int .i64 b),.val (.int .i64 d),.val (.slice none 0 0),.val (.int .i64 e)]],5,78,false,true,false,none,false⟩]=>
  some (.br (dB (x=a/\y=b/\z=d/\c=e)) (.leaf (.sl 0 1 0 0,[rwz,Um x y z c])) .no)
 |_,_=>none
def vz(ags:List PV)(H:List Row):Option (DT (PV×List Row)):=
 match H with
 |r::_=>(match r.bv with |true=>cDf ags H |false=>aaS ags H)
 | []=>none
theorem agj(args:List PV)(H:List Row)(d:DT (PV×List Row))(q:PV)(H':List Row)(h:vz args H=some d)(hd:d.run=some (q,H')):Fa Try.prog 0 60 args H q H':=by
 unfold vz at h;split at h
 ·split at h
  ·exact oDf args _ d q H' h hd
  ·unfold aaS at h;split at h
   ·rename_i x y z c a b d0 e heq;rw[heq];cases h;obtain⟨hc,he⟩:=FU hd;cases he;rw[Dy]at hc;obtain⟨rfl,rfl,rfl,rfl⟩:=hc;refine(DH qW ((agi x y z c).trans ?_)).2;rw[show Qa x y z x y z=true by simp[Qa]];rfl
   ·cases h
 ·cases h
def qZ:CY:=R58.E7 60 vz
theorem q5:CG Try.prog qZ.env:=qW.E7 eDf agj
def Qb:S1:=⟨116,[(4,.ptr 2 1 0 0),(7,.C9 49),(8,.mp 4),(9,.sl 5)],
 [.one 30 3 aS,.one 30 3 aS,.one 30 3 aS,.map 30 4,.map 30 78,.many 78 5]⟩
abbrev ei(f:Bool)(us:List PV)(n k:Nat)(p0 p1 p2:Int)(q0 q1 q2:Int)(s0 s1 s2:Int)(D0 D:List (PV×PV))(nl:Bool)(es:List PV):LS:=
 ([.l f us,.n n,.n k],[.i p0,.i p1,.i p2,.i q0,.i q1,.i q2,.i s0,.i s1,.i s2,.m D0,.m D,.l nl es])
abbrev xK(p0 p1 p2:Int)(q0 q1 q2:Int)(s0 s1 s2:Int)(D0 D:List (PV×PV)):PX×List PV×List Row:=
 (.ret,tm 116 [(6,.mp 4)],(Qb.put (ei false [] 0 0 p0 p1 p2 q0 q1 q2 s0 s1 s2 D0 D true [])).2.take 5++[Dt])
theorem q6P(f:Bool)(us:List PV)(n k:Nat)(p0 p1 p2:Int)(q0 q1 q2:Int)(s0 s1 s2:Int)(D0 D:List (PV×PV))(es:List PV):
 Db Try.prog qZ 60 33 (Dg Try.f33 6) [4,7,8,9] [6] (Qb.put (ei f us n k p0 p1 p2 q0 q1 q2 s0 s1 s2 D0 D false es)).1 (Qb.put (ei f us n k p0 p1 p2 q0 q1 q2 s0 s1 s2 D0 D false es)).2 =
 HM es n (bif decide (n=es.length)&&decide (k<=es.length)&&decide (k<=1000000)&&(es.take k).all Kg then
  bif !decide ((k:Int) > 0) then some (xK p0 p1 p2 q0 q1 q2 s0 s1 s2 D0 D) else
  HM es n (bif decide (n=es.length)&&decide (k<=es.length)&&decide (es.length<=1000000)&&E1 Uk es then
   bif EE D (DV (gX (Dj es k)) (gY (Dj es k)) (gL (Dj es k))) then some (.normal,Qb.put (ei f us n (MU es k).length p0 p1 p2 q0 q1 q2 s0 s1 s2 D0 D false (NZ es k))) else
   bif PL (PK f us n (MU es k).length f us us.length 0 p0 p1 p2 q0 q1 q2 s0 s1 s2 D0 (EU D (DV (gX (Dj es k)) (gY (Dj es k)) (gL (Dj es k))) (HG (Dj es k))) false (NZ es k) (gX (Dj es k)) (gY (Dj es k)) (gL (Dj es k)) false (rP (Dj es k)) (rC (Dj es k))) then
    some (.normal,Qb.put (ei f us (OR us D es k).1.length (OR us D es k).2 p0 p1 p2 q0 q1 q2 s0 s1 s2 D0 (EU D (DV (gX (Dj es k)) (gY (Dj es k)) (gL (Dj es k))) (HG (Dj es k))) false (OR us D es k).1)) else none
  else none) else none):=by kernel_rfl
def bT:S1:=⟨116,[(4,.ptr 2 1 0 0),(7,.C9 49),(8,.mp 4),(9,.sl 5)],
 [.one 30 3 aS,.one 30 3 aS,.one 30 3 aS,.map 30 4,.map 30 78,.GJ 78 5 (.agg [Dk,Dk,Dk,.nil,Dk])]⟩
abbrev nY(f:Bool)(us:List PV)(n k:Nat)(p0 p1 p2:Int)(q0 q1 q2:Int)(s0 s1 s2:Int)(D0 D:List (PV×PV))(x y z c:Int):LS:=
 ([.l f us,.n n,.n k],[.i p0,.i p1,.i p2,.i q0,.i q1,.i q2,.i s0,.i s1,.i s2,.m D0,.m D,.i x,.i y,.i z,.i c])
theorem agk(f:Bool)(us:List PV)(p0 p1 p2:Int)(q0 q1 q2:Int)(s0 s1 s2:Int)(D0:List (PV×PV))(x y z c:Int):
 Db Try.prog qZ 60 33 (Dg Try.f33 6) [4,7,8,9] [6] (bT.put (nY f us 1 1 p0 p1 p2 q0 q1 q2 s0 s1 s2 D0 [] x y z c)).1 (bT.put (nY f us 1 1 p0 p1 p2 q0 q1 q2 s0 s1 s2 D0 [] x y z c)).2 =
 bif dB (x=x/\y=y/\z=z/\c=c) then
  bif PI (PH f us 1 0 f us us.length 0 p0 p1 p2 q0 q1 q2 s0 s1 s2 D0 [(DV x y z,DK x y z c)] false [Jg] x y z c) then
   some (.normal,Qb.put (ei f us (DQ x y z [(DV x y z,DK x y z c)] [] c ([Jg],0) (us.drop (0:Int).toNat)).1.length (DQ x y z [(DV x y z,DK x y z c)] [] c ([Jg],0) (us.drop (0:Int).toNat)).2 p0 p1 p2 q0 q1 q2 s0 s1 s2 D0 [(DV x y z,DK x y z c)] false (DQ x y z [(DV x y z,DK x y z c)] [] c ([Jg],0) (us.drop (0:Int).toNat)).1)) else none
 else none:=by kernel_rfl
abbrev Hz(t:T3):PV:=DV t.1 t.2.1 t.2.2
def Ki(e:PV):Rc:=(DA e,(rC e,Dn (rP e)))
def Fw(r:Rc):PV:=Hv r.1.1 r.1.2.1 r.1.2.2 false (r.2.2.map iv) r.2.1
theorem jw(r:Rc):Ki (Fw r)=r:=by
 show(r.1,(r.2.1,Dn (r.2.2.map iv)))=r
 rw[Lo]
theorem nZ(a b:Rc):xG (Fw a) (Fw b)=decide (Ua a.2 b.2):=by
 unfold xG;rw[B2];show Ve a.2.1 (a.2.2.map iv) b.2.1 (b.2.2.map iv)<0 ↔ _
 rw[iY,Lo,Lo]
theorem Vk:∀(N:List Rc) (b:Rc),eh false (Fw b) (N.map Fw)=Fw (D3 b N)
 | [],_=>rfl
 |x::N,b=>by
  rw[AV,eh,Ar,nZ,D3];cases decide (Ua x.2 b.2) with
  |true=>exact Vk N x
  |false=>exact Vk N b
theorem bU(n:Rc)(N:List Rc)(z:PV):eh true z ((n::N).map Fw)=Fw (D3 n N):=by
 rw[AV,eh,Aj];exact Vk N n
theorem n0(t:T3)(r:Rc):IM t.1 t.2.1 t.2.2 (Fw r)=decide (r.1=t):=by
 cases h:IM t.1 t.2.1 t.2.2 (Fw r) with
 |true=>have:=I3.1 h;exact(Ac this).symm
 |false=>
  refine(Ai fun e=>?_).symm;rw[show IM t.1 t.2.1 t.2.2 (Fw r)=true from I3.2 e]at h;cases h
theorem SI(t:T3):∀ N:List Rc,Df (IM t.1 t.2.1 t.2.2) (N.map Fw)=(Gt t N).map Fw
 | []=>rfl
 |x::N=>by
  have ih:=SI t N;show List.filter _ (Fw x::N.map Fw)=_
  rw[BU,n0];show _=(List.filter _ (x::N)).map Fw
  rw[BU];cases decide (x.1=t) with
  |true=>exact ih
  |false=>
   show Fw x::Df _ (N.map Fw)=Fw x::(Gt t N).map Fw
   rw[ih]
def Qc(r:Rc):PV:=if r.2.2=[] then DK r.1.1 r.1.2.1 r.1.2.2 r.2.1 else Fw r
def FZ(r:Rc):PV×PV:=(Hz r.1,Qc r)
theorem I5{s t:T3}:JN (Hz s) (Hz t)=decide (s=t):=by
 cases h:JN (Hz s) (Hz t) with
 |true=>
  rw[QI]at h;exact(Ac (Prod.ext h.1 (Prod.ext h.2.1 h.2.2))).symm
 |false=>
  refine(Ai fun e=>?_).symm;subst e;rw[show JN (Hz s) (Hz s)=true from QI.2 ⟨rfl,rfl,rfl⟩]at h;cases h
theorem Lq(t:T3):∀ D:List Rc,EE (D.map FZ) (Hz t)=decide (t∈D.map (·.1))
 | []=>by simp[EE]
 |x::D=>by
  show(JN (Hz t) (Hz x.1)||EE (D.map FZ) (Hz t))=_
  rw[I5,Lq t D];by_cases h:t=x.1
  ·rw[Ac h,Ac (show t∈(x::D).map (·.1) by rw[h];simp)];rfl
  ·rw[Ai h,Bt,B2];simp only[AV,AK,h,Dw]
theorem XH{t:T3}{v:PV}:∀{D:List Rc},t∉D.map (·.1)->EU (D.map FZ) (Hz t) v=D.map FZ++[(Hz t,v)]
 | [],_=>rfl
 |x::D,h=>by
  simp only[AV,AK,not_or]at h;show(bif JN (Hz t) (Hz x.1) then _ else (Hz x.1,Qc x)::EU (D.map FZ) (Hz t) v)=_
  rw[I5,Ai h.1,Ar,XH h.2];rfl
def n7(x y z:Int)(D:List (PV×PV))(ps:List PV)(c:Int)(a:PV):List PV:=bif jq a x y z D then [vw a ps c] else []
def nxW(x y z:Int)(D:List (PV×PV))(ps:List PV)(rc:Int)(e:PV):List PV:=(Te e).flatMap (n7 x y z D (ps++[iv (wI e)]) (rc+Du (wL e)))
theorem XI{x y z:Int}{D:List (PV×PV)}{ps:List PV}{c:Int}{s:List PV×Nat}{e:PV}(h:s.2<=s.1.length):(JO x y z D ps c s e).1.take (JO x y z D ps c s e).2=s.1.take s.2++n7 x y z D ps c e:=by
 unfold JO n7;cases jq e x y z D with
 |false=>show s.1.take s.2=_++[];rw[BL]
 |true=>exact jo h
theorem ej{x y z:Int}{D:List (PV×PV)}{ps:List PV}{rc:Int}{s:List PV×Nat}{e:PV}(h:s.2<=s.1.length):(IQ x y z D ps rc s e).1.take (IQ x y z D ps rc s e).2=s.1.take s.2++nxW x y z D ps rc e:=by
 have a:=Kh (x:=x) (y:=y) (z:=z) (D:=D) (ps:=ps++[iv (wI e)]) (c:=rc+Du (wL e)) (s:=s) (e:=jr (eF e) (eL e)) h;show(JO x y z D _ _ (JO x y z D _ _ s _) _).1.take (JO x y z D _ _ (JO x y z D _ _ s _) _).2=_
 rw[XI a.1,XI h,Bu];show _=_++(n7 _ _ _ _ _ _ _++(n7 _ _ _ _ _ _ _++[]))
 rw[BL]
theorem OT{x y z:Int}{D:List (PV×PV)}{ps:List PV}{rc:Int}:∀{l:List PV} {s:List PV×Nat},s.2<=s.1.length->(DQ x y z D ps rc s l).2<=(DQ x y z D ps rc s l).1.length/\(DQ x y z D ps rc s l).1.length<=s.1.length+2*l.length
 | [],s,h=>⟨h,by simp[DQ]⟩
 |e::l,s,h=>by
  obtain⟨a1,a2,a3⟩:=JF (x:=x) (y:=y) (z:=z) (D:=D) (ps:=ps) (rc:=rc) (s:=s) (e:=e) h;obtain⟨b1,b2⟩:=OT (l:=l) a1;refine⟨b1,?_⟩;show(DQ x y z D ps rc (IQ x y z D ps rc s e) l).1.length<=_
  simp only[As];omega
theorem MV{x y z:Int}{D:List (PV×PV)}{ps:List PV}{rc:Int}:∀{l:List PV} {s:List PV×Nat},s.2<=s.1.length->(DQ x y z D ps rc s l).1.take (DQ x y z D ps rc s l).2=s.1.take s.2++l.flatMap (nxW x y z D ps rc)
 | [],s,_=>by show s.1.take s.2=_++[];rw[BL]
 |e::l,s,h=>by
  obtain⟨a1,_,_⟩:=JF (x:=x) (y:=y) (z:=z) (D:=D) (ps:=ps) (rc:=rc) (s:=s) (e:=e) h;show(DQ x y z D ps rc (IQ x y z D ps rc s e) l).1.take (DQ x y z D ps rc (IQ x y z D ps rc s e) l).2=_
  rw[MV a1,ej h,Bu,C8]
theorem jx{es:List PV}{k:Nat}{z:PV}(h:Ed Uk es)(hz:Uk z=z):Ed Uk (nX es k z):=fun e he=>by
 rcases A3.1 he with he |he
 ·exact h e (B0 he)
 ·rcases AK.1 he with rfl |he
  ·exact hz
  ·exact h e (BP he)
theorem XJ{x y z:Int}{D:List (PV×PV)}{ps:List PV}{c:Int}{s:List PV×Nat}{e:PV}(h:Ed Uk s.1):Ed Uk (JO x y z D ps c s e).1:=by
 unfold JO;cases jq e x y z D with
 |false=>exact h
 |true=>exact jx h rfl
theorem MW{x y z:Int}{D:List (PV×PV)}{ps:List PV}{rc:Int}:∀{l:List PV} {s:List PV×Nat},Ed Uk s.1->Ed Uk (DQ x y z D ps rc s l).1
 | [],_,h=>h
 |_::l,_,h=>MW (l:=l) (XJ (XJ h))
theorem SJ{d:PV->Bool}{es:List PV}{k:Nat}(h:Ed Uk es):Ed Uk (FY d Jg es k):=fun e he=>by
 unfold FY at he;rcases A3.1 he with he |he
 ·rcases A3.1 he with he |he
  ·unfold Df at he;exact h e (B0 (Bj.1 he).1)
  ·rw[(List.mem_replicate.1 he).2];rfl
 ·exact h e (BP he)
theorem SK{d:PV->Bool}{z:PV}{es:List PV}{k:Nat}:(FY d z es k).take (Df d (es.take k)).length=Df d (es.take k):=by
 unfold FY;rw[Bu,List.take_left'];rfl
theorem n8{t:T3}{D:List Rc}(a b:PV):jq (jr a b) t.1 t.2.1 t.2.2 (D.map FZ)=(decide (DA a=t) && !decide (DA b∈D.map (·.1))):=by
 unfold jq;rw[<- Lq];congr 1
 show Qa (gX a) (gY a) (gL a) t.1 t.2.1 t.2.2=_
 cases h:Qa (gX a) (gY a) (gL a) t.1 t.2.1 t.2.2 with
 |true=>
  simp only[Qa,Bq,Aa,Ay]at h;exact(Ac (Prod.ext h.1.1 (Prod.ext h.1.2 h.2))).symm
 |false=>
  refine(Ai fun e=>?_).symm;have h1:gX a=t.1:=congrArg (·.1) e;have h2:gY a=t.2.1:=congrArg (·.2.1) e;have h3:gL a=t.2.2:=congrArg (·.2.2) e;rw[h1,h2,h3]at h;simp[Qa]at h
def xQ(D:List Rc)(r:Rc)(g:Eg):Option Rc:=if g.1=r.1/\g.2.1∉D.map (·.1) then some (g.2.1,JC r.2 g.2.2.1 g.2.2.2) else none
theorem bV{D:List Rc}{r:Rc}(a b:PV)(id w:Int):n7 r.1.1 r.1.2.1 r.1.2.2 (D.map FZ) (r.2.2.map iv++[iv id]) (r.2.1+w) (jr a b)=((xQ D r (DA a,DA b,id,w)).toList).map Fw:=by
 unfold n7 xQ;rw[n8];by_cases h1:DA a=r.1
 ·by_cases h2:DA b∈D.map (·.1)
  ·rw[Ac h1,Ac h2,Aq (fun h=>h.2 h2)];rfl
  ·rw[Ac h1,Ai h2,Ak ⟨h1,h2⟩];show [vw (jr a b) (r.2.2.map iv++[iv id]) (r.2.1+w)]=[Fw (DA b,JC r.2 id w)]
   have:r.2.2.map iv++[iv id]=(r.2.2++[id]).map iv:=by simp
   rw[this];rfl
 ·rw[Ai h1,Aq (fun h=>h1 h.1)];rfl
theorem n9{D:List Rc}{r:Rc}(e:PV):nxW r.1.1 r.1.2.1 r.1.2.2 (D.map FZ) (r.2.2.map iv) r.2.1 e=(HN (eE e) D r).map Fw:=by
 show n7 _ _ _ _ _ _ (jr (eF e) (eL e))++(n7 _ _ _ _ _ _ (jr (eL e) (eF e))++[])=((eE e).filterMap (xQ D r)).map Fw
 rw[bV,bV,BL];unfold eE;rw[CK,CK,List.filterMap_nil];cases xQ D r (DA (eF e),DA (eL e),wI e,Du (wL e)) <;> cases xQ D r (DA (eL e),DA (eF e),wI e,Du (wL e)) <;> rfl
theorem Vl{D:List Rc}{r:Rc}:∀ us:List PV,us.flatMap (nxW r.1.1 r.1.2.1 r.1.2.2 (D.map FZ) (r.2.2.map iv) r.2.1)=(HN (us.flatMap eE) D r).map Fw
 | []=>rfl
 |e::us=>by
  rw[C8,C8,n9,Vl us];show _=((eE e++us.flatMap eE).filterMap (xQ D r)).map Fw
  rw[List.filterMap_append,Bz];rfl
def ER(x:PV×PV):Rc:=(DA x.1,(rC x.2,Dn (rP x.2)))
theorem SL(r:Rc):ER (FZ r)=r:=by
 unfold ER FZ Qc;split
 ·rename_i h;show(r.1,(r.2.1,([]:List Int)))=r
  rw[<- h]
 ·show(r.1,(r.2.1,Dn (r.2.2.map iv)))=r
  rw[Lo]
theorem Kj(D:List Rc):(D.map FZ).map ER=D:=by
 rw[Cq,show ER ∘ FZ=id from funext SL,List.map_id]
theorem Kk(N:List Rc):(N.map Fw).map Ki=N:=by
 rw[Cq,show Ki ∘ Fw=id from funext jw,List.map_id]
abbrev gU(us:List PV):List Eg:=us.flatMap eE
abbrev ZL(us:List PV)(s:T3):List T3:=s::(gU us).map (·.2.1)
abbrev kU:Int:=3037000499000
theorem Vm:∀ us:List PV,(gU us).length=2*us.length
 | []=>rfl
 |e::us=>by
  have ih:=Vm us;show(eE e++gU us).length=_
  rw[Ap,ih];show 2+2*us.length=2*(us.length+1)
  omega
theorem Lr{us:List PV}(s:T3)(h:us.all HI=true):jf (gU us) (ZL us s) kU where
 k0:=by decide
 nn e he:=by
  obtain⟨w,hw,he⟩:=List.mem_flatMap.1 he;have hu:=Ao.1 h w hw;simp only[HI,Aa,Ab]at hu;have:=GL hu.2;rcases AK.1 he with rfl |he
  ·exact this
  ·rw[AI.1 he];exact this
 to e he:=AU _ (Br he)
structure P6(us:List PV)(s:T3)(D:List (PV×PV))(es:List PV)(k:Nat):Prop where
 use:us.all HI=true
 Tp:us.length<=100
 hk:k<=es.length
 norm:Ed Uk es
 take:es.take k=((es.take k).map Ki).map Fw
 dD:D=(D.map ER).map FZ
 dij:Kf (gU us) s (ZL us s) kU (D.map ER) ((es.take k).map Ki)
 ne:∀ x∈(es.take k).map Ki,x.2.2≠[]
 len:es.length<=1+200*D.length
abbrev Un(us:List PV)(s:T3)(D:List (PV×PV))(es:List PV)(k:Nat):Nat:=mu (gU us) (ZL us s) (D.map ER) ((es.take k).map Ki)
abbrev KF(us:List PV)(s:T3)(D:List (PV×PV))(es:List PV)(k:Nat):List (PV×PV):=(Je (gU us) (Un us s D es k+1) (D.map ER) ((es.take k).map Ki)).map FZ
theorem P6.vA{us:List PV}{s:T3}{D:List (PV×PV)}{es:List PV}{k:Nat}(h:P6 us s D es k):D.length<=201/\es.length<=40201:=by
 have h1:=h.dij.cap;have h2:=Vm us;have h3:=h.Tp;have h4:=h.len;simp only[AP,As]at h1;omega
theorem P6.nil{us:List PV}{s:T3}{D:List (PV×PV)}{es:List PV}(h:P6 us s D es 0):KF us s D es 0=D:=by
 unfold KF;rw[CV,Bs,Je];exact h.dD.symm
theorem P6.cons{us:List PV}{s:T3}{D:List (PV×PV)}{es:List PV}{k:Nat}(h:P6 us s D es k)(hk:0<k):∃ n N,es.take k=(n::N).map Fw/\(es.take k).map Ki=n::N:=by
 cases hN:(es.take k).map Ki with
 |nil=>
  have:=congrArg List.length hN;rw[AP,Az,AB]at this;have:=h.hk;omega
 |cons n N=>exact⟨n,N,by rw[h.take,hN],rfl⟩
theorem P6.known{us:List PV}{s:T3}{D:List (PV×PV)}{es:List PV}{k:Nat}(h:P6 us s D es k)(hk:0<k)(hm:EE D (DV (gX (Dj es k)) (gY (Dj es k)) (gL (Dj es k)))=true):
  P6 us s D (NZ es k) (MU es k).length/\Un us s D (NZ es k) (MU es k).length<Un us s D es k/\KF us s D (NZ es k) (MU es k).length=KF us s D es k:=by
 obtain⟨n,N,h1,h2⟩:=h.cons hk;obtain⟨m1,m2⟩:=G5 (N:=N) (b:=n);have hb:Dj es k=Fw (D3 n N):=by show eh true _ (es.take k)=_;rw[h1];exact bU n N _
 have hkp:MU es k=(Gt (D3 n N).1 (n::N)).map Fw:=by
  show Df (IM (gX (Dj es k)) (gY (Dj es k)) (gL (Dj es k))) (es.take k)=_
  rw[hb,h1];exact SI (D3 n N).1 (n::N)
 rw[hb,h.dD]at hm;have hm':(D3 n N).1∈(D.map ER).map (·.1):=AN ((Lq (D3 n N).1 (D.map ER)).symm.trans hm);have hd:=h.dij;rw[h2]at hd;obtain⟨g1,g2⟩:=hd.known m1 hm';have htk:(NZ es k).take (MU es k).length=MU es k:=SK;have hdec:((NZ es k).take (MU es k).length).map Ki=Gt (D3 n N).1 (n::N):=by rw[htk,hkp,Kk]
 have hlen:(NZ es k).length=es.length:=IC h.hk;have hle:(MU es k).length<=k:=by
  have:=ED (d:=IM (gX (Dj es k)) (gY (Dj es k)) (gL (Dj es k))) (es.take k);rw[Az]at this;show(Df _ (es.take k)).length<=k
  omega
 refine⟨⟨h.use,h.Tp,by rw[hlen];have:=h.hk;omega,SJ h.norm,by rw[hdec,htk,hkp],h.dD,by rw[hdec];exact g1,fun x hx=>?_,by rw[hlen];exact h.len⟩,?_,?_⟩
 ·rw[hdec]at hx;exact h.ne x (by rw[h2];exact(Bj.1 hx).1)
 ·unfold Un;rw[hdec,h2];exact g2
 ·unfold KF;rw[hdec];have e1:Je (gU us) (Un us s D es k+1) (D.map ER) ((es.take k).map Ki)=Je (gU us) (Un us s D es k) (D.map ER) (Gt (D3 n N).1 (n::N)):=by
   rw[h2,Je,Ac hm',Aj]
  rw[e1];congr 1
  refine JE (Lr s h.use) g1 ?_ ?_
  ·unfold Un;rw[hdec];omega
  ·unfold Un;rw[h2];exact g2
theorem P6.take'{us:List PV}{s:T3}{D:List (PV×PV)}{es:List PV}{k:Nat}(h:P6 us s D es k)(hk:0<k)(hm:EE D (DV (gX (Dj es k)) (gY (Dj es k)) (gL (Dj es k)))=false):
  P6 us s (EU D (DV (gX (Dj es k)) (gY (Dj es k)) (gL (Dj es k))) (HG (Dj es k))) (OR us D es k).1 (OR us D es k).2 /\
  Un us s (EU D (DV (gX (Dj es k)) (gY (Dj es k)) (gL (Dj es k))) (HG (Dj es k))) (OR us D es k).1 (OR us D es k).2<Un us s D es k /\
  KF us s (EU D (DV (gX (Dj es k)) (gY (Dj es k)) (gL (Dj es k))) (HG (Dj es k))) (OR us D es k).1 (OR us D es k).2=KF us s D es k /\
  (0<=rC (Dj es k)/\rC (Dj es k)<=1000000000000000000/\0<(rP (Dj es k)).length/\(rP (Dj es k)).length<=100000):=by
 obtain⟨n,N,h1,h2⟩:=h.cons hk;obtain⟨m1,m2⟩:=G5 (N:=N) (b:=n);have hb:Dj es k=Fw (D3 n N):=by show eh true _ (es.take k)=_;rw[h1];exact bU n N _
 have hkp:MU es k=(Gt (D3 n N).1 (n::N)).map Fw:=by
  show Df (IM (gX (Dj es k)) (gY (Dj es k)) (gL (Dj es k))) (es.take k)=_
  rw[hb,h1];exact SI (D3 n N).1 (n::N)
 have hm0:=hm;rw[hb,h.dD]at hm0;have hm':(D3 n N).1∉(D.map ER).map (·.1):=of_decide_eq_false ((Lq (D3 n N).1 (D.map ER)).symm.trans hm0);have hd:=h.dij;rw[h2]at hd;obtain⟨g1,g2⟩:=hd.take (Lr s h.use) m1 m2 hm';have hne:(D3 n N).2.2≠[]:=h.ne _ (by rw[h2];exact m1);have hput:EU D (DV (gX (Dj es k)) (gY (Dj es k)) (gL (Dj es k))) (HG (Dj es k))=(D.map ER++[D3 n N]).map FZ:=by
  rw[hb];have:=XH (v:=Fw (D3 n N)) hm';rw[<- h.dD]at this;refine this.trans ?_;rw[Bz,<- h.dD];show _=D++[FZ (D3 n N)]
  unfold FZ Qc;rw[Aq hne]
 have hw:OR us D es k=DQ (D3 n N).1.1 (D3 n N).1.2.1 (D3 n N).1.2.2 ((D.map ER++[D3 n N]).map FZ) ((D3 n N).2.2.map iv) (D3 n N).2.1 (NZ es k,(MU es k).length) us:=by
  show DQ (gX (Dj es k)) (gY (Dj es k)) (gL (Dj es k)) (EU D (DV (gX (Dj es k)) (gY (Dj es k)) (gL (Dj es k))) (HG (Dj es k))) (rP (Dj es k)) (rC (Dj es k)) (NZ es k,(MU es k).length) (us.drop 0)=_
  rw[hput,hb,AF];rfl
 have htk:(NZ es k).take (MU es k).length=MU es k:=SK;have hlen:(NZ es k).length=es.length:=IC h.hk;have hle:(MU es k).length<=k:=by
  have:=ED (d:=IM (gX (Dj es k)) (gY (Dj es k)) (gL (Dj es k))) (es.take k);rw[Az]at this;show(Df _ (es.take k)).length<=k
  omega
 have hle2:(MU es k).length<=(NZ es k).length:=by rw[hlen];have:=h.hk;omega
 obtain⟨l1,l2⟩:=OT (x:=(D3 n N).1.1) (y:=(D3 n N).1.2.1) (z:=(D3 n N).1.2.2) (D:=(D.map ER++[D3 n N]).map FZ) (ps:=(D3 n N).2.2.map iv) (rc:=(D3 n N).2.1) (l:=us) (s:=(NZ es k,(MU es k).length)) hle2;have hnt:(OR us D es k).1.take (OR us D es k).2=(Gt (D3 n N).1 (n::N)++HN (gU us) (D.map ER++[D3 n N]) (D3 n N)).map Fw:=by
  rw[hw,MV hle2,Vl,Bz];show(NZ es k).take (MU es k).length++_=_
  rw[htk,hkp]
 have hdec:((OR us D es k).1.take (OR us D es k).2).map Ki=Gt (D3 n N).1 (n::N)++HN (gU us) (D.map ER++[D3 n N]) (D3 n N):=by rw[hnt,Kk]
 have hdD:(EU D (DV (gX (Dj es k)) (gY (Dj es k)) (gL (Dj es k))) (HG (Dj es k))).map ER=D.map ER++[D3 n N]:=by rw[hput,Kj]
 have hcap:=h.vA;have hbn:=hd.bN _ m1;have hc0:=(hd.wN _ m1).cost (Lr s h.use).Vh;refine⟨⟨h.use,h.Tp,by rw[hw];exact l1,by rw[hw];exact MW (SJ h.norm),by rw[hdec,hnt],by rw[hdD,hput],by rw[hdD,hdec];exact g1,fun x hx=>?_,?_⟩,?_,?_,?_⟩
 ·rw[hdec]at hx;rcases A3.1 hx with hx |hx
  ·exact h.ne x (by rw[h2];exact(Bj.1 hx).1)
  ·obtain⟨e,he,-,rfl⟩:=QN hx;simp
 ·rw[hput,hw];have h4:=h.len;have h5:=h.Tp;have l3:(DQ (D3 n N).1.1 (D3 n N).1.2.1 (D3 n N).1.2.2 ((D.map ER++[D3 n N]).map FZ) ((D3 n N).2.2.map iv) (D3 n N).2.1 (NZ es k,(MU es k).length) us).1.length<=es.length+2*us.length:=by rw[<- hlen];exact l2
  have l4:((D.map ER++[D3 n N]).map FZ).length=D.length+1:=by simp
  rw[l4];omega
 ·unfold Un;rw[hdD,hdec,h2];exact g2
 ·unfold KF;rw[hdD,hdec];have e1:Je (gU us) (Un us s D es k+1) (D.map ER) ((es.take k).map Ki)=Je (gU us) (Un us s D es k) (D.map ER++[D3 n N]) (Gt (D3 n N).1 (n::N)++HN (gU us) (D.map ER++[D3 n N]) (D3 n N)):=by
   rw[h2,Je,Ai hm',Ar]
  rw[e1];congr 1
  refine JE (Lr s h.use) g1 ?_ ?_
  ·unfold Un;rw[hdD,hdec];omega
  ·unfold Un;rw[h2];exact g2
 ·rw[hb];show 0<=(D3 n N).2.1/\(D3 n N).2.1<=_/\0<((D3 n N).2.2.map iv).length/\((D3 n N).2.2.map iv).length<=100000
  rw[AP];rw[AP]at hbn;have:0<(D3 n N).2.2.length:=List.length_pos_iff.2 hne;refine⟨hc0,?_,this,by omega⟩;have:kU*(D.length:Int)<=kU*201:=Int.mul_le_mul_of_nonneg_left (by omega) (by decide);have:kU*201=610437100299000:=by decide
  omega
abbrev Tq(us:List PV)(s:T3):List (PV×PV):=(XE (gU us) (ZL us s) s).map FZ
abbrev muA(us:List PV)(s:T3):Nat:=mu (gU us) (ZL us s) [] [(s,(0,[]))]
theorem P6.first{us:List PV}{x y z:Int}(hu:us.all HI=true)(hf:us.length<=100):
  P6 us (x,y,z) [(DV x y z,DK x y z 0)] (DQ x y z [(DV x y z,DK x y z 0)] [] 0 ([Jg],0) us).1 (DQ x y z [(DV x y z,DK x y z 0)] [] 0 ([Jg],0) us).2 /\
  Un us (x,y,z) [(DV x y z,DK x y z 0)] (DQ x y z [(DV x y z,DK x y z 0)] [] 0 ([Jg],0) us).1 (DQ x y z [(DV x y z,DK x y z 0)] [] 0 ([Jg],0) us).2<muA us (x,y,z) /\
  KF us (x,y,z) [(DV x y z,DK x y z 0)] (DQ x y z [(DV x y z,DK x y z 0)] [] 0 ([Jg],0) us).1 (DQ x y z [(DV x y z,DK x y z 0)] [] 0 ([Jg],0) us).2=Tq us (x,y,z):=by
 have hD:[(DV x y z,DK x y z 0)]=([((x,y,z),((0:Int),([]:List Int)))]:List Rc).map FZ:=rfl;have h0:(0:Nat)<=([Jg]:List PV).length:=AT _;obtain⟨l1,l2⟩:=OT (x:=x) (y:=y) (z:=z) (D:=[(DV x y z,DK x y z 0)]) (ps:=[]) (rc:=0) (l:=us) (s:=([Jg],0)) h0;have hnt:(DQ x y z [(DV x y z,DK x y z 0)] [] 0 ([Jg],0) us).1.take (DQ x y z [(DV x y z,DK x y z 0)] [] 0 ([Jg],0) us).2=(HN (gU us) [((x,y,z),(0,[]))] ((x,y,z),(0,[]))).map Fw:=by
  rw[MV h0];show []++_=_
  rw[A9];exact Vl (D:=[((x,y,z),(0,[]))]) (r:=((x,y,z),(0,[]))) us
 have hdec:((DQ x y z [(DV x y z,DK x y z 0)] [] 0 ([Jg],0) us).1.take (DQ x y z [(DV x y z,DK x y z 0)] [] 0 ([Jg],0) us).2).map Ki=HN (gU us) [((x,y,z),(0,[]))] ((x,y,z),(0,[])):=by rw[hnt,Kk]
 have hdD:([(DV x y z,DK x y z 0)]:List (PV×PV)).map ER=[((x,y,z),(0,[]))]:=rfl;have hi:Kf (gU us) (x,y,z) (ZL us (x,y,z)) kU [] [((x,y,z),(0,[]))]:=Kf.init (AJ ..);obtain⟨g1,g2⟩:=hi.take (Lr (x,y,z) hu) (r:=((x,y,z),(0,[]))) (AJ ..) (fun q hq=>by rw[AI.1 hq];exact IG) (fun h=>by cases h);have ha:Gt (x,y,z) [((x,y,z),((0:Int),([]:List Int)))]=[]:=by simp[Gt]
 rw[ha]at g1 g2;refine⟨⟨hu,hf,l1,MW (fun e he=>by rw[AI.1 he];rfl),by rw[hdec,hnt],by rw[hdD,hD],by rw[hdD,hdec];exact g1,fun q hq=>?_,?_⟩,?_,?_⟩
 ·rw[hdec]at hq;obtain⟨e,he,-,rfl⟩:=QN hq;simp
 ·have l3:(DQ x y z [(DV x y z,DK x y z 0)] [] 0 ([Jg],0) us).1.length<=1+2*us.length:=l2;show _<=1+200*1
  omega
 ·unfold Un muA;rw[hdD,hdec];exact g2
 ·unfold KF Tq XE;rw[hdD,hdec];have e1:Je (gU us) (mu (gU us) (ZL us (x,y,z)) [] [((x,y,z),(0,[]))]+1) [] [((x,y,z),(0,[]))]=Je (gU us) (mu (gU us) (ZL us (x,y,z)) [] [((x,y,z),(0,[]))]) [((x,y,z),(0,[]))] (HN (gU us) [((x,y,z),(0,[]))] ((x,y,z),(0,[]))):=by
   rw[Je];show(bif decide ((x,y,z)∈([]:List T3)) then _ else Je _ _ ([]++[((x,y,z),(0,[]))]) (Gt (x,y,z) [((x,y,z),((0:Int),([]:List Int)))]++HN (gU us) ([]++[((x,y,z),(0,[]))]) ((x,y,z),(0,[]))))=_
   rw[Ai (by simp),Ar,ha,A9,A9]
  rw[e1];congr 1
  refine JE (Lr (x,y,z) hu) g1 ?_ g2;unfold Un;rw[hdD,hdec];exact Nat.lt_succ_self _
def Mc(us:List PV)(s:T3):List (PV×PV):=(Classical.choice (⟨⟨Tq us s,rfl⟩⟩:Nonempty {x:List (PV×PV) // x=Tq us s})).1
theorem N1(us:List PV)(s:T3):Mc us s=Tq us s:=(Classical.choice (⟨⟨Tq us s,rfl⟩⟩:Nonempty {x:List (PV×PV) // x=Tq us s})).2
def N2(s:Bool×LS):List PV×List Row:=match s.1 with |true=>Qb.put s.2 |false=>bT.put s.2
def jy(S:List PV)(H:List Row):Option (Bool×LS):=
 match Qb.get S H with
 |some s=>some (true,s)
 |none=>match bT.get S H with |some s=>some (false,s) |none=>none
theorem ek(S:List PV)(H:List Row)(s:Bool×LS)(h:jy S H=some s):S=(N2 s).1/\H=(N2 s).2:=by
 unfold jy at h;split at h
 ·rename_i q hq;cases h;exact S1.FG _ _ _ hq
 ·split at h
  ·rename_i q hq;cases h;exact S1.FG _ _ _ hq
  ·cases h
def My:Bool×LS->Bool
 |(true,([.l _ us,.n n,.n k],[.i _,.i _,.i _,.i _,.i _,.i _,.i s0,.i s1,.i s2,.m _,.m D,.l nl es]))=>decide (n=es.length) && !nl&&dB (P6 us (s0,s1,s2) D es k)
 |(false,([.l _ us,.n n,.n k],[.i _,.i _,.i _,.i _,.i _,.i _,.i s0,.i s1,.i s2,.m _,.m D,.i x,.i y,.i z,.i c]))=>dB (n=1/\k=1/\D=[]/\x=s0/\y=s1/\z=s2/\c=0)&&us.all HI&&decide (us.length<=100)
 |_=>false
def jz:Bool×LS->DT (PX×List PV×List Row)
 |(true,([.l _ us,.n _,.n k],[.i p0,.i p1,.i p2,.i q0,.i q1,.i q2,.i s0,.i s1,.i s2,.m D0,.m D,.l _ es]))=>.leaf (xK p0 p1 p2 q0 q1 q2 s0 s1 s2 D0 (KF us (s0,s1,s2) D es k))
 |(false,([.l _ us,.n _,.n _],[.i p0,.i p1,.i p2,.i q0,.i q1,.i q2,.i s0,.i s1,.i s2,.m D0,.m _,.i _,.i _,.i _,.i _]))=>.leaf (xK p0 p1 p2 q0 q1 q2 s0 s1 s2 D0 (Mc us (s0,s1,s2)))
 |_=>.no
def jA:Bool×LS->Nat
 |(true,([.l _ us,.n _,.n k],[.i _,.i _,.i _,.i _,.i _,.i _,.i s0,.i s1,.i s2,.m _,.m D,.l _ es]))=>Un us (s0,s1,s2) D es k
 |(false,([.l _ us,.n _,.n _],[.i _,.i _,.i _,.i _,.i _,.i _,.i s0,.i s1,.i s2,.m _,.m _,.i _,.i _,.i _,.i _]))=>muA us (s0,s1,s2)
 |_=>0
theorem aaU:∀ s r,My s=true->(jz s).run=some r->r.1≠.normal/\(Db Try.prog qZ 60 33 (Dg Try.f33 6) [4,7,8,9] [6] (N2 s).1 (N2 s).2=some r \/
  ∃ s',Db Try.prog qZ 60 33 (Dg Try.f33 6) [4,7,8,9] [6] (N2 s).1 (N2 s).2=some (.normal,N2 s')/\My s'=true/\jA s'<jA s/\(jz s').run=some r):=by
 intro t r hp hr;unfold My at hp;split at hp
 ·rename_i f us n k p0 p1 p2 q0 q1 q2 s0 s1 s2 D0 D nl es;simp only[Aa,Ab,Am,Dy]at hp;obtain⟨⟨rfl,rfl⟩,h⟩:=hp;have hr':=(Ah hr).symm;refine⟨by rw[hr'];simp,?_⟩;show(Db Try.prog qZ 60 33 (Dg Try.f33 6) [4,7,8,9] [6] (Qb.put (ei f us es.length k p0 p1 p2 q0 q1 q2 s0 s1 s2 D0 D false es)).1 (Qb.put (ei f us es.length k p0 p1 p2 q0 q1 q2 s0 s1 s2 D0 D false es)).2=some r \/
   ∃ s',Db Try.prog qZ 60 33 (Dg Try.f33 6) [4,7,8,9] [6] (Qb.put (ei f us es.length k p0 p1 p2 q0 q1 q2 s0 s1 s2 D0 D false es)).1 (Qb.put (ei f us es.length k p0 p1 p2 q0 q1 q2 s0 s1 s2 D0 D false es)).2=some (.normal,N2 s')/\_/\_/\_)
  obtain⟨c1,c2⟩:=h.vA;have hk:=h.hk;have hsh:(es.take k).all Kg=true:=by
   rw[Ao];intro e he;have hb:=h.dij.bN (Ki e) (Br he);unfold Kg;rw[Ab];have:(Dn (rP e)).length=(rP e).length:=EP _;simp only[Ki,AP]at hb;omega
  rw[q6P,DJ rfl,DJ rfl,Ac (show es.length=es.length from rfl),Ac hk,Ac (show k<=1000000 by omega),hsh,Ac (show es.length<=1000000 by omega),Ea.2 h.norm];simp only[Bg,Aj];by_cases h0:0<k
  ·rw[Ac (show(k:Int) > 0 by omega),BX,Ar];have hlen:(NZ es k).length=es.length:=IC hk;cases hm:EE D (DV (gX (Dj es k)) (gY (Dj es k)) (gL (Dj es k))) with
   |true=>
    obtain⟨g1,g2,g3⟩:=h.known h0 hm;refine .inr ⟨(true,ei f us es.length (MU es k).length p0 p1 p2 q0 q1 q2 s0 s1 s2 D0 D false (NZ es k)),rfl,?_,g2,?_⟩
    ·simp only[My,Aa,Ab,Am,Dy];exact⟨⟨hlen.symm,trivial⟩,g1⟩
    ·rw[hr'];show some (xK _ _ _ _ _ _ _ _ _ _ (KF us (s0,s1,s2) D (NZ es k) (MU es k).length))=_;rw[g3]
   |false=>
    obtain⟨g1,g2,g3,v1,v2,v3,v4⟩:=h.take' h0 hm;have hle:(MU es k).length<=(NZ es k).length:=by
     rw[hlen];have:=ED (d:=IM (gX (Dj es k)) (gY (Dj es k)) (gL (Dj es k))) (es.take k);rw[Az]at this;show(Df _ (es.take k)).length<=_
     omega
    have hp14:PL (PK f us es.length (MU es k).length f us us.length 0 p0 p1 p2 q0 q1 q2 s0 s1 s2 D0 (EU D (DV (gX (Dj es k)) (gY (Dj es k)) (gL (Dj es k))) (HG (Dj es k))) false (NZ es k) (gX (Dj es k)) (gY (Dj es k)) (gL (Dj es k)) false (rP (Dj es k)) (rC (Dj es k)))=true:=by
     simp only[PL,Aa,Ab,Am];exact⟨⟨⟨⟨⟨⟨⟨⟨⟨⟨⟨⟨hlen.symm,hle⟩,trivial⟩,by omega⟩,by omega⟩,h.Tp⟩,by rw[hlen];omega⟩,h.use⟩,v1⟩,v2⟩,trivial⟩,v3⟩,v4⟩
    rw[Ar,hp14,Aj];refine .inr ⟨(true,ei f us (OR us D es k).1.length (OR us D es k).2 p0 p1 p2 q0 q1 q2 s0 s1 s2 D0 (EU D (DV (gX (Dj es k)) (gY (Dj es k)) (gL (Dj es k))) (HG (Dj es k))) false (OR us D es k).1),rfl,?_,g2,?_⟩
    ·simp only[My,Aa,Ab,Am,Dy];exact⟨⟨trivial,trivial⟩,g1⟩
    ·rw[hr'];show some (xK _ _ _ _ _ _ _ _ _ _ (KF us (s0,s1,s2) _ (OR us D es k).1 (OR us D es k).2))=_;rw[g3]
  ·have hk0:k=0:=by omega
   subst hk0;rw[Ai (show ¬((0:Nat):Int) > 0 by omega),BS,Aj];refine .inl ?_;rw[hr',h.nil]
 ·rename_i f us n k p0 p1 p2 q0 q1 q2 s0 s1 s2 D0 D x y z c;simp only[Aa,Ab,Dy]at hp;obtain⟨⟨⟨rfl,rfl,rfl,rfl,rfl,rfl,rfl⟩,hu⟩,hf⟩:=hp;have hr':=(Ah hr).symm;refine⟨by rw[hr'];simp,?_⟩;obtain⟨g1,g2,g3⟩:=P6.first (x:=x) (y:=y) (z:=z) hu hf
  have hq:=agk f us p0 p1 p2 q0 q1 q2 x y z D0 x y z 0;have hp14:PI (PH f us 1 0 f us us.length 0 p0 p1 p2 q0 q1 q2 x y z D0 [(DV x y z,DK x y z 0)] false [Jg] x y z 0)=true:=by
   simp only[PI,Aa,Ab,Am,As,AB];exact⟨⟨⟨⟨⟨⟨⟨⟨⟨⟨by first |exact True.intro |omega,by first |exact True.intro |omega⟩,trivial⟩,by first |exact True.intro |omega⟩,by first |exact True.intro |omega⟩,hf⟩,by first |exact True.intro |omega⟩,hu⟩,by first |exact True.intro |omega⟩,by first |exact True.intro |omega⟩,trivial⟩
  rw[Dy.2 (⟨rfl,rfl,rfl,rfl⟩:x=x/\y=y/\z=z/\(0:Int)=0),hp14,Aj,Aj,show(0:Int).toNat=0 from rfl,AF]at hq;refine .inr ⟨(true,ei f us (DQ x y z [(DV x y z,DK x y z 0)] [] 0 ([Jg],0) us).1.length (DQ x y z [(DV x y z,DK x y z 0)] [] 0 ([Jg],0) us).2 p0 p1 p2 q0 q1 q2 x y z D0 [(DV x y z,DK x y z 0)] false (DQ x y z [(DV x y z,DK x y z 0)] [] 0 ([Jg],0) us).1),hq,?_,g2,?_⟩
  ·simp only[My,Aa,Ab,Am,Dy];exact⟨⟨trivial,trivial⟩,g1⟩
  ·rw[hr'];show some (xK _ _ _ _ _ _ _ _ _ _ (KF us (x,y,z) _ _ _))=_;rw[g3,<- N1]
 ·cases hp
def R60:CY:=qZ.Lh 33 6 [4,7,8,9] (J2 [] jy My jz)
theorem aaW:CG Try.prog R60.env:=
 q5.Lh Try.func33 (show Try.f33.body=some (DY Try.f33) by kernel_rfl) (show(loops (DY Try.f33)).filter (fun b=>Ew b==6)=[Dg Try.f33 6] by kernel_rfl)
  fun hs ro S H d x S' H'=>aT (n:=60) q5 [4,7,8,9] [6] N2 ek jA aaU hs ro S H d x S' H'
def OU:S1:=⟨27,[(3,.mp 3),(10,.C9 49),(11,Dk),(12,Dk)],[.one 30 3 aS,.one 30 3 aS,.one 30 3 aS,.map 30 4]⟩
abbrev q6(f:Bool)(es:List PV)(len i:Int)(p0 p1 p2 q0 q1 q2 s0 s1 s2:Int)(D:List (PV×PV)):LS:=([.l f es,.i len,.i i],[.i p0,.i p1,.i p2,.i q0,.i q1,.i q2,.i s0,.i s1,.i s2,.m D])
abbrev xSP(p0 p1 p2 q0 q1 q2 s0 s1 s2:Int)(D:List (PV×PV)):PX×List PV×List Row:=(.exit 0,tm 27 [(3,.mp 3)],(OU.put (q6 false [] 0 0 p0 p1 p2 q0 q1 q2 s0 s1 s2 D)).2)
theorem qSP(f:Bool)(es:List PV)(len i:Int)(p0 p1 p2 q0 q1 q2 s0 s1 s2:Int)(D:List (PV×PV)):Db Try.prog R60 60 37 (Dg Try.f37 3) [3,10,11,12] [3] (OU.put (q6 f es len i p0 p1 p2 q0 q1 q2 s0 s1 s2 D)).1 (OU.put (q6 f es len i p0 p1 p2 q0 q1 q2 s0 s1 s2 D)).2 =
 bif decide (i<len) then bif decide (0<=i)&&decide (i<(es.length:Int)) then bif P8 (wL (es.getD i.toNat .any)) then
  some (.normal,OU.put (q6 f es len (W (i+1)) p0 p1 p2 q0 q1 q2 s0 s1 s2 (D6 D (es.getD i.toNat .any)))) else none else none else some (xSP p0 p1 p2 q0 q1 q2 s0 s1 s2 D):=by kernel_rfl
def q7:LS->Bool
 |([.l _ es,.i len,.i i],[.i _,.i _,.i _,.i _,.i _,.i _,.i _,.i _,.i _,.m _])=>decide (len=(es.length:Int))&&decide (0<=i)&&decide (i<=len)&&decide (es.length<=1000)&&(es.drop i.toNat).all fun e=>P8 (wL e)
 |_=>false
def fSP:LS->DT (PX×List PV×List Row)
 |([.l _ es,.i _,.i i],[.i p0,.i p1,.i p2,.i q0,.i q1,.i q2,.i s0,.i s1,.i s2,.m D])=>.leaf (xSP p0 p1 p2 q0 q1 q2 s0 s1 s2 (G3 (es.drop i.toNat) D))
 |_=>.no
def mSP:LS->Nat
 |([.l _ _,.i len,.i i],_)=>(len-i).toNat
 |_=>0
theorem sSP:∀ s r,q7 s=true->(fSP s).run=some r->r.1≠.normal/\(Db Try.prog R60 60 37 (Dg Try.f37 3) [3,10,11,12] [3] (OU.put s).1 (OU.put s).2=some r \/
   ∃ s',Db Try.prog R60 60 37 (Dg Try.f37 3) [3,10,11,12] [3] (OU.put s).1 (OU.put s).2=some (.normal,OU.put s')/\q7 s'=true/\mSP s'<mSP s/\(fSP s').run=some r):=by
 intro t r hp hr;unfold q7 at hp;split at hp
 ·rename_i f es len i p0 p1 p2 q0 q1 q2 s0 s1 s2 D;simp only[Aa,Ab]at hp;obtain⟨⟨⟨⟨rfl,h2⟩,h3⟩,h4⟩,h5⟩:=hp;have hr':=(Ah hr).symm;refine⟨by rw[hr'];simp,?_⟩;rw[show OU.put ([.l f es,.i (es.length:Int),.i i],[.i p0,.i p1,.i p2,.i q0,.i q1,.i q2,.i s0,.i s1,.i s2,.m D])=OU.put (q6 f es (es.length:Int) i p0 p1 p2 q0 q1 q2 s0 s1 s2 D) from rfl,qSP];by_cases hi:i<(es.length:Int)
  ·rw[Ds h2 hi,Cc,Aa]at h5;rw[Ac hi,Ac h2,h5.1,Dx (by omega) (by omega)];refine .inr ⟨q6 f es es.length (i+1) p0 p1 p2 q0 q1 q2 s0 s1 s2 (D6 D (es.getD i.toNat .any)),rfl,by simp only[q7,Aa,Ab];exact⟨⟨⟨⟨trivial,by omega⟩,by omega⟩,h4⟩,h5.2⟩,by simp only[mSP];omega,?_⟩;rw[hr',Ds h2 hi];rfl
  ·rw[Ai hi,AC (by omega)] at *;exact .inl (by rw[hr'];rfl)
 ·cases hp
def R61:CY:=R60.Dl 37 3 [3,10,11,12] [false,false,false,false] OU q7 fSP
theorem aaX:CG Try.prog R61.env:=
 aaW.Dl (n:=60) Try.func37 (show Try.f37.body=some (DY Try.f37) by kernel_rfl) (show(loops (DY Try.f37)).filter (fun b=>Ew b==3)=[Dg Try.f37 3] by kernel_rfl) [3,10,11,12] [3] [false,false,false,false] OU mSP sSP
def R62:CY:=((((R61.FX 33).Ee 33 1).Ee 12 1).J9 12 1).SM Try.prog xw
theorem jB:CG Try.prog R62.env:=((((aaX.FX 33).Ee 33 1).Ee 12 1).J9 12 1).SM UZ
abbrev GM(x y z:Int):Row:={ es:=[DV x y z],s:=3,t:=30,bv:=true }
abbrev zRv:PV:=.val ((E8 Try.prog 78).getD undef)
abbrev mD(ws:List PV):List (PV×PV):=G3 ((Df (Dc false) ws).drop (0:Int).toNat) []
abbrev Tr(D:List (PV×PV))(x y z:Int):Bool:=((Fu (.val (.bool false)) D (DV x y z)).cellAt 0).cQ
theorem aaZ(f:Bool)(ws:List PV)(x y z a b c:Int)(fl:Bool):DD Try.prog R62 60 12 [.C9 f 49 ws,DV x y z,DV a b c,bv fl] =
 bif decide (ws.length<=1000)&&E1 Ev ws then
 bif q7 (q6 false (Df (Dc false) ws) ((Df (Dc false) ws).length:Int) 0 x y z a b c x y z []) then
 bif GQ [GM x y z,GM a b c,GM x y z] [GM x y z,GM a b c,GM x y z] then
 bif !Tr (mD ws) x y z then
  bif GQ [GM x y z,GM a b c] [GM x y z,GM a b c] then some (.El [.C9 false 3 [],iv 0,bv false]) else none
 else
 bif decide (ws.length<=1000)&&E1 Ev ws then
 bif My (false,nY false (Df (Dc fl) ws) 1 1 x y z a b c x y z (mD ws) [] x y z 0) then
 bif GQ [GM x y z,GM a b c] [GM x y z,GM a b c] then
  some (.El [.C9 false 3 (rP (Fu zRv (Mc (Df (Dc fl) ws) (x,y,z)) (DV a b c))),iv (rC (Fu zRv (Mc (Df (Dc fl) ws) (x,y,z)) (DV a b c))),bv (EE (Mc (Df (Dc fl) ws) (x,y,z)) (DV a b c))]) else none
 else none else none
 else none else none else none:=by kernel_rfl
theorem QO(fl:Bool):∀ ws:List PV,gU (Df (Dc fl) ws)=gE fl ws
 | []=>rfl
 |e::ws=>by
  have ih:=QO fl ws;show(List.filter _ (e::ws)).flatMap eE=(bif Dc fl e then [] else eE e)++gE fl ws
  rw[BU];cases h:Dc fl e with
  |true=>exact ih
  |false=>exact congrArg (eE e ++ ·) ih
theorem Hw{fl:Bool}{ws:List PV}(h:Ho ws):(Df (Dc fl) ws).all HI=true:=by
 rw[Ao];intro e he;unfold Df at he;rw[Bj]at he;obtain⟨h1,h2⟩:=he;simp only[Dc,Am,BK,AR]at h2;have:=h.wl e h1;simp only[HI,Aa,Am,AR,Ab];omega
theorem XK{x y z:Int}:∀{D:List (PV×PV)},NU D->(EE D (DV x y z)=true ↔ (x,y,z)∈D.map (fun u=>DA u.1))
 | [],_=>by simp[EE]
 |(a,w)::D,h=>by
  have ha:a=pW a:=h (a,w) (AJ ..);have ih:=XK (x:=x) (y:=y) (z:=z) (D:=D) fun u hu=>h u (AU _ hu)
  show(JN (DV x y z) a||EE D (DV x y z))=true ↔ _
  rw[A2,ih,AV,AK,ha,QI];show _ ↔ (x,y,z)=(gX a,gY a,gL a)\/_
  simp only[CM]
theorem XL{k v z:PV}:∀{D:List (PV×PV)},(∀ u∈D,u.2=v)->Fu z D k=bif EE D k then v else z
 | [],_=>rfl
 |(a,w)::D,h=>by
  have ih:=XL (k:=k) (v:=v) (z:=z) (D:=D) fun u hu=>h u (AU _ hu)
  show(bif JN k a then w else Fu z D k)=bif (JN k a||EE D k) then v else z
  cases JN k a with
  |true=>exact h (a,w) (AJ ..)
  |false=>exact ih
theorem XM:∀{es:List PV} {D:List (PV×PV)},(∀ u∈D,u.2=bv true)->∀ u∈G3 es D,u.2=bv true
 | [],_,h=>h
 |e::es,D,h=>by
  show ∀ u∈G3 es (D6 D e),_
  refine XM fun u hu=>?_
  unfold D6 at hu;rcases NV hu with hu |rfl
  ·rcases NV hu with hu |rfl
   ·exact h u hu
   ·rfl
  ·rfl
theorem JI{ws:List PV}{x y z:Int}:Tr (mD ws) x y z=true ↔ EO ws (x,y,z):=by
 show((Fu (.val (.bool false)) (G3 (Df (Dc false) ws) []) (DV x y z)).cellAt 0).cQ=true ↔ _
 rw[XL (v:=bv true) (XM fun u hu=>by cases hu),<- Zu (t:=(x,y,z))];show _ ↔ (x,y,z)∈((G3 (Df (Dc false) ws) []).map (·.1)).map DA
 rw[Cq];have:=XK (x:=x) (y:=y) (z:=z) (Sr (es:=Df (Dc false) ws) (D:=[]) (fun x hx=>by cases hx)).1;refine Iff.trans ?_ this;cases EE (G3 (Df (Dc false) ws) []) (DV x y z) <;> simp[cond,PV.cellAt,PV.cells,PV.cQ]
theorem XN{t:T3}{z:PV}:∀{D:List Rc},t∉D.map (·.1)->Fu z (D.map FZ) (Hz t)=z
 | [],_=>rfl
 |x::D,h=>by
  simp only[AV,AK,not_or]at h;show(bif JN (Hz t) (Hz x.1) then _ else Fu z (D.map FZ) (Hz t))=_
  rw[I5,Ai h.1];exact XN h.2
theorem bW{t:T3}{k:Ky}{z:PV}:∀{D:List Rc},(D.map (·.1)).Nodup->(t,k)∈D->Fu z (D.map FZ) (Hz t)=Qc (t,k)
 |x::D,hn,h=>by
  rw[AV,Ca]at hn;show(bif JN (Hz t) (Hz x.1) then Qc x else Fu z (D.map FZ) (Hz t))=_
  rw[I5];rcases AK.1 h with rfl |h
  ·rw[Ac rfl];rfl
  ·rw[Ai (fun e=>hn.1 (by rw[<- e];exact Br h))];exact bW hn.2 h
theorem vB(r:Rc):rP (Qc r)=r.2.2.map iv:=by
 unfold Qc;split
 ·rename_i h;rw[h];rfl
 ·rfl
theorem jC(r:Rc):rC (Qc r)=r.2.1:=by unfold Qc;split <;> rfl
def FN(ws:List PV)(fl:Bool)(s t:T3):Option Ky:=@ite _ (EO ws s) (Classical.propDecidable _) (Gw (gE fl ws) s t) none
theorem JJ{ws:List PV}{fl:Bool}{s t:T3}(h:EO ws s):FN ws fl s t=Gw (gE fl ws) s t:=Ak h
theorem Ie{ws:List PV}{fl:Bool}{s t:T3}(h:¬EO ws s):FN ws fl s t=none:=Aq h
def oI(o:Option Ky):List Int:=match o with |some k=>k.2 |none=>[]
def oC(o:Option Ky):Int:=match o with |some k=>k.1 |none=>0
abbrev jD(o:Option Ky):PV:=.El [.C9 false 3 ((oI o).map iv),iv (oC o),bv o.isSome]
theorem oa{ws:List PV}(fl:Bool)(h:Ho ws)(s t:T3)(z:PV)(hz:rP z=[]/\rC z=0):
  rP (Fu z (Mc (Df (Dc fl) ws) s) (Hz t))=(oI (Gw (gE fl ws) s t)).map iv/\rC (Fu z (Mc (Df (Dc fl) ws) s) (Hz t))=oC (Gw (gE fl ws) s t)/\EE (Mc (Df (Dc fl) ws) s) (Hz t)=(Gw (gE fl ws) s t).isSome:=by
 have hG:=Lr s (Hw (fl:=fl) h);have hs:s∈ZL (Df (Dc fl) ws) s:=AJ ..;have hnd:=(Hm hG hs).nd;rw[N1];unfold Tq;rw[Lq];by_cases hk:∃ k,(t,k)∈XE (gU (Df (Dc fl) ws)) (ZL (Df (Dc fl) ws) s) s
 ·obtain⟨k,hk⟩:=hk;have hm:Gw (gE fl ws) s t=some k:=by
   rw[EK,<- QO];exact(Lp hG hs).1 hk
  rw[bW hnd hk,vB,jC,hm,Ac (Br hk)];exact⟨rfl,rfl,rfl⟩
 ·have hm:Gw (gE fl ws) s t=none:=by
   cases hc:Gw (gE fl ws) s t with
   |none=>rfl
   |some k=>
    rw[EK,<- QO]at hc;exact absurd ⟨k,(Lp hG hs).2 hc⟩ hk
  have ho:t∉(XE (gU (Df (Dc fl) ws)) (ZL (Df (Dc fl) ws) s) s).map (·.1):=fun hh=>by
   obtain⟨x,hx,rfl⟩:=AX.1 hh;exact hk ⟨x.2,hx⟩
  rw[XN ho,hm,Ai ho,hz.1,hz.2];exact⟨rfl,rfl,rfl⟩
theorem vC:rP zRv=[]/\rC zRv=0:=by constructor <;> kernel_rfl
theorem vD{ws:List PV}(h:Ho ws)(x y z a b c:Int):q7 (q6 false (Df (Dc false) ws) ((Df (Dc false) ws).length:Int) 0 x y z a b c x y z [])=true:=by
 have:=ED (d:=Dc false) ws;have:=h.Tp;simp only[q7,Aa,Ab];exact⟨⟨⟨⟨trivial,by omega⟩,by omega⟩,by omega⟩,NW h.Jz⟩
theorem jE(f:Bool)(ws:List PV)(x y z a b c:Int)(fl:Bool)(h:Ho ws)(hN:Ed Ev ws):DD Try.prog R62 60 12 [.C9 f 49 ws,DV x y z,DV a b c,bv fl] =
  some (jD (FN ws fl (x,y,z) (a,b,c))):=by
 have hf:=h.Tp;have hk:=ED (d:=Dc fl) ws;rw[aaZ,Ac (show ws.length<=1000 by omega),Ea.2 hN,vD h,EM,EM];simp only[Bg,Aj];by_cases hs:EO ws (x,y,z)
 ·have hp:My (false,nY false (Df (Dc fl) ws) 1 1 x y z a b c x y z (mD ws) [] x y z 0)=true:=by
   simp only[My,Aa,Ab,Dy];exact⟨⟨⟨trivial,trivial,trivial,trivial,trivial,trivial,trivial⟩,Hw h⟩,by omega⟩
  rw[JI.2 hs,hp,JJ hs];obtain⟨g1,g2,g3⟩:=oa fl h (x,y,z) (a,b,c) zRv vC;simp only[BX,Ar,Aj];rw[show DV a b c=Hz (a,b,c) from rfl,g1,g2,g3]
 ·have hg:Tr (mD ws) x y z=false:=by
   cases hh:Tr (mD ws) x y z with
   |true=>exact absurd (JI.1 hh) hs
   |false=>rfl
  rw[hg,Ie hs];rfl
def SO:List PV->Option (DT PV)
 | [.C9 _ 49 ws,.agg [.val (.int .i64 x),.val (.int .i64 y),.val (.int .i64 z)],.agg [.val (.int .i64 a),.val (.int .i64 b),.val (.int .i64 c)],.val (.bool fl)]=>
  some (.br (dB (Ho ws)&&E1 Ev ws) (.leaf (jD (FN ws fl (x,y,z) (a,b,c)))) .no)
 |_=>none
theorem Vp:Ed Ev []:=fun e h=>by cases h
theorem aa0:Hx.Dd Try.prog 12:=(Cy jB (n:=60) (jE false [] 0 0 0 0 0 0 false ZK Vp)).1
theorem aa1(args:List PV)(d:DT PV)(r:PV)(h:SO args=some d)(hr:d.run=some r):Dr Try.prog 12 args r:=by
 unfold SO at h;split at h
 ·rename_i f ws x y z a b c fl;cases h;obtain⟨h1,rfl⟩:=DN hr;simp only[Aa,Dy,Ea]at h1;exact(Cy jB (n:=60) (jE f ws x y z a b c fl h1.1 h1.2)).2
 ·cases h
def vE:CY:=R62.DE 12 SO
theorem q8:CG Try.prog vE.env:=jB.DE aa0 aa1
theorem SP{P:Program}{k:FuncId}{args:List PV}{t:TypeId}{p q:PV}(h:Dr P k args (.El [.val (.slice none 0 0),p,q])):Dr P k args (.El [.C9 false t [],p,q]):=by
 intro C hR Vs hs;refine Calls.mono (h C hR Vs hs) fun e w' hq=>?_
 obtain⟨V,h1,h2,h3⟩:=hq;refine⟨V,h1,h2,?_⟩;cases h3 with
 |El hz hh=>
  refine .El hz fun j c v g1 g2=>?_
  match j with
  |0=>
   have:=hh 0 _ v rfl g2;cases g1;cases this;exact .C9 0 0 (fun _ _=>undef) (Al _) (fun h=>by cases h) (fun h=>by simp at h) (fun x e j p h1 _=>by simp at h1) (fun x e j p h1 _=>by simp at h1) (fun e h1=>by cases h1)
  |j+1=>exact hh (j+1) c v g1 g2
def Md:S1:=⟨47,[(6,.ptr 1 1 0 0),(11,.C9 83),(12,Dk)],[.one 30 3 aS,.one 30 3 aS]⟩
abbrev lA(f:Bool)(es:List PV)(i x y z a b c:Int):LS:=([.l f es,.i i],[.i x,.i y,.i z,.i a,.i b,.i c])
abbrev hRp(x y z a b c:Int):List Row:=(Md.put (lA false [] 0 x y z a b c)).2
abbrev vF(x y z a b c:Int):PX×List PV×List Row:=(.exit 0,tm 47 [],hRp x y z a b c)
abbrev vG(e:PV)(x y z a b c:Int):PX×List PV×List Row:=(.ret,tm 47 [(8,.C9 false 3 (rP e)),(9,iv (rC e)),(10,bv true)],hRp x y z a b c)
def jF:CY:=vE.DE 34 nT
theorem vH:CG Try.prog jF.env:=q8.DE aau aav
theorem qRp(f:Bool)(es:List PV)(i x y z a b c:Int):Db Try.prog jF 60 13 (Dg Try.f13 3) [6,11,12] [8,9,10] (Md.put (lA f es i x y z a b c)).1 (Md.put (lA f es i x y z a b c)).2 =
 bif decide (i<(es.length:Int)) then bif F8 es i then bif rS (aE es i) then bif F8 es i then bif cond true (Qa (gX (aE es i)) (gY (aE es i)) (gL (aE es i)) a b c) false then bif F8 es i then bif F8 es i then some (vG (aE es i) x y z a b c) else none else none
  else some (.normal,Md.put (lA f es (W (i+1)) x y z a b c)) else none else some (.normal,Md.put (lA f es (W (i+1)) x y z a b c)) else none else some (vF x y z a b c):=by kernel_rfl
def KG(t:T3)(e:PV):Bool:=rS e&&decide (DA e=t)
theorem oc{e:PV}{a b c:Int}:Qa (gX e) (gY e) (gL e) a b c=decide (DA e=(a,b,c)):=by
 rw[Bool.eq_iff_iff];simp only[Qa,Bq,Aa,Ay,Ab,CM,and_assoc]
def od:LS->Bool
 |([.l _ es,.i i],[.i _,.i _,.i _,.i _,.i _,.i _])=>decide (0<=i)&&decide (i<=(es.length:Int))&&decide (es.length<=10000)
 |_=>false
def fRp:LS->DT (PX×List PV×List Row)
 |([.l _ es,.i i],[.i x,.i y,.i z,.i a,.i b,.i c])=>.br ((es.drop i.toNat).any (KG (a,b,c))) (.leaf (vG (((es.drop i.toNat).find? (KG (a,b,c))).getD .any) x y z a b c)) (.leaf (vF x y z a b c))
 |_=>.no
def xR:LS->Nat
 |([.l _ es,.i i],_)=>((es.length:Int)-i).toNat
 |_=>0
theorem sRp:∀ s r,od s=true->(fRp s).run=some r->r.1≠.normal/\(Db Try.prog jF 60 13 (Dg Try.f13 3) [6,11,12] [8,9,10] (Md.put s).1 (Md.put s).2=some r \/
   ∃ s',Db Try.prog jF 60 13 (Dg Try.f13 3) [6,11,12] [8,9,10] (Md.put s).1 (Md.put s).2=some (.normal,Md.put s')/\od s'=true/\xR s'<xR s/\(fRp s').run=some r):=by
 intro t r hp hr;unfold od at hp;split at hp
 ·rename_i f es i x y z a b c;simp only[Aa,Ab]at hp;obtain⟨⟨h2,h3⟩,h4⟩:=hp;have hr':=Hl hr;refine⟨by rw[hr'];cases(es.drop i.toNat).any (KG (a,b,c)) <;> simp,?_⟩;rw[show Md.put ([.l f es,.i i],[.i x,.i y,.i z,.i a,.i b,.i c])=Md.put (lA f es i x y z a b c) from rfl,qRp];by_cases hi:i<(es.length:Int)
  ·rw[Ac hi,DW h2 hi,oc,Dx (by omega) (by omega)];simp only[Aj];rw[Ds h2 hi,List.any_cons,List.find?_cons]at hr';have hgo:(((es.drop (i+1).toNat).any (KG (a,b,c))=true->r=vG (((es.drop (i+1).toNat).find? (KG (a,b,c))).getD .any) x y z a b c)/\((es.drop (i+1).toNat).any (KG (a,b,c))=false->r=vF x y z a b c)) ->
     ∃ s',some (PX.normal,Md.put (lA f es (i+1) x y z a b c))=some (PX.normal,Md.put s')/\od s'=true/\xR s'<xR ([.l f es,.i i],[.i x,.i y,.i z,.i a,.i b,.i c])/\(fRp s').run=some r:=fun hh=>by
    refine⟨lA f es (i+1) x y z a b c,rfl,by simp only[od,Aa,Ab];exact⟨⟨by omega,by omega⟩,h4⟩,by simp only[xR];omega,?_⟩;show(DT.br ((es.drop (i+1).toNat).any (KG (a,b,c))) (.leaf _) (.leaf _)).run=some r
    cases hq:(es.drop (i+1).toNat).any (KG (a,b,c)) with
    |true=>rw[hh.1 hq];rfl
    |false=>rw[hh.2 hq];rfl
   have e0:KG (a,b,c) (es.getD i.toNat .any)=(rS (aE es i)&&decide (DA (aE es i)=(a,b,c))):=rfl;rw[e0]at hr';cases h1:rS (aE es i) with
   |false=>
    rw[h1]at hr';simp only[Cf,Bt]at hr';exact .inr (hgo ⟨fun hq=>by rw[hr',hq];rfl,fun hq=>by rw[hr',hq];rfl⟩)
   |true=>
    cases h5:decide (DA (aE es i)=(a,b,c)) with
    |false=>
     rw[h1,h5]at hr';simp only[BY,Bt]at hr';exact .inr (hgo ⟨fun hq=>by rw[hr',hq];rfl,fun hq=>by rw[hr',hq];rfl⟩)
    |true=>
     rw[h1,h5]at hr';simp only[BY,Bool.true_or,Aj]at hr';exact .inl (by rw[hr'];rfl)
  ·rw[Ai hi,AC (by omega)] at *;exact .inl (by rw[hr'];rfl)
 ·cases hp
def R64:CY:=jF.Dl 13 3 [6,11,12] [false,false] Md od fRp
theorem bX:CG Try.prog R64.env:=
 vH.Dl (n:=60) Try.func13 (show Try.f13.body=some (DY Try.f13) by kernel_rfl) (show(loops (DY Try.f13)).filter (fun b=>Ew b==3)=[Dg Try.f13 3] by kernel_rfl) [6,11,12] [8,9,10] [false,false] Md xR sRp
theorem jG(f:Bool)(ws:List PV)(x y z a b c:Int)(fl:Bool):DD Try.prog R64 60 13 [.C9 f 49 ws,DV x y z,DV a b c,bv fl] =
 bif dB (Ho ws) then bif decide (DI x y z 0 (Eb ws [])<0) then some (.El [.val (.slice none 0 0),iv 0,bv false]) else
  bif od (lA false (KE ws fl x y z) 0 x y z a b c) then bif ((KE ws fl x y z).drop (0:Int).toNat).any (KG (a,b,c)) then
   some (.El [.C9 false 3 (rP ((((KE ws fl x y z).drop (0:Int).toNat).find? (KG (a,b,c))).getD .any)),iv (rC ((((KE ws fl x y z).drop (0:Int).toNat).find? (KG (a,b,c))).getD .any)),bv true])
  else some (.El [.val (.slice none 0 0),iv 0,bv false]) else none else none:=by kernel_rfl
theorem jH{t:T3}{f:OF}:∀{l:List PV},Mb l f->((Ff l f).any (KG t)=(f t).isSome/\(∀ k,f t=some k->(Ff l f).find? (KG t)=some (Ke t (some k)))):=by
 intro l hS;have key:∀ e:PV,KG t (Ke (DA e) (f (DA e)))=((f (DA e)).isSome&&decide (DA e=t)):=fun e=>by
  unfold KG;rw[ZI,bF]
 have h1:∀ l:List PV,(t∈l.map DA->∀ k,f t=some k->(Ff l f).find? (KG t)=some (Ke t (some k))):=by
  intro l;induction l with
  |nil=>intro h;cases h
  |cons e l ih=>
   intro h k hk;show((Ke (DA e) (f (DA e)))::Ff l f).find? (KG t)=_
   rw[List.find?_cons,key];by_cases he:DA e=t
   ·rw[he,hk,Ac rfl];rfl
   ·rw[Ai he,BC];rw[AV,AK]at h;exact ih (h.resolve_left fun e=>he e.symm) k hk
 refine⟨?_,fun k hk=>h1 l (hS t k hk) k hk⟩;cases hf:f t with
 |none=>
  rw[Option.isSome_none,List.any_eq_false];intro e he;obtain⟨u,_,rfl⟩:=AX.1 he;rw[key];simp only[Aa,Ab,not_and];intro h2 h3;rw[h3,hf]at h2;cases h2
 |some k=>
  rw[Cg,List.any_eq_true];have h2:=h1 l (hS t k hf) k hf;exact⟨_,List.mem_of_find?_eq_some h2,List.find?_some h2⟩
theorem XO{ws:List PV}{fl:Bool}{x y z:Int}(h:Ho ws)(hs:EO ws (x,y,z)):Mb (Eb ws []) (Gw (gE fl ws) (x,y,z)):=fun v k hk=>by
 obtain⟨h1,h2⟩:=eg h;rw[EK]at hk;obtain⟨hw,_⟩:=hk;cases hw with
 |nil=>exact Gs.2 hs
 |step hw he=>exact(XF fl h1 _ he).2
theorem vI(t:T3)(k:Ky):rP (Ke t (some k))=k.2.map iv:=rfl
theorem vJ(t:T3)(k:Ky):rC (Ke t (some k))=k.1:=rfl
theorem og(f:Bool)(ws:List PV)(x y z a b c:Int)(fl:Bool)(h:Ho ws):Dr Try.prog 13 [.C9 f 49 ws,DV x y z,DV a b c,bv fl] (jD (FN ws fl (x,y,z) (a,b,c))):=by
 have hq:=jG f ws x y z a b c fl;rw[Dy.2 h,Aj]at hq;cases hd:decide (DI x y z 0 (Eb ws [])<0) with
 |true=>
  rw[hd,Aj]at hq;rw[Ab,Gr (by omega),Gs]at hd;rw[Ie hd];exact SP (Cy bX (n:=60) hq).2
 |false=>
  rw[hd,Ar]at hq;rw[AQ,Gr (by omega),C7,Gs]at hd;obtain⟨h1,h2⟩:=eg h;have e1:(KE ws fl x y z).length=(Eb ws []).length:=Fg;have hp:od (lA false (KE ws fl x y z) 0 x y z a b c)=true:=by
   simp only[od,Aa,Ab];exact⟨⟨by omega,by omega⟩,by omega⟩
  obtain⟨g1,g2⟩:=jH (t:=(a,b,c)) (XO (fl:=fl) h hd);rw[hp,Aj,show(0:Int).toNat=0 from rfl,AF,g1]at hq;rw[JJ hd];cases hm:Gw (gE fl ws) (x,y,z) (a,b,c) with
  |none=>
   rw[hm]at hq;exact SP (Cy bX (n:=60) hq).2
  |some k=>
   rw[g2 k hm,hm,Cg,Aj,Bx,vI,vJ]at hq;exact(Cy bX (n:=60) hq).2
theorem vK:Hx.Dd Try.prog 13:=(Cy bX (n:=60) ((jG false [] 0 0 0 0 0 0 false).trans (by rw[Dy.2 ZK];rfl))).1
theorem vL(args:List PV)(d:DT PV)(r:PV)(h:SO args=some d)(hr:d.run=some r):Dr Try.prog 13 args r:=by
 unfold SO at h;split at h
 ·rename_i f ws x y z a b c fl;cases h;obtain⟨h1,rfl⟩:=DN hr;simp only[Aa,Dy,Ea]at h1;exact og f ws x y z a b c fl h1.1
 ·cases h
def Fp:S1:=⟨116,[(4,.ptr 2 1 0 0),(7,.C9 49),(8,.mp 4),(9,.sl 5),(10,.ptr 6 1 0 0),(15,.ptr 8 1 0 0),(57,.C9 49),(58,Dk),(59,Dk),(74,.sl 11),(75,Dk),(76,Dk)],
 [.one 30 3 aS,.map 30 3,.one 30 3 aS,.map 30 4,.map 30 78,.many 78 5,.GJ 78 5 (.agg [Dk,Dk,Dk,.nil,Dk]),.dead,.GJ 49 8 aW,.one 30 3 aS,.one 30 3 aS,.many 116 6]⟩
abbrev JK(f:Bool)(us:List PV)(n k:Nat)(f2:Bool)(us2:List PV)(len i:Int)(n2 k2:Nat)(l2 j p0 p1 p2:Int)(Dq:List (PV×PV))(s0 s1 s2:Int)(D0 D:List (PV×PV))(nl:Bool)(es:List PV)(x y z:Int)(rc:Int)
 (wi:Int) (wf:Bool) (wl:List PV) (lv:Int) (cs nm:ByteArray) (st:Bool) (wt ds a0 a1 a2 b0 b1 b2:Int) (nl2:Bool) (ab:List PV):LS:=
 ([.l f us,.n n,.n k,.l f2 us2,.i len,.i i,.n n2,.n k2,.i l2,.i j],[.i p0,.i p1,.i p2,.m Dq,.i s0,.i s1,.i s2,.m D0,.m D,.l nl es,.i x,.i y,.i z,.i rc,
  .i wi,.l wf wl,.i lv,.s cs,.s nm,.b st,.i wt,.i ds,.i a0,.i a1,.i a2,.i b0,.i b1,.i b2,.l nl2 ab])
abbrev q9(f:Bool)(us:List PV)(n k:Nat)(f2:Bool)(us2:List PV)(len i p0 p1 p2:Int)(Dq:List (PV×PV))(s0 s1 s2:Int)(D0 D:List (PV×PV))(nl:Bool)(es:List PV)(x y z:Int)(rc:Int)
 (wi:Int) (wf:Bool) (wl:List PV) (lv:Int) (cs nm:ByteArray) (st:Bool) (wt ds a0 a1 a2 b0 b1 b2:Int) (nl2:Bool) (ab:List PV):PX×List PV×List Row:=
 (.exit 4,tm 116 [(4,.ptr 2 1 0 0),(7,.C9 f 49 us),(8,.mp 4),(9,.sl 5 n 0 k),(10,.ptr 6 1 0 0),(57,.C9 f2 49 us2),(58,iv len),(59,iv i)],
  (Fp.put (JK f us n k f2 us2 len i 0 0 0 0 p0 p1 p2 Dq s0 s1 s2 D0 D nl es x y z rc wi wf wl lv cs nm st wt ds a0 a1 a2 b0 b1 b2 nl2 ab)).2)
abbrev ra(p0 p1 p2:Int)(Dq:List (PV×PV))(s0 s1 s2:Int)(D0 D:List (PV×PV))(nl:Bool)(es:List PV)(x y z:Int)(rc:Int)
 (wi:Int) (wf:Bool) (wl:List PV) (lv:Int) (cs nm:ByteArray) (st:Bool) (wt ds a0 a1 a2 b0 b1 b2:Int) (nl2:Bool) (ab:List PV) (j:Int):List Row:=
 (Fp.put (JK false [] 0 0 false [] 0 0 0 0 0 0 p0 p1 p2 Dq s0 s1 s2 D0 D nl es x y z rc wi wf wl lv cs nm st wt ds a0 a1 a2 b0 b1 b2 nl2 ab)).2++[bM (rE ab j),Dt]
theorem re(f:Bool)(us:List PV)(n k:Nat)(f2:Bool)(us2:List PV)(len i:Int)(n2 k2:Nat)(l2 j p0 p1 p2:Int)(Dq:List (PV×PV))(s0 s1 s2:Int)(D0 D:List (PV×PV))(es:List PV)(x y z:Int)(rc:Int)
 (wi:Int) (wf:Bool) (wl:List PV) (lv:Int) (cs nm:ByteArray) (st:Bool) (wt ds a0 a1 a2 b0 b1 b2:Int) (nl2:Bool) (ab:List PV):
 Db Try.prog vE 60 33 (Dg Try.f33 18) [4,7,8,9,10,15,57,58,59,74,75,76] [4,7,8,9,10,57,58,59] (Fp.put (JK f us n k f2 us2 len i n2 k2 l2 j p0 p1 p2 Dq s0 s1 s2 D0 D false es x y z rc wi wf wl lv cs nm st wt ds a0 a1 a2 b0 b1 b2 nl2 ab)).1 (Fp.put (JK f us n k f2 us2 len i n2 k2 l2 j p0 p1 p2 Dq s0 s1 s2 D0 D false es x y z rc wi wf wl lv cs nm st wt ds a0 a1 a2 b0 b1 b2 nl2 ab)).2 =
 bif decide (j<l2) then Sa ab n2 k2 j (HM ab n2 (bif Qa (cI (rE ab j) 0) (cI (rE ab j) 1) (cI (rE ab j) 2) x y z then bif !EE D (DV (cI (rE ab j) 3) (cI (rE ab j) 4) (cI (rE ab j) 5)) then
  bif GQ (ra p0 p1 p2 Dq s0 s1 s2 D0 D false es x y z rc wi wf wl lv cs nm st wt ds a0 a1 a2 b0 b1 b2 nl2 ab j) (ra p0 p1 p2 Dq s0 s1 s2 D0 D false es x y z rc wi wf wl lv cs nm st wt ds a0 a1 a2 b0 b1 b2 nl2 ab j) then
  bif decide (wl.length<=100000) then bif (es.length==n)&&(decide (k<=n)&&decide ((n+1)*56<=140737488355328)) then
   some (.normal,Fp.put (JK f us (max n (k+1)) (k+1) f2 us2 len i n2 k2 l2 (W (j+1)) p0 p1 p2 Dq s0 s1 s2 D0 D false (es.take k++Hv (cI (rE ab j) 3) (cI (rE ab j) 4) (cI (rE ab j) 5) false [iv wi] (W (rc+Du wl))::es.drop (k+1)) x y z rc wi wf wl lv cs nm st wt ds a0 a1 a2 b0 b1 b2 nl2 ab))
  else none else none else none
  else some (.normal,Fp.put (JK f us n k f2 us2 len i n2 k2 l2 (W (j+1)) p0 p1 p2 Dq s0 s1 s2 D0 D false es x y z rc wi wf wl lv cs nm st wt ds a0 a1 a2 b0 b1 b2 nl2 ab))
  else some (.normal,Fp.put (JK f us n k f2 us2 len i n2 k2 l2 (W (j+1)) p0 p1 p2 Dq s0 s1 s2 D0 D false es x y z rc wi wf wl lv cs nm st wt ds a0 a1 a2 b0 b1 b2 nl2 ab))))
 else some (q9 f us n k f2 us2 len i p0 p1 p2 Dq s0 s1 s2 D0 D false es x y z rc wi wf wl lv cs nm st wt ds a0 a1 a2 b0 b1 b2 nl2 ab):=by kernel_rfl
theorem vM(f:Bool)(us:List PV)(k:Nat)(f2:Bool)(us2:List PV)(len i j p0 p1 p2:Int)(Dq:List (PV×PV))(s0 s1 s2:Int)(D0 D:List (PV×PV))(es:List PV)(x y z:Int)(rc:Int)
 (wi:Int) (wf:Bool) (wl:List PV) (lv:Int) (cs nm:ByteArray) (st:Bool) (wt ds a0 a1 a2 b0 b1 b2:Int) (nl2:Bool) (ab:List PV) (hj:0<=j) (hj2:j<(ab.length:Int)) (hab:ab.length<=2) (hk:k<=es.length) (hes:es.length<=600000) (hwl:wl.length<=1000) (hrc:0<=rc) (hrc2:rc<=1000000000000000000):
 Db Try.prog vE 60 33 (Dg Try.f33 18) [4,7,8,9,10,15,57,58,59,74,75,76] [4,7,8,9,10,57,58,59] (Fp.put (JK f us es.length k f2 us2 len i ab.length ab.length ab.length j p0 p1 p2 Dq s0 s1 s2 D0 D false es x y z rc wi wf wl lv cs nm st wt ds a0 a1 a2 b0 b1 b2 nl2 ab)).1 (Fp.put (JK f us es.length k f2 us2 len i ab.length ab.length ab.length j p0 p1 p2 Dq s0 s1 s2 D0 D false es x y z rc wi wf wl lv cs nm st wt ds a0 a1 a2 b0 b1 b2 nl2 ab)).2 =
 some (.normal,Fp.put (JK f us (JO x y z D ([]++[iv wi]) (rc+Du wl) (es,k) (aE ab j)).1.length (JO x y z D ([]++[iv wi]) (rc+Du wl) (es,k) (aE ab j)).2 f2 us2 len i ab.length ab.length ab.length (j+1) p0 p1 p2 Dq s0 s1 s2 D0 D false (JO x y z D ([]++[iv wi]) (rc+Du wl) (es,k) (aE ab j)).1 x y z rc wi wf wl lv cs nm st wt ds a0 a1 a2 b0 b1 b2 nl2 ab)):=by
 obtain⟨w1,w2⟩:=GL hwl;rw[re,Ac hj2,Aj,FC rfl hj hj2,DJ rfl,Dx (n:=j+1) (by omega) (by omega),Dx (n:=rc+Du wl) (by omega) (by omega),OM,EM,
  Ac (show wl.length<=100000 by omega),show((es.length==es.length)&&(decide (k<=es.length)&&decide ((es.length+1)*56<=140737488355328)))=true by simp only[AS,BY,Aa,Ab];omega]
 simp only[Aj];unfold JO jq;cases h1:Qa (cI (aE ab j) 0) (cI (aE ab j) 1) (cI (aE ab j) 2) x y z with
 |false=>rfl
 |true=>
  cases h2:EE D (DV (cI (aE ab j) 3) (cI (aE ab j) 4) (cI (aE ab j) 5)) with
  |true=>rfl
  |false=>
   have e1:=NY (z:=vw (aE ab j) ([]++[iv wi]) (rc+Du wl)) hk;simp only[Aj,BS,Bg,e1];rfl
def PO:LS->Bool
 |([.l _ _,.n n,.n k,.l _ _,.i _,.i _,.n n2,.n k2,.i l2,.i j],[.i _,.i _,.i _,.m _,.i _,.i _,.i _,.m _,.m _,.l nl es,.i _,.i _,.i _,.i rc,
  .i _,.l _ wl,.i _,.s _,.s _,.b _,.i _,.i _,.i _,.i _,.i _,.i _,.i _,.i _,.l _ ab])=>
  decide (n=es.length)&&decide (k<=es.length)&&decide (n2=ab.length)&&decide (k2=ab.length)&&decide (l2=(ab.length:Int))&&decide (0<=j)&&decide (j<=(ab.length:Int))&&decide (ab.length<=2)&&decide ((es.length:Int)<=500000+j)&&decide (wl.length<=1000)&&decide (0<=rc)&&decide (rc<=1000000000000000000) && !nl
 |_=>false
def jI:LS->DT (PX×List PV×List Row)
 |([.l f us,.n _,.n k,.l f2 us2,.i len,.i i,.n _,.n _,.i _,.i j],[.i p0,.i p1,.i p2,.m Dq,.i s0,.i s1,.i s2,.m D0,.m D,.l _ es,.i x,.i y,.i z,.i rc,
  .i wi,.l wf wl,.i lv,.s cs,.s nm,.b st,.i wt,.i ds,.i a0,.i a1,.i a2,.i b0,.i b1,.i b2,.l nl2 ab])=>
  .leaf (q9 f us (HH x y z D ([]++[iv wi]) (rc+Du wl) (es,k) (ab.drop j.toNat)).1.length (HH x y z D ([]++[iv wi]) (rc+Du wl) (es,k) (ab.drop j.toNat)).2 f2 us2 len i p0 p1 p2 Dq s0 s1 s2 D0 D false (HH x y z D ([]++[iv wi]) (rc+Du wl) (es,k) (ab.drop j.toNat)).1 x y z rc wi wf wl lv cs nm st wt ds a0 a1 a2 b0 b1 b2 nl2 ab)
 |_=>.no
def bZ:LS->Nat
 |([.l _ _,.n _,.n _,.l _ _,.i _,.i _,.n _,.n _,.i l2,.i j],_)=>(l2-j).toNat
 |_=>0
theorem aa2:∀ s r,PO s=true->(jI s).run=some r->r.1≠.normal/\(Db Try.prog vE 60 33 (Dg Try.f33 18) [4,7,8,9,10,15,57,58,59,74,75,76] [4,7,8,9,10,57,58,59] (Fp.put s).1 (Fp.put s).2=some r \/
   ∃ s',Db Try.prog vE 60 33 (Dg Try.f33 18) [4,7,8,9,10,15,57,58,59,74,75,76] [4,7,8,9,10,57,58,59] (Fp.put s).1 (Fp.put s).2=some (.normal,Fp.put s')/\PO s'=true/\bZ s'<bZ s/\(jI s').run=some r):=by
 intro t r hp hr;unfold PO at hp;split at hp
 ·rename_i f us n k f2 us2 len i n2 k2 l2 j p0 p1 p2 Dq s0 s1 s2 D0 D nl es x y z rc wi wf wl lv cs nm st wt ds a0 a1 a2 b0 b1 b2 nl2 ab;simp only[Aa,Ab,Am]at hp;obtain⟨⟨⟨⟨⟨⟨⟨⟨⟨⟨⟨⟨rfl,h2⟩,rfl⟩,rfl⟩,rfl⟩,h6⟩,h7⟩,h8⟩,h9⟩,h10⟩,h11⟩,h12⟩,rfl⟩:=hp;have hr':=(Ah hr).symm;refine⟨by rw[hr'];simp,?_⟩;rw[show Fp.put ([.l f us,.n es.length,.n k,.l f2 us2,.i len,.i i,.n ab.length,.n ab.length,.i (ab.length:Int),.i j],[.i p0,.i p1,.i p2,.m Dq,.i s0,.i s1,.i s2,.m D0,.m D,.l false es,.i x,.i y,.i z,.i rc,
   .i wi,.l wf wl,.i lv,.s cs,.s nm,.b st,.i wt,.i ds,.i a0,.i a1,.i a2,.i b0,.i b1,.i b2,.l nl2 ab])=Fp.put (JK f us es.length k f2 us2 len i ab.length ab.length ab.length j p0 p1 p2 Dq s0 s1 s2 D0 D false es x y z rc wi wf wl lv cs nm st wt ds a0 a1 a2 b0 b1 b2 nl2 ab) from rfl]
  by_cases hi:j<(ab.length:Int)
  ·rw[vM (hj:=h6) (hj2:=hi) (hab:=h8) (hk:=h2) (hes:=by omega) (hwl:=h10) (hrc:=h11) (hrc2:=h12)];obtain⟨g1,g2,g3⟩:=Kh (x:=x) (y:=y) (z:=z) (D:=D) (ps:=[]++[iv wi]) (c:=rc+Du wl) (s:=(es,k)) (e:=aE ab j) h2;simp only at g1 g2 g3;refine .inr ⟨_,rfl,?_,?_,?_⟩
   ·simp only[PO,Aa,Ab,Am];exact⟨⟨⟨⟨⟨⟨⟨⟨⟨⟨⟨⟨trivial,g1⟩,trivial⟩,trivial⟩,trivial⟩,by omega⟩,by omega⟩,h8⟩,by omega⟩,h10⟩,h11⟩,h12⟩,trivial⟩
   ·simp only[bZ];omega
   ·rw[hr',Ds h6 hi];rfl
  ·rw[re,Ai hi];rw[AC (by omega)]at hr';exact .inl (by rw[hr'];rfl)
 ·cases hp
def R66:CY:=vE.Dl 33 18 [4,7,8,9,10,15,57,58,59,74,75,76] [false,false,false,false,false,false,false,false,true,true,true,false] Fp PO jI
theorem aa4:CG Try.prog R66.env:=
 q8.Dl (n:=60) Try.func33 (show Try.f33.body=some (DY Try.f33) by kernel_rfl) (show(loops (DY Try.f33)).filter (fun b=>Ew b==18)=[Dg Try.f33 18] by kernel_rfl) [4,7,8,9,10,15,57,58,59,74,75,76] [4,7,8,9,10,57,58,59] [false,false,false,false,false,false,false,false,true,true,true,false] Fp bZ aa2
def G8:S1:=⟨116,[(4,.ptr 2 1 0 0),(7,.C9 49),(8,.mp 4),(9,.sl 5),(10,.ptr 6 1 0 0),(57,.C9 49),(58,Dk),(59,Dk)],
 [.one 30 3 aS,.map 30 3,.one 30 3 aS,.map 30 4,.map 30 78,.many 78 5,.GJ 78 5 (.agg [Dk,Dk,Dk,.nil,Dk]),.dead]⟩
abbrev PQ(f:Bool)(us:List PV)(n k:Nat)(f2:Bool)(us2:List PV)(len i p0 p1 p2:Int)(Dq:List (PV×PV))(s0 s1 s2:Int)(D0 D:List (PV×PV))(nl:Bool)(es:List PV)(x y z:Int)(rc:Int):LS:=
 ([.l f us,.n n,.n k,.l f2 us2,.i len,.i i],[.i p0,.i p1,.i p2,.m Dq,.i s0,.i s1,.i s2,.m D0,.m D,.l nl es,.i x,.i y,.i z,.i rc])
abbrev ri(f:Bool)(us:List PV)(n k:Nat)(p0 p1 p2:Int)(Dq:List (PV×PV))(s0 s1 s2:Int)(D0 D:List (PV×PV))(nl:Bool)(es:List PV)(x y z:Int)(rc:Int):PX×List PV×List Row:=
 (.exit 2,tm 116 [(4,.ptr 2 1 0 0),(7,.C9 f 49 us),(8,.mp 4),(9,.sl 5 n 0 k)],(G8.put (PQ f us n k false [] 0 0 p0 p1 p2 Dq s0 s1 s2 D0 D nl es x y z rc)).2)
theorem aa5(f:Bool)(us:List PV)(n k:Nat)(f2:Bool)(us2:List PV)(len i p0 p1 p2:Int)(Dq:List (PV×PV))(s0 s1 s2:Int)(D0 D:List (PV×PV))(es:List PV)(x y z:Int)(rc:Int):
 Db Try.prog R66 60 33 (Dg Try.f33 14) [4,7,8,9,10,57,58,59] [4,7,8,9] (G8.put (PQ f us n k f2 us2 len i p0 p1 p2 Dq s0 s1 s2 D0 D false es x y z rc)).1 (G8.put (PQ f us n k f2 us2 len i p0 p1 p2 Dq s0 s1 s2 D0 D false es x y z rc)).2 =
 bif decide (i<len) then bif F8 us2 i then bif P8 (wL (us2.getD i.toNat .any)) then
  bif PO (JK f us n k f2 us2 len i 2 2 2 0 p0 p1 p2 Dq s0 s1 s2 D0 D false es x y z rc (wI (us2.getD i.toNat .any)) false (wL (us2.getD i.toNat .any)) (Mw (us2.getD i.toNat .any)) (cS (us2.getD i.toNat .any) 3) (cS (us2.getD i.toNat .any) 4) (Jv (us2.getD i.toNat .any)) (cI (us2.getD i.toNat .any) 6) (cI (us2.getD i.toNat .any) 7)
    (gX (eF (us2.getD i.toNat .any))) (gY (eF (us2.getD i.toNat .any))) (gL (eF (us2.getD i.toNat .any))) (gX (eL (us2.getD i.toNat .any))) (gY (eL (us2.getD i.toNat .any))) (gL (eL (us2.getD i.toNat .any))) false (Te (us2.getD i.toNat .any))) then
   some (.normal,G8.put (PQ f us (HH x y z D ([]++[iv (wI (us2.getD i.toNat .any))]) (rc+Du (wL (us2.getD i.toNat .any))) (es,k) ((Te (us2.getD i.toNat .any)).drop (0:Int).toNat)).1.length (HH x y z D ([]++[iv (wI (us2.getD i.toNat .any))]) (rc+Du (wL (us2.getD i.toNat .any))) (es,k) ((Te (us2.getD i.toNat .any)).drop (0:Int).toNat)).2 f2 us2 len (W (i+1)) p0 p1 p2 Dq s0 s1 s2 D0 D false
    (HH x y z D ([]++[iv (wI (us2.getD i.toNat .any))]) (rc+Du (wL (us2.getD i.toNat .any))) (es,k) ((Te (us2.getD i.toNat .any)).drop (0:Int).toNat)).1 x y z rc)) else none else none else none
 else some (ri f us n k p0 p1 p2 Dq s0 s1 s2 D0 D false es x y z rc):=by kernel_rfl
def PR:LS->Bool
 |([.l _ _,.n n,.n k,.l _ us2,.i len,.i i],[.i _,.i _,.i _,.m _,.i _,.i _,.i _,.m _,.m _,.l nl es,.i _,.i _,.i _,.i rc])=>
  decide (n=es.length)&&decide (k<=es.length)&&decide (len=(us2.length:Int))&&decide (0<=i)&&decide (i<=(us2.length:Int))&&decide (us2.length<=100)&&decide ((es.length:Int)<=400000+2*i)&&(us2.all HI)&&decide (0<=rc)&&decide (rc<=1000000000000000000) && !nl
 |_=>false
def jJ:LS->DT (PX×List PV×List Row)
 |([.l f us,.n _,.n k,.l _ us2,.i _,.i i],[.i p0,.i p1,.i p2,.m Dq,.i s0,.i s1,.i s2,.m D0,.m D,.l _ es,.i x,.i y,.i z,.i rc])=>
  .leaf (ri f us (DQ x y z D [] rc (es,k) (us2.drop i.toNat)).1.length (DQ x y z D [] rc (es,k) (us2.drop i.toNat)).2 p0 p1 p2 Dq s0 s1 s2 D0 D false (DQ x y z D [] rc (es,k) (us2.drop i.toNat)).1 x y z rc)
 |_=>.no
def b6:LS->Nat
 |([.l _ _,.n _,.n _,.l _ _,.i len,.i i],_)=>(len-i).toNat
 |_=>0
theorem aa6:∀ s r,PR s=true->(jJ s).run=some r->r.1≠.normal/\(Db Try.prog R66 60 33 (Dg Try.f33 14) [4,7,8,9,10,57,58,59] [4,7,8,9] (G8.put s).1 (G8.put s).2=some r \/
   ∃ s',Db Try.prog R66 60 33 (Dg Try.f33 14) [4,7,8,9,10,57,58,59] [4,7,8,9] (G8.put s).1 (G8.put s).2=some (.normal,G8.put s')/\PR s'=true/\b6 s'<b6 s/\(jJ s').run=some r):=by
 intro t r hp hr;unfold PR at hp;split at hp
 ·rename_i f us n k f2 us2 len i p0 p1 p2 Dq s0 s1 s2 D0 D nl es x y z rc;simp only[Aa,Ab,Am]at hp;obtain⟨⟨⟨⟨⟨⟨⟨⟨⟨⟨rfl,h2⟩,rfl⟩,h4⟩,h5⟩,h6⟩,h7⟩,h8⟩,h9⟩,h10⟩,rfl⟩:=hp;have hr':=(Ah hr).symm;refine⟨by rw[hr'];simp,?_⟩;rw[show G8.put ([.l f us,.n es.length,.n k,.l f2 us2,.i (us2.length:Int),.i i],[.i p0,.i p1,.i p2,.m Dq,.i s0,.i s1,.i s2,.m D0,.m D,.l false es,.i x,.i y,.i z,.i rc]) =
   G8.put (PQ f us es.length k f2 us2 us2.length i p0 p1 p2 Dq s0 s1 s2 D0 D false es x y z rc) from rfl,aa5]
  by_cases hi:i<(us2.length:Int)
  ·have hu:=Ao.1 h8 _ (Jd h4 hi);have hu0:¬(wL (us2.getD i.toNat .any)).length=0/\(wL (us2.getD i.toNat .any)).length<=1000:=by
    have:HI (us2.getD i.toNat .any)=true:=hu;simp only[HI,Aa,Am,AR,Ab]at this;exact this
   rw[Ds h4 hi]at hr';generalize us2.getD i.toNat .any=e at *;have hp18:PO (JK f us es.length k f2 us2 us2.length i 2 2 2 0 p0 p1 p2 Dq s0 s1 s2 D0 D false es x y z rc (wI e) false (wL e) (Mw e) (cS e 3) (cS e 4) (Jv e) (cI e 6) (cI e 7) (gX (eF e)) (gY (eF e)) (gL (eF e)) (gX (eL e)) (gY (eL e)) (gL (eL e)) false (Te e))=true:=by
    simp only[PO,Aa,Ab,Am,As,AB];exact⟨⟨⟨⟨⟨⟨⟨⟨⟨⟨⟨⟨trivial,h2⟩,trivial⟩,trivial⟩,by decide⟩,by decide⟩,by decide⟩,by decide⟩,by omega⟩,hu0.2⟩,h9⟩,h10⟩,trivial⟩
   rw[Ac hi,DW h4 hi,Ll hu0.1 (by omega),hp18,Dx (n:=i+1) (by omega) (by omega),show(0:Int).toNat=0 from rfl,AF];obtain⟨g1,g2,g3⟩:=JF (x:=x) (y:=y) (z:=z) (D:=D) (ps:=[]) (rc:=rc) (s:=(es,k)) (e:=e) h2;simp only at g1 g2 g3;refine .inr ⟨PQ f us (IQ x y z D [] rc (es,k) e).1.length (IQ x y z D [] rc (es,k) e).2 f2 us2 us2.length (i+1) p0 p1 p2 Dq s0 s1 s2 D0 D false (IQ x y z D [] rc (es,k) e).1 x y z rc,rfl,?_,?_,?_⟩
   ·simp only[PR,Aa,Ab,Am];exact⟨⟨⟨⟨⟨⟨⟨⟨⟨⟨trivial,g1⟩,trivial⟩,by omega⟩,by omega⟩,h6⟩,by omega⟩,h8⟩,h9⟩,h10⟩,trivial⟩
   ·simp only[b6];omega
   ·rw[hr'];rfl
  ·rw[Ai hi];rw[AC (by omega)]at hr';exact .inl (by rw[hr'];rfl)
 ·cases hp
def xT:CY:=R66.Kw Try.prog [false,false,false,false,false,true,false,false] 33 14 [4,7,8,9,10,57,58,59] [false,false,false,false,false,false,true,false] G8 PR jJ
theorem aa7:CG Try.prog xT.env:=
 aa4.Kw (n:=60) Try.func33 (show Try.f33.body=some (DY Try.f33) by kernel_rfl) (show(loops (DY Try.f33)).filter (fun b=>Ew b==14)=[Dg Try.f33 14] by kernel_rfl) [false,false,false,false,false,true,false,false] [4,7,8,9,10,57,58,59] [4,7,8,9] [false,false,false,false,false,false,true,false] G8 b6 aa6
def Fq:S1:=⟨116,[(4,.ptr 2 1 0 0),(7,.C9 49),(8,.mp 4),(9,.sl 5),(10,.ptr 6 1 0 0),(15,.ptr 8 1 0 0),(57,.C9 49),(58,Dk),(59,Dk),(74,.sl 11),(75,Dk),(76,Dk)],
 [.one 30 3 aS,.map 30 3,.one 30 3 aS,.map 30 4,.map 30 78,.many 78 5,.GJ 78 5 (.agg [Dk,Dk,Dk,.C9 3,Dk]),.dead,.GJ 49 8 aW,.one 30 3 aS,.one 30 3 aS,.many 116 6]⟩
abbrev JL(f:Bool)(us:List PV)(n k:Nat)(f2:Bool)(us2:List PV)(len i:Int)(n2 k2:Nat)(l2 j p0 p1 p2:Int)(Dq:List (PV×PV))(s0 s1 s2:Int)(D0 D:List (PV×PV))(nl:Bool)(es:List PV)(x y z:Int)(rf:Bool)(rp:List PV)(rc:Int)
 (wi:Int) (wf:Bool) (wl:List PV) (lv:Int) (cs nm:ByteArray) (st:Bool) (wt ds a0 a1 a2 b0 b1 b2:Int) (nl2:Bool) (ab:List PV):LS:=
 ([.l f us,.n n,.n k,.l f2 us2,.i len,.i i,.n n2,.n k2,.i l2,.i j],[.i p0,.i p1,.i p2,.m Dq,.i s0,.i s1,.i s2,.m D0,.m D,.l nl es,.i x,.i y,.i z,.l rf rp,.i rc,
  .i wi,.l wf wl,.i lv,.s cs,.s nm,.b st,.i wt,.i ds,.i a0,.i a1,.i a2,.i b0,.i b1,.i b2,.l nl2 ab])
abbrev rj(f:Bool)(us:List PV)(n k:Nat)(f2:Bool)(us2:List PV)(len i p0 p1 p2:Int)(Dq:List (PV×PV))(s0 s1 s2:Int)(D0 D:List (PV×PV))(nl:Bool)(es:List PV)(x y z:Int)(rf:Bool)(rp:List PV)(rc:Int)
 (wi:Int) (wf:Bool) (wl:List PV) (lv:Int) (cs nm:ByteArray) (st:Bool) (wt ds a0 a1 a2 b0 b1 b2:Int) (nl2:Bool) (ab:List PV):PX×List PV×List Row:=
 (.exit 4,tm 116 [(4,.ptr 2 1 0 0),(7,.C9 f 49 us),(8,.mp 4),(9,.sl 5 n 0 k),(10,.ptr 6 1 0 0),(57,.C9 f2 49 us2),(58,iv len),(59,iv i)],
  (Fq.put (JL f us n k f2 us2 len i 0 0 0 0 p0 p1 p2 Dq s0 s1 s2 D0 D nl es x y z rf rp rc wi wf wl lv cs nm st wt ds a0 a1 a2 b0 b1 b2 nl2 ab)).2)
abbrev rk(p0 p1 p2:Int)(Dq:List (PV×PV))(s0 s1 s2:Int)(D0 D:List (PV×PV))(nl:Bool)(es:List PV)(x y z:Int)(rf:Bool)(rp:List PV)(rc:Int)
 (wi:Int) (wf:Bool) (wl:List PV) (lv:Int) (cs nm:ByteArray) (st:Bool) (wt ds a0 a1 a2 b0 b1 b2:Int) (nl2:Bool) (ab:List PV) (j:Int):List Row:=
 (Fq.put (JL false [] 0 0 false [] 0 0 0 0 0 0 p0 p1 p2 Dq s0 s1 s2 D0 D nl es x y z rf rp rc wi wf wl lv cs nm st wt ds a0 a1 a2 b0 b1 b2 nl2 ab)).2++[bM (rE ab j),Dt]
theorem rl(f:Bool)(us:List PV)(n k:Nat)(f2:Bool)(us2:List PV)(len i:Int)(n2 k2:Nat)(l2 j p0 p1 p2:Int)(Dq:List (PV×PV))(s0 s1 s2:Int)(D0 D:List (PV×PV))(es:List PV)(x y z:Int)(rf:Bool)(rp:List PV)(rc:Int)
 (wi:Int) (wf:Bool) (wl:List PV) (lv:Int) (cs nm:ByteArray) (st:Bool) (wt ds a0 a1 a2 b0 b1 b2:Int) (nl2:Bool) (ab:List PV):
 Db Try.prog xT 60 33 (Dg Try.f33 18) [4,7,8,9,10,15,57,58,59,74,75,76] [4,7,8,9,10,57,58,59] (Fq.put (JL f us n k f2 us2 len i n2 k2 l2 j p0 p1 p2 Dq s0 s1 s2 D0 D false es x y z rf rp rc wi wf wl lv cs nm st wt ds a0 a1 a2 b0 b1 b2 nl2 ab)).1 (Fq.put (JL f us n k f2 us2 len i n2 k2 l2 j p0 p1 p2 Dq s0 s1 s2 D0 D false es x y z rf rp rc wi wf wl lv cs nm st wt ds a0 a1 a2 b0 b1 b2 nl2 ab)).2 =
 bif decide (j<l2) then Sa ab n2 k2 j (HM ab n2 (bif Qa (cI (rE ab j) 0) (cI (rE ab j) 1) (cI (rE ab j) 2) x y z then bif !EE D (DV (cI (rE ab j) 3) (cI (rE ab j) 4) (cI (rE ab j) 5)) then
  bif decide (0<rp.length) then bif decide ((0+rp.length)*8<=140737488355328) then bif GQ (rk p0 p1 p2 Dq s0 s1 s2 D0 D false es x y z rf rp rc wi wf wl lv cs nm st wt ds a0 a1 a2 b0 b1 b2 nl2 ab j) (rk p0 p1 p2 Dq s0 s1 s2 D0 D false es x y z rf rp rc wi wf wl lv cs nm st wt ds a0 a1 a2 b0 b1 b2 nl2 ab j) then
  bif vv rp wi then bif decide (wl.length<=100000) then bif (es.length==n)&&(decide (k<=n)&&decide ((n+1)*56<=140737488355328)) then
   some (.normal,Fq.put (JL f us (max n (k+1)) (k+1) f2 us2 len i n2 k2 l2 (W (j+1)) p0 p1 p2 Dq s0 s1 s2 D0 D false (es.take k++Hv (cI (rE ab j) 3) (cI (rE ab j) 4) (cI (rE ab j) 5) false (jn rp wi) (W (rc+Du wl))::es.drop (k+1)) x y z rf rp rc wi wf wl lv cs nm st wt ds a0 a1 a2 b0 b1 b2 nl2 ab))
  else none else none else none else none else none else none
  else some (.normal,Fq.put (JL f us n k f2 us2 len i n2 k2 l2 (W (j+1)) p0 p1 p2 Dq s0 s1 s2 D0 D false es x y z rf rp rc wi wf wl lv cs nm st wt ds a0 a1 a2 b0 b1 b2 nl2 ab))
  else some (.normal,Fq.put (JL f us n k f2 us2 len i n2 k2 l2 (W (j+1)) p0 p1 p2 Dq s0 s1 s2 D0 D false es x y z rf rp rc wi wf wl lv cs nm st wt ds a0 a1 a2 b0 b1 b2 nl2 ab))))
 else some (rj f us n k f2 us2 len i p0 p1 p2 Dq s0 s1 s2 D0 D false es x y z rf rp rc wi wf wl lv cs nm st wt ds a0 a1 a2 b0 b1 b2 nl2 ab):=by kernel_rfl
theorem vN(f:Bool)(us:List PV)(k:Nat)(f2:Bool)(us2:List PV)(len i j p0 p1 p2:Int)(Dq:List (PV×PV))(s0 s1 s2:Int)(D0 D:List (PV×PV))(es:List PV)(x y z:Int)(rf:Bool)(rp:List PV)(rc:Int)
 (wi:Int) (wf:Bool) (wl:List PV) (lv:Int) (cs nm:ByteArray) (st:Bool) (wt ds a0 a1 a2 b0 b1 b2:Int) (nl2:Bool) (ab:List PV) (hj:0<=j) (hj2:j<(ab.length:Int)) (hab:ab.length<=2) (hk:k<=es.length) (hes:es.length<=600000) (hwl:wl.length<=1000) (hrc:0<=rc) (hrc2:rc<=1000000000000000000) (hr0:0<rp.length) (hr1:rp.length<=100000):
 Db Try.prog xT 60 33 (Dg Try.f33 18) [4,7,8,9,10,15,57,58,59,74,75,76] [4,7,8,9,10,57,58,59] (Fq.put (JL f us es.length k f2 us2 len i ab.length ab.length ab.length j p0 p1 p2 Dq s0 s1 s2 D0 D false es x y z rf rp rc wi wf wl lv cs nm st wt ds a0 a1 a2 b0 b1 b2 nl2 ab)).1 (Fq.put (JL f us es.length k f2 us2 len i ab.length ab.length ab.length j p0 p1 p2 Dq s0 s1 s2 D0 D false es x y z rf rp rc wi wf wl lv cs nm st wt ds a0 a1 a2 b0 b1 b2 nl2 ab)).2 =
 some (.normal,Fq.put (JL f us (JO x y z D (rp++[iv wi]) (rc+Du wl) (es,k) (aE ab j)).1.length (JO x y z D (rp++[iv wi]) (rc+Du wl) (es,k) (aE ab j)).2 f2 us2 len i ab.length ab.length ab.length (j+1) p0 p1 p2 Dq s0 s1 s2 D0 D false (JO x y z D (rp++[iv wi]) (rc+Du wl) (es,k) (aE ab j)).1 x y z rf rp rc wi wf wl lv cs nm st wt ds a0 a1 a2 b0 b1 b2 nl2 ab)):=by
 obtain⟨w1,w2⟩:=GL hwl;rw[rl,Ac hj2,Aj,FC rfl hj hj2,DJ rfl,Dx (n:=j+1) (by omega) (by omega),Dx (n:=rc+Du wl) (by omega) (by omega),OM,EM,Ac hr0,Ac (show(0+rp.length)*8<=140737488355328 by omega),bO (wi:=wi) (show rp.length<=1000000 by omega),XG,
  Ac (show wl.length<=100000 by omega),show((es.length==es.length)&&(decide (k<=es.length)&&decide ((es.length+1)*56<=140737488355328)))=true by simp only[AS,BY,Aa,Ab];omega]
 simp only[Aj];unfold JO jq;cases h1:Qa (cI (aE ab j) 0) (cI (aE ab j) 1) (cI (aE ab j) 2) x y z with
 |false=>rfl
 |true=>
  cases h2:EE D (DV (cI (aE ab j) 3) (cI (aE ab j) 4) (cI (aE ab j) 5)) with
  |true=>rfl
  |false=>
   have e1:=NY (z:=vw (aE ab j) (rp++[iv wi]) (rc+Du wl)) hk;simp only[Aj,BS,Bg,e1];rfl
def PS:LS->Bool
 |([.l _ _,.n n,.n k,.l _ _,.i _,.i _,.n n2,.n k2,.i l2,.i j],[.i _,.i _,.i _,.m _,.i _,.i _,.i _,.m _,.m _,.l nl es,.i _,.i _,.i _,.l _ rp,.i rc,
  .i _,.l _ wl,.i _,.s _,.s _,.b _,.i _,.i _,.i _,.i _,.i _,.i _,.i _,.i _,.l _ ab])=>
  decide (n=es.length)&&decide (k<=es.length)&&decide (n2=ab.length)&&decide (k2=ab.length)&&decide (l2=(ab.length:Int))&&decide (0<=j)&&decide (j<=(ab.length:Int))&&decide (ab.length<=2)&&decide ((es.length:Int)<=500000+j)&&decide (wl.length<=1000)&&decide (0<=rc)&&decide (rc<=1000000000000000000) && !nl&&decide (0<rp.length)&&decide (rp.length<=100000)
 |_=>false
def jK:LS->DT (PX×List PV×List Row)
 |([.l f us,.n _,.n k,.l f2 us2,.i len,.i i,.n _,.n _,.i _,.i j],[.i p0,.i p1,.i p2,.m Dq,.i s0,.i s1,.i s2,.m D0,.m D,.l _ es,.i x,.i y,.i z,.l rf rp,.i rc,
  .i wi,.l wf wl,.i lv,.s cs,.s nm,.b st,.i wt,.i ds,.i a0,.i a1,.i a2,.i b0,.i b1,.i b2,.l nl2 ab])=>
  .leaf (rj f us (HH x y z D (rp++[iv wi]) (rc+Du wl) (es,k) (ab.drop j.toNat)).1.length (HH x y z D (rp++[iv wi]) (rc+Du wl) (es,k) (ab.drop j.toNat)).2 f2 us2 len i p0 p1 p2 Dq s0 s1 s2 D0 D false (HH x y z D (rp++[iv wi]) (rc+Du wl) (es,k) (ab.drop j.toNat)).1 x y z rf rp rc wi wf wl lv cs nm st wt ds a0 a1 a2 b0 b1 b2 nl2 ab)
 |_=>.no
def b7:LS->Nat
 |([.l _ _,.n _,.n _,.l _ _,.i _,.i _,.n _,.n _,.i l2,.i j],_)=>(l2-j).toNat
 |_=>0
theorem aa8:∀ s r,PS s=true->(jK s).run=some r->r.1≠.normal/\(Db Try.prog xT 60 33 (Dg Try.f33 18) [4,7,8,9,10,15,57,58,59,74,75,76] [4,7,8,9,10,57,58,59] (Fq.put s).1 (Fq.put s).2=some r \/
   ∃ s',Db Try.prog xT 60 33 (Dg Try.f33 18) [4,7,8,9,10,15,57,58,59,74,75,76] [4,7,8,9,10,57,58,59] (Fq.put s).1 (Fq.put s).2=some (.normal,Fq.put s')/\PS s'=true/\b7 s'<b7 s/\(jK s').run=some r):=by
 intro t r hp hr;unfold PS at hp;split at hp
 ·rename_i f us n k f2 us2 len i n2 k2 l2 j p0 p1 p2 Dq s0 s1 s2 D0 D nl es x y z rf rp rc wi wf wl lv cs nm st wt ds a0 a1 a2 b0 b1 b2 nl2 ab;simp only[Aa,Ab,Am]at hp;obtain⟨⟨⟨⟨⟨⟨⟨⟨⟨⟨⟨⟨⟨⟨rfl,h2⟩,rfl⟩,rfl⟩,rfl⟩,h6⟩,h7⟩,h8⟩,h9⟩,h10⟩,h11⟩,h12⟩,rfl⟩,h14⟩,h15⟩:=hp;have hr':=(Ah hr).symm;refine⟨by rw[hr'];simp,?_⟩;rw[show Fq.put ([.l f us,.n es.length,.n k,.l f2 us2,.i len,.i i,.n ab.length,.n ab.length,.i (ab.length:Int),.i j],[.i p0,.i p1,.i p2,.m Dq,.i s0,.i s1,.i s2,.m D0,.m D,.l false es,.i x,.i y,.i z,.l rf rp,.i rc,
   .i wi,.l wf wl,.i lv,.s cs,.s nm,.b st,.i wt,.i ds,.i a0,.i a1,.i a2,.i b0,.i b1,.i b2,.l nl2 ab])=Fq.put (JL f us es.length k f2 us2 len i ab.length ab.length ab.length j p0 p1 p2 Dq s0 s1 s2 D0 D false es x y z rf rp rc wi wf wl lv cs nm st wt ds a0 a1 a2 b0 b1 b2 nl2 ab) from rfl]
  by_cases hi:j<(ab.length:Int)
  ·rw[vN (hj:=h6) (hj2:=hi) (hab:=h8) (hk:=h2) (hes:=by omega) (hwl:=h10) (hrc:=h11) (hrc2:=h12) (hr0:=h14) (hr1:=h15)];obtain⟨g1,g2,g3⟩:=Kh (x:=x) (y:=y) (z:=z) (D:=D) (ps:=rp++[iv wi]) (c:=rc+Du wl) (s:=(es,k)) (e:=aE ab j) h2;simp only at g1 g2 g3;refine .inr ⟨_,rfl,?_,?_,?_⟩
   ·simp only[PS,Aa,Ab,Am];exact⟨⟨⟨⟨⟨⟨⟨⟨⟨⟨⟨⟨⟨⟨trivial,g1⟩,trivial⟩,trivial⟩,trivial⟩,by omega⟩,by omega⟩,h8⟩,by omega⟩,h10⟩,h11⟩,h12⟩,trivial⟩,h14⟩,h15⟩
   ·simp only[b7];omega
   ·rw[hr',Ds h6 hi];rfl
  ·rw[rl,Ai hi];rw[AC (by omega)]at hr';exact .inl (by rw[hr'];rfl)
 ·cases hp
def R68:CY:=xT.Dl 33 18 [4,7,8,9,10,15,57,58,59,74,75,76] [false,false,false,false,false,false,false,false,true,true,true,false] Fq PS jK
theorem aba:CG Try.prog R68.env:=
 aa7.Dl (n:=60) Try.func33 (show Try.f33.body=some (DY Try.f33) by kernel_rfl) (show(loops (DY Try.f33)).filter (fun b=>Ew b==18)=[Dg Try.f33 18] by kernel_rfl) [4,7,8,9,10,15,57,58,59,74,75,76] [4,7,8,9,10,57,58,59] [false,false,false,false,false,false,false,false,true,true,true,false] Fq b7 aa8
def G9:S1:=⟨116,[(4,.ptr 2 1 0 0),(7,.C9 49),(8,.mp 4),(9,.sl 5),(10,.ptr 6 1 0 0),(57,.C9 49),(58,Dk),(59,Dk)],
 [.one 30 3 aS,.map 30 3,.one 30 3 aS,.map 30 4,.map 30 78,.many 78 5,.GJ 78 5 (.agg [Dk,Dk,Dk,.C9 3,Dk]),.dead]⟩
abbrev PT(f:Bool)(us:List PV)(n k:Nat)(f2:Bool)(us2:List PV)(len i p0 p1 p2:Int)(Dq:List (PV×PV))(s0 s1 s2:Int)(D0 D:List (PV×PV))(nl:Bool)(es:List PV)(x y z:Int)(rf:Bool)(rp:List PV)(rc:Int):LS:=
 ([.l f us,.n n,.n k,.l f2 us2,.i len,.i i],[.i p0,.i p1,.i p2,.m Dq,.i s0,.i s1,.i s2,.m D0,.m D,.l nl es,.i x,.i y,.i z,.l rf rp,.i rc])
abbrev rn(f:Bool)(us:List PV)(n k:Nat)(p0 p1 p2:Int)(Dq:List (PV×PV))(s0 s1 s2:Int)(D0 D:List (PV×PV))(nl:Bool)(es:List PV)(x y z:Int)(rf:Bool)(rp:List PV)(rc:Int):PX×List PV×List Row:=
 (.exit 2,tm 116 [(4,.ptr 2 1 0 0),(7,.C9 f 49 us),(8,.mp 4),(9,.sl 5 n 0 k)],(G9.put (PT f us n k false [] 0 0 p0 p1 p2 Dq s0 s1 s2 D0 D nl es x y z rf rp rc)).2)
theorem abb(f:Bool)(us:List PV)(n k:Nat)(f2:Bool)(us2:List PV)(len i p0 p1 p2:Int)(Dq:List (PV×PV))(s0 s1 s2:Int)(D0 D:List (PV×PV))(es:List PV)(x y z:Int)(rf:Bool)(rp:List PV)(rc:Int):
 Db Try.prog R68 60 33 (Dg Try.f33 14) [4,7,8,9,10,57,58,59] [4,7,8,9] (G9.put (PT f us n k f2 us2 len i p0 p1 p2 Dq s0 s1 s2 D0 D false es x y z rf rp rc)).1 (G9.put (PT f us n k f2 us2 len i p0 p1 p2 Dq s0 s1 s2 D0 D false es x y z rf rp rc)).2 =
 bif decide (i<len) then bif F8 us2 i then bif P8 (wL (us2.getD i.toNat .any)) then
  bif PS (JL f us n k f2 us2 len i 2 2 2 0 p0 p1 p2 Dq s0 s1 s2 D0 D false es x y z rf rp rc (wI (us2.getD i.toNat .any)) false (wL (us2.getD i.toNat .any)) (Mw (us2.getD i.toNat .any)) (cS (us2.getD i.toNat .any) 3) (cS (us2.getD i.toNat .any) 4) (Jv (us2.getD i.toNat .any)) (cI (us2.getD i.toNat .any) 6) (cI (us2.getD i.toNat .any) 7)
    (gX (eF (us2.getD i.toNat .any))) (gY (eF (us2.getD i.toNat .any))) (gL (eF (us2.getD i.toNat .any))) (gX (eL (us2.getD i.toNat .any))) (gY (eL (us2.getD i.toNat .any))) (gL (eL (us2.getD i.toNat .any))) false (Te (us2.getD i.toNat .any))) then
   some (.normal,G9.put (PT f us (HH x y z D (rp++[iv (wI (us2.getD i.toNat .any))]) (rc+Du (wL (us2.getD i.toNat .any))) (es,k) ((Te (us2.getD i.toNat .any)).drop (0:Int).toNat)).1.length (HH x y z D (rp++[iv (wI (us2.getD i.toNat .any))]) (rc+Du (wL (us2.getD i.toNat .any))) (es,k) ((Te (us2.getD i.toNat .any)).drop (0:Int).toNat)).2 f2 us2 len (W (i+1)) p0 p1 p2 Dq s0 s1 s2 D0 D false
    (HH x y z D (rp++[iv (wI (us2.getD i.toNat .any))]) (rc+Du (wL (us2.getD i.toNat .any))) (es,k) ((Te (us2.getD i.toNat .any)).drop (0:Int).toNat)).1 x y z rf rp rc)) else none else none else none
 else some (rn f us n k p0 p1 p2 Dq s0 s1 s2 D0 D false es x y z rf rp rc):=by kernel_rfl
def PU:LS->Bool
 |([.l _ _,.n n,.n k,.l _ us2,.i len,.i i],[.i _,.i _,.i _,.m _,.i _,.i _,.i _,.m _,.m _,.l nl es,.i _,.i _,.i _,.l _ rp,.i rc])=>
  decide (n=es.length)&&decide (k<=es.length)&&decide (len=(us2.length:Int))&&decide (0<=i)&&decide (i<=(us2.length:Int))&&decide (us2.length<=100)&&decide ((es.length:Int)<=400000+2*i)&&(us2.all HI)&&decide (0<=rc)&&decide (rc<=1000000000000000000) && !nl&&decide (0<rp.length)&&decide (rp.length<=100000)
 |_=>false
def jL:LS->DT (PX×List PV×List Row)
 |([.l f us,.n _,.n k,.l _ us2,.i _,.i i],[.i p0,.i p1,.i p2,.m Dq,.i s0,.i s1,.i s2,.m D0,.m D,.l _ es,.i x,.i y,.i z,.l rf rp,.i rc])=>
  .leaf (rn f us (DQ x y z D rp rc (es,k) (us2.drop i.toNat)).1.length (DQ x y z D rp rc (es,k) (us2.drop i.toNat)).2 p0 p1 p2 Dq s0 s1 s2 D0 D false (DQ x y z D rp rc (es,k) (us2.drop i.toNat)).1 x y z rf rp rc)
 |_=>.no
def b8:LS->Nat
 |([.l _ _,.n _,.n _,.l _ _,.i len,.i i],_)=>(len-i).toNat
 |_=>0
theorem abc:∀ s r,PU s=true->(jL s).run=some r->r.1≠.normal/\(Db Try.prog R68 60 33 (Dg Try.f33 14) [4,7,8,9,10,57,58,59] [4,7,8,9] (G9.put s).1 (G9.put s).2=some r \/
   ∃ s',Db Try.prog R68 60 33 (Dg Try.f33 14) [4,7,8,9,10,57,58,59] [4,7,8,9] (G9.put s).1 (G9.put s).2=some (.normal,G9.put s')/\PU s'=true/\b8 s'<b8 s/\(jL s').run=some r):=by
 intro t r hp hr;unfold PU at hp;split at hp
 ·rename_i f us n k f2 us2 len i p0 p1 p2 Dq s0 s1 s2 D0 D nl es x y z rf rp rc;simp only[Aa,Ab,Am]at hp;obtain⟨⟨⟨⟨⟨⟨⟨⟨⟨⟨⟨⟨rfl,h2⟩,rfl⟩,h4⟩,h5⟩,h6⟩,h7⟩,h8⟩,h9⟩,h10⟩,rfl⟩,h14⟩,h15⟩:=hp;have hr':=(Ah hr).symm;refine⟨by rw[hr'];simp,?_⟩;rw[show G9.put ([.l f us,.n es.length,.n k,.l f2 us2,.i (us2.length:Int),.i i],[.i p0,.i p1,.i p2,.m Dq,.i s0,.i s1,.i s2,.m D0,.m D,.l false es,.i x,.i y,.i z,.l rf rp,.i rc]) =
   G9.put (PT f us es.length k f2 us2 us2.length i p0 p1 p2 Dq s0 s1 s2 D0 D false es x y z rf rp rc) from rfl,abb]
  by_cases hi:i<(us2.length:Int)
  ·have hu:=Ao.1 h8 _ (Jd h4 hi);have hu0:¬(wL (us2.getD i.toNat .any)).length=0/\(wL (us2.getD i.toNat .any)).length<=1000:=by
    have:HI (us2.getD i.toNat .any)=true:=hu;simp only[HI,Aa,Am,AR,Ab]at this;exact this
   rw[Ds h4 hi]at hr';generalize us2.getD i.toNat .any=e at *;have hp18:PS (JL f us es.length k f2 us2 us2.length i 2 2 2 0 p0 p1 p2 Dq s0 s1 s2 D0 D false es x y z rf rp rc (wI e) false (wL e) (Mw e) (cS e 3) (cS e 4) (Jv e) (cI e 6) (cI e 7) (gX (eF e)) (gY (eF e)) (gL (eF e)) (gX (eL e)) (gY (eL e)) (gL (eL e)) false (Te e))=true:=by
    simp only[PS,Aa,Ab,Am,As,AB];exact⟨⟨⟨⟨⟨⟨⟨⟨⟨⟨⟨⟨⟨⟨trivial,h2⟩,trivial⟩,trivial⟩,by decide⟩,by decide⟩,by decide⟩,by decide⟩,by omega⟩,hu0.2⟩,h9⟩,h10⟩,trivial⟩,h14⟩,h15⟩
   rw[Ac hi,DW h4 hi,Ll hu0.1 (by omega),hp18,Dx (n:=i+1) (by omega) (by omega),show(0:Int).toNat=0 from rfl,AF];obtain⟨g1,g2,g3⟩:=JF (x:=x) (y:=y) (z:=z) (D:=D) (ps:=rp) (rc:=rc) (s:=(es,k)) (e:=e) h2;simp only at g1 g2 g3;refine .inr ⟨PT f us (IQ x y z D rp rc (es,k) e).1.length (IQ x y z D rp rc (es,k) e).2 f2 us2 us2.length (i+1) p0 p1 p2 Dq s0 s1 s2 D0 D false (IQ x y z D rp rc (es,k) e).1 x y z rf rp rc,rfl,?_,?_,?_⟩
   ·simp only[PU,Aa,Ab,Am];exact⟨⟨⟨⟨⟨⟨⟨⟨⟨⟨⟨⟨trivial,g1⟩,trivial⟩,by omega⟩,by omega⟩,h6⟩,by omega⟩,h8⟩,h9⟩,h10⟩,trivial⟩,h14⟩,h15⟩
   ·simp only[b8];omega
   ·rw[hr'];rfl
  ·rw[Ai hi];rw[AC (by omega)]at hr';exact .inl (by rw[hr'];rfl)
 ·cases hp
def rq:CY:=R68.Dl 33 14 [4,7,8,9,10,57,58,59] [false,false,false,false,false,false,true,false] G9 PU jL
theorem ru:CG Try.prog rq.env:=
 aba.Dl (n:=60) Try.func33 (show Try.f33.body=some (DY Try.f33) by kernel_rfl) (show(loops (DY Try.f33)).filter (fun b=>Ew b==14)=[Dg Try.f33 14] by kernel_rfl) [4,7,8,9,10,57,58,59] [4,7,8,9] [false,false,false,false,false,false,true,false] G9 b8 abc
def Qd:S1:=⟨116,[(4,.ptr 2 1 0 0),(7,.C9 49),(8,.mp 4),(9,.sl 5)],
 [.one 30 3 aS,.map 30 3,.one 30 3 aS,.map 30 4,.map 30 78,.many 78 5]⟩
abbrev en(f:Bool)(us:List PV)(n k:Nat)(p0 p1 p2:Int)(Dq:List (PV×PV))(s0 s1 s2:Int)(D0 D:List (PV×PV))(nl:Bool)(es:List PV):LS:=
 ([.l f us,.n n,.n k],[.i p0,.i p1,.i p2,.m Dq,.i s0,.i s1,.i s2,.m D0,.m D,.l nl es])
abbrev xU(p0 p1 p2:Int)(Dq:List (PV×PV))(s0 s1 s2:Int)(D0 D:List (PV×PV)):PX×List PV×List Row:=
 (.ret,tm 116 [(6,.mp 4)],(Qd.put (en false [] 0 0 p0 p1 p2 Dq s0 s1 s2 D0 D true [])).2.take 5++[Dt])
theorem q6C(f:Bool)(us:List PV)(n k:Nat)(p0 p1 p2:Int)(Dq:List (PV×PV))(s0 s1 s2:Int)(D0 D:List (PV×PV))(es:List PV):
 Db Try.prog rq 60 33 (Dg Try.f33 6) [4,7,8,9] [6] (Qd.put (en f us n k p0 p1 p2 Dq s0 s1 s2 D0 D false es)).1 (Qd.put (en f us n k p0 p1 p2 Dq s0 s1 s2 D0 D false es)).2 =
 HM es n (bif decide (n=es.length)&&decide (k<=es.length)&&decide (k<=1000000)&&(es.take k).all Kg then
  bif !decide ((k:Int) > 0) then some (xU p0 p1 p2 Dq s0 s1 s2 D0 D) else
  HM es n (bif decide (n=es.length)&&decide (k<=es.length)&&decide (es.length<=1000000)&&E1 Uk es then
   bif EE D (DV (gX (Dj es k)) (gY (Dj es k)) (gL (Dj es k))) then some (.normal,Qd.put (en f us n (MU es k).length p0 p1 p2 Dq s0 s1 s2 D0 D false (NZ es k))) else
   bif PU (PT f us n (MU es k).length f us us.length 0 p0 p1 p2 Dq s0 s1 s2 D0 (EU D (DV (gX (Dj es k)) (gY (Dj es k)) (gL (Dj es k))) (HG (Dj es k))) false (NZ es k) (gX (Dj es k)) (gY (Dj es k)) (gL (Dj es k)) false (rP (Dj es k)) (rC (Dj es k))) then
    some (.normal,Qd.put (en f us (OR us D es k).1.length (OR us D es k).2 p0 p1 p2 Dq s0 s1 s2 D0 (EU D (DV (gX (Dj es k)) (gY (Dj es k)) (gL (Dj es k))) (HG (Dj es k))) false (OR us D es k).1)) else none
  else none) else none):=by kernel_rfl
def b9:S1:=⟨116,[(4,.ptr 2 1 0 0),(7,.C9 49),(8,.mp 4),(9,.sl 5)],
 [.one 30 3 aS,.map 30 3,.one 30 3 aS,.map 30 4,.map 30 78,.GJ 78 5 (.agg [Dk,Dk,Dk,.nil,Dk])]⟩
abbrev oh(f:Bool)(us:List PV)(n k:Nat)(p0 p1 p2:Int)(Dq:List (PV×PV))(s0 s1 s2:Int)(D0 D:List (PV×PV))(x y z c:Int):LS:=
 ([.l f us,.n n,.n k],[.i p0,.i p1,.i p2,.m Dq,.i s0,.i s1,.i s2,.m D0,.m D,.i x,.i y,.i z,.i c])
theorem agm(f:Bool)(us:List PV)(p0 p1 p2:Int)(Dq:List (PV×PV))(s0 s1 s2:Int)(D0:List (PV×PV))(x y z c:Int):
 Db Try.prog rq 60 33 (Dg Try.f33 6) [4,7,8,9] [6] (b9.put (oh f us 1 1 p0 p1 p2 Dq s0 s1 s2 D0 [] x y z c)).1 (b9.put (oh f us 1 1 p0 p1 p2 Dq s0 s1 s2 D0 [] x y z c)).2 =
 bif dB (x=x/\y=y/\z=z/\c=c) then
  bif PR (PQ f us 1 0 f us us.length 0 p0 p1 p2 Dq s0 s1 s2 D0 [(DV x y z,DK x y z c)] false [Jg] x y z c) then
   some (.normal,Qd.put (en f us (DQ x y z [(DV x y z,DK x y z c)] [] c ([Jg],0) (us.drop (0:Int).toNat)).1.length (DQ x y z [(DV x y z,DK x y z c)] [] c ([Jg],0) (us.drop (0:Int).toNat)).2 p0 p1 p2 Dq s0 s1 s2 D0 [(DV x y z,DK x y z c)] false (DQ x y z [(DV x y z,DK x y z c)] [] c ([Jg],0) (us.drop (0:Int).toNat)).1)) else none
 else none:=by kernel_rfl
def N3(s:Bool×LS):List PV×List Row:=match s.1 with |true=>Qd.put s.2 |false=>b9.put s.2
def jM(S:List PV)(H:List Row):Option (Bool×LS):=
 match Qd.get S H with
 |some s=>some (true,s)
 |none=>match b9.get S H with |some s=>some (false,s) |none=>none
theorem eo(S:List PV)(H:List Row)(s:Bool×LS)(h:jM S H=some s):S=(N3 s).1/\H=(N3 s).2:=by
 unfold jM at h;split at h
 ·rename_i q hq;cases h;exact S1.FG _ _ _ hq
 ·split at h
  ·rename_i q hq;cases h;exact S1.FG _ _ _ hq
  ·cases h
def Mz:Bool×LS->Bool
 |(true,([.l _ us,.n n,.n k],[.i _,.i _,.i _,.m _,.i s0,.i s1,.i s2,.m _,.m D,.l nl es]))=>decide (n=es.length) && !nl&&dB (P6 us (s0,s1,s2) D es k)
 |(false,([.l _ us,.n n,.n k],[.i _,.i _,.i _,.m _,.i s0,.i s1,.i s2,.m _,.m D,.i x,.i y,.i z,.i c]))=>dB (n=1/\k=1/\D=[]/\x=s0/\y=s1/\z=s2/\c=0)&&us.all HI&&decide (us.length<=100)
 |_=>false
def jN:Bool×LS->DT (PX×List PV×List Row)
 |(true,([.l _ us,.n _,.n k],[.i p0,.i p1,.i p2,.m Dq,.i s0,.i s1,.i s2,.m D0,.m D,.l _ es]))=>.leaf (xU p0 p1 p2 Dq s0 s1 s2 D0 (KF us (s0,s1,s2) D es k))
 |(false,([.l _ us,.n _,.n _],[.i p0,.i p1,.i p2,.m Dq,.i s0,.i s1,.i s2,.m D0,.m _,.i _,.i _,.i _,.i _]))=>.leaf (xU p0 p1 p2 Dq s0 s1 s2 D0 (Mc us (s0,s1,s2)))
 |_=>.no
def jO:Bool×LS->Nat
 |(true,([.l _ us,.n _,.n k],[.i _,.i _,.i _,.m _,.i s0,.i s1,.i s2,.m _,.m D,.l _ es]))=>Un us (s0,s1,s2) D es k
 |(false,([.l _ us,.n _,.n _],[.i _,.i _,.i _,.m _,.i s0,.i s1,.i s2,.m _,.m _,.i _,.i _,.i _,.i _]))=>muA us (s0,s1,s2)
 |_=>0
theorem abd:∀ s r,Mz s=true->(jN s).run=some r->r.1≠.normal/\(Db Try.prog rq 60 33 (Dg Try.f33 6) [4,7,8,9] [6] (N3 s).1 (N3 s).2=some r \/
  ∃ s',Db Try.prog rq 60 33 (Dg Try.f33 6) [4,7,8,9] [6] (N3 s).1 (N3 s).2=some (.normal,N3 s')/\Mz s'=true/\jO s'<jO s/\(jN s').run=some r):=by
 intro t r hp hr;unfold Mz at hp;split at hp
 ·rename_i f us n k p0 p1 p2 Dq s0 s1 s2 D0 D nl es;simp only[Aa,Ab,Am,Dy]at hp;obtain⟨⟨rfl,rfl⟩,h⟩:=hp;have hr':=(Ah hr).symm;refine⟨by rw[hr'];simp,?_⟩;show(Db Try.prog rq 60 33 (Dg Try.f33 6) [4,7,8,9] [6] (Qd.put (en f us es.length k p0 p1 p2 Dq s0 s1 s2 D0 D false es)).1 (Qd.put (en f us es.length k p0 p1 p2 Dq s0 s1 s2 D0 D false es)).2=some r \/
   ∃ s',Db Try.prog rq 60 33 (Dg Try.f33 6) [4,7,8,9] [6] (Qd.put (en f us es.length k p0 p1 p2 Dq s0 s1 s2 D0 D false es)).1 (Qd.put (en f us es.length k p0 p1 p2 Dq s0 s1 s2 D0 D false es)).2=some (.normal,N3 s')/\_/\_/\_)
  obtain⟨c1,c2⟩:=h.vA;have hk:=h.hk;have hsh:(es.take k).all Kg=true:=by
   rw[Ao];intro e he;have hb:=h.dij.bN (Ki e) (Br he);unfold Kg;rw[Ab];have:(Dn (rP e)).length=(rP e).length:=EP _;simp only[Ki,AP]at hb;omega
  rw[q6C,DJ rfl,DJ rfl,Ac (show es.length=es.length from rfl),Ac hk,Ac (show k<=1000000 by omega),hsh,Ac (show es.length<=1000000 by omega),Ea.2 h.norm];simp only[Bg,Aj];by_cases h0:0<k
  ·rw[Ac (show(k:Int) > 0 by omega),BX,Ar];have hlen:(NZ es k).length=es.length:=IC hk;cases hm:EE D (DV (gX (Dj es k)) (gY (Dj es k)) (gL (Dj es k))) with
   |true=>
    obtain⟨g1,g2,g3⟩:=h.known h0 hm;refine .inr ⟨(true,en f us es.length (MU es k).length p0 p1 p2 Dq s0 s1 s2 D0 D false (NZ es k)),rfl,?_,g2,?_⟩
    ·simp only[Mz,Aa,Ab,Am,Dy];exact⟨⟨hlen.symm,trivial⟩,g1⟩
    ·rw[hr'];show some (xU _ _ _ _ _ _ _ _ (KF us (s0,s1,s2) D (NZ es k) (MU es k).length))=_;rw[g3]
   |false=>
    obtain⟨g1,g2,g3,v1,v2,v3,v4⟩:=h.take' h0 hm;have hle:(MU es k).length<=(NZ es k).length:=by
     rw[hlen];have:=ED (d:=IM (gX (Dj es k)) (gY (Dj es k)) (gL (Dj es k))) (es.take k);rw[Az]at this;show(Df _ (es.take k)).length<=_
     omega
    have hp14:PU (PT f us es.length (MU es k).length f us us.length 0 p0 p1 p2 Dq s0 s1 s2 D0 (EU D (DV (gX (Dj es k)) (gY (Dj es k)) (gL (Dj es k))) (HG (Dj es k))) false (NZ es k) (gX (Dj es k)) (gY (Dj es k)) (gL (Dj es k)) false (rP (Dj es k)) (rC (Dj es k)))=true:=by
     simp only[PU,Aa,Ab,Am];exact⟨⟨⟨⟨⟨⟨⟨⟨⟨⟨⟨⟨hlen.symm,hle⟩,trivial⟩,by omega⟩,by omega⟩,h.Tp⟩,by rw[hlen];omega⟩,h.use⟩,v1⟩,v2⟩,trivial⟩,v3⟩,v4⟩
    rw[Ar,hp14,Aj];refine .inr ⟨(true,en f us (OR us D es k).1.length (OR us D es k).2 p0 p1 p2 Dq s0 s1 s2 D0 (EU D (DV (gX (Dj es k)) (gY (Dj es k)) (gL (Dj es k))) (HG (Dj es k))) false (OR us D es k).1),rfl,?_,g2,?_⟩
    ·simp only[Mz,Aa,Ab,Am,Dy];exact⟨⟨trivial,trivial⟩,g1⟩
    ·rw[hr'];show some (xU _ _ _ _ _ _ _ _ (KF us (s0,s1,s2) _ (OR us D es k).1 (OR us D es k).2))=_;rw[g3]
  ·have hk0:k=0:=by omega
   subst hk0;rw[Ai (show ¬((0:Nat):Int) > 0 by omega),BS,Aj];refine .inl ?_;rw[hr',h.nil]
 ·rename_i f us n k p0 p1 p2 Dq s0 s1 s2 D0 D x y z c;simp only[Aa,Ab,Dy]at hp;obtain⟨⟨⟨rfl,rfl,rfl,rfl,rfl,rfl,rfl⟩,hu⟩,hf⟩:=hp;have hr':=(Ah hr).symm;refine⟨by rw[hr'];simp,?_⟩;obtain⟨g1,g2,g3⟩:=P6.first (x:=x) (y:=y) (z:=z) hu hf
  have hq:=agm f us p0 p1 p2 Dq x y z D0 x y z 0;have hp14:PR (PQ f us 1 0 f us us.length 0 p0 p1 p2 Dq x y z D0 [(DV x y z,DK x y z 0)] false [Jg] x y z 0)=true:=by
   simp only[PR,Aa,Ab,Am,As,AB];exact⟨⟨⟨⟨⟨⟨⟨⟨⟨⟨by first |exact True.intro |omega,by first |exact True.intro |omega⟩,trivial⟩,by first |exact True.intro |omega⟩,by first |exact True.intro |omega⟩,hf⟩,by first |exact True.intro |omega⟩,hu⟩,by first |exact True.intro |omega⟩,by first |exact True.intro |omega⟩,trivial⟩
  rw[Dy.2 (⟨rfl,rfl,rfl,rfl⟩:x=x/\y=y/\z=z/\(0:Int)=0),hp14,Aj,Aj,show(0:Int).toNat=0 from rfl,AF]at hq;refine .inr ⟨(true,en f us (DQ x y z [(DV x y z,DK x y z 0)] [] 0 ([Jg],0) us).1.length (DQ x y z [(DV x y z,DK x y z 0)] [] 0 ([Jg],0) us).2 p0 p1 p2 Dq x y z D0 [(DV x y z,DK x y z 0)] false (DQ x y z [(DV x y z,DK x y z 0)] [] 0 ([Jg],0) us).1),hq,?_,g2,?_⟩
  ·simp only[Mz,Aa,Ab,Am,Dy];exact⟨⟨trivial,trivial⟩,g1⟩
  ·rw[hr'];show some (xU _ _ _ _ _ _ _ _ (KF us (x,y,z) _ _ _))=_;rw[g3,<- N1]
 ·cases hp
def R70:CY:=rq.Lh 33 6 [4,7,8,9] (J2 [] jM Mz jN)
theorem abf:CG Try.prog R70.env:=
 ru.Lh Try.func33 (show Try.f33.body=some (DY Try.f33) by kernel_rfl) (show(loops (DY Try.f33)).filter (fun b=>Ew b==6)=[Dg Try.f33 6] by kernel_rfl)
  fun hs ro S H d x S' H'=>aT (n:=60) ru [4,7,8,9] [6] N3 eo jO abd hs ro S H d x S' H'
def OX:S1:=⟨27,[(3,.mp 3),(10,.C9 49),(11,Dk),(12,Dk)],[.one 30 3 aS,.map 30 3,.one 30 3 aS,.map 30 4]⟩
abbrev ry(f:Bool)(es:List PV)(len i:Int)(p0 p1 p2:Int)(Dq:List (PV×PV))(s0 s1 s2:Int)(D:List (PV×PV)):LS:=([.l f es,.i len,.i i],[.i p0,.i p1,.i p2,.m Dq,.i s0,.i s1,.i s2,.m D])
abbrev xSC(p0 p1 p2:Int)(Dq:List (PV×PV))(s0 s1 s2:Int)(D:List (PV×PV)):PX×List PV×List Row:=(.exit 0,tm 27 [(3,.mp 3)],(OX.put (ry false [] 0 0 p0 p1 p2 Dq s0 s1 s2 D)).2)
theorem qSC(f:Bool)(es:List PV)(len i:Int)(p0 p1 p2:Int)(Dq:List (PV×PV))(s0 s1 s2:Int)(D:List (PV×PV)):Db Try.prog R70 60 37 (Dg Try.f37 3) [3,10,11,12] [3] (OX.put (ry f es len i p0 p1 p2 Dq s0 s1 s2 D)).1 (OX.put (ry f es len i p0 p1 p2 Dq s0 s1 s2 D)).2 =
 bif decide (i<len) then bif decide (0<=i)&&decide (i<(es.length:Int)) then bif P8 (wL (es.getD i.toNat .any)) then
  some (.normal,OX.put (ry f es len (W (i+1)) p0 p1 p2 Dq s0 s1 s2 (D6 D (es.getD i.toNat .any)))) else none else none else some (xSC p0 p1 p2 Dq s0 s1 s2 D):=by kernel_rfl
def rz:LS->Bool
 |([.l _ es,.i len,.i i],[.i _,.i _,.i _,.m _,.i _,.i _,.i _,.m _])=>decide (len=(es.length:Int))&&decide (0<=i)&&decide (i<=len)&&decide (es.length<=1000)&&(es.drop i.toNat).all fun e=>P8 (wL e)
 |_=>false
def fSC:LS->DT (PX×List PV×List Row)
 |([.l _ es,.i _,.i i],[.i p0,.i p1,.i p2,.m Dq,.i s0,.i s1,.i s2,.m D])=>.leaf (xSC p0 p1 p2 Dq s0 s1 s2 (G3 (es.drop i.toNat) D))
 |_=>.no
def mSC:LS->Nat
 |([.l _ _,.i len,.i i],_)=>(len-i).toNat
 |_=>0
theorem sSC:∀ s r,rz s=true->(fSC s).run=some r->r.1≠.normal/\(Db Try.prog R70 60 37 (Dg Try.f37 3) [3,10,11,12] [3] (OX.put s).1 (OX.put s).2=some r \/
   ∃ s',Db Try.prog R70 60 37 (Dg Try.f37 3) [3,10,11,12] [3] (OX.put s).1 (OX.put s).2=some (.normal,OX.put s')/\rz s'=true/\mSC s'<mSC s/\(fSC s').run=some r):=by
 intro t r hp hr;unfold rz at hp;split at hp
 ·rename_i f es len i p0 p1 p2 Dq s0 s1 s2 D;simp only[Aa,Ab]at hp;obtain⟨⟨⟨⟨rfl,h2⟩,h3⟩,h4⟩,h5⟩:=hp;have hr':=(Ah hr).symm;refine⟨by rw[hr'];simp,?_⟩;rw[show OX.put ([.l f es,.i (es.length:Int),.i i],[.i p0,.i p1,.i p2,.m Dq,.i s0,.i s1,.i s2,.m D])=OX.put (ry f es (es.length:Int) i p0 p1 p2 Dq s0 s1 s2 D) from rfl,qSC];by_cases hi:i<(es.length:Int)
  ·rw[Ds h2 hi,Cc,Aa]at h5;rw[Ac hi,Ac h2,h5.1,Dx (by omega) (by omega)];refine .inr ⟨ry f es es.length (i+1) p0 p1 p2 Dq s0 s1 s2 (D6 D (es.getD i.toNat .any)),rfl,by simp only[rz,Aa,Ab];exact⟨⟨⟨⟨trivial,by omega⟩,by omega⟩,h4⟩,h5.2⟩,by simp only[mSC];omega,?_⟩;rw[hr',Ds h2 hi];rfl
  ·rw[Ai hi,AC (by omega)] at *;exact .inl (by rw[hr'];rfl)
 ·cases hp
def xV:CY:=R70.Dl 37 3 [3,10,11,12] [false,false,false,false] OX rz fSC
theorem abg:CG Try.prog xV.env:=
 abf.Dl (n:=60) Try.func37 (show Try.f37.body=some (DY Try.f37) by kernel_rfl) (show(loops (DY Try.f37)).filter (fun b=>Ew b==3)=[Dg Try.f37 3] by kernel_rfl) [3,10,11,12] [3] [false,false,false,false] OX mSC sSC
theorem abh:(HW (Dg Try.f16 3)).isSome=true:=by kernel_rfl
def om:ML:=(HW (Dg Try.f16 3)).get abh
theorem vO:HW (Dg Try.f16 3)=some om:=(Option.some_get abh).symm
theorem oo:om.out=0:=by kernel_rfl
theorem vP:om.it=15:=by kernel_rfl
theorem jS:om.d1=16:=by kernel_rfl
theorem rA:om.q=17:=by kernel_rfl
abbrev sC:List PV:=tm 26 [(7,.mp 1),(15,.mp 6)]
abbrev hC(p0 p1 p2 s0 s1 s2:Int)(D0 D Dq:List (PV×PV))(s:lQ):List Row:=[GM p0 p1 p2,DB k0 30 3 Dq,GM s0 s1 s2,DB k0 30 4 D0,DB k0 30 78 D,Dt,Dz (.mp 4) s]
theorem qC1(p0 p1 p2 s0 s1 s2:Int)(D0 D Dq:List (PV×PV))(bm s:Nat)(seen:Array Nat)(ck:Nat)(x y z a b d:Int)(ps:List PV)(c:Int):
  Xd Try.prog xV 60 16 om [7,15] sC (hC p0 p1 p2 s0 s1 s2 D0 D Dq (.at bm s seen ck)) (DV x y z) (Hv a b d false ps c) =
 some (sC,hC p0 p1 p2 s0 s1 s2 D0 D (EU Dq (DV x y z) (iv c)) (.at bm s seen ck)):=by kernel_rfl
theorem qC2(p0 p1 p2 s0 s1 s2:Int)(D0 D Dq:List (PV×PV))(bm s:Nat)(seen:Array Nat)(ck:Nat)(x y z a b d:Int)(c:Int):
  Xd Try.prog xV 60 16 om [7,15] sC (hC p0 p1 p2 s0 s1 s2 D0 D Dq (.at bm s seen ck)) (DV x y z) (DK a b d c) =
 some (sC,hC p0 p1 p2 s0 s1 s2 D0 D (EU Dq (DV x y z) (iv c)) (.at bm s seen ck)):=by kernel_rfl
def M0(u:PV×PV):PV×PV:=(u.1,iv (rC u.2))
abbrev Kl(r:Rc):PV×PV:=(Hz r.1,iv r.2.1)
theorem Vq(r:Rc):M0 (FZ r)=Kl r:=by
 unfold M0 FZ;rw[jC]
def ZM(D:List (PV×PV)):Prop:=(D.map ER).map FZ=D/\((D.map ER).map (·.1)).Nodup/\D.length<=5000
abbrev OkC(D:List (PV×PV))(j:Nat)(kv:PV×PV):Prop:=D[j]? = some kv
abbrev abj(p0 p1 p2 s0 s1 s2:Int)(D0 D:List (PV×PV))(vis:List (Nat×(PV×PV))):List PV×List Row:=
 (sC,hC p0 p1 p2 s0 s1 s2 D0 D (vis.map fun x=>M0 x.2) .some)
theorem XQ{k v:PV}:∀{D:List (PV×PV)},EE D k=false->EU D k v=D++[(k,v)]
 | [],_=>rfl
 |(a,w)::D,h=>by
  have h':(JN k a||EE D k)=false:=h;rw[BK]at h';show(bif JN k a then _ else (a,w)::EU D k v)=_
  rw[h'.1,Ar,XQ h'.2];rfl
theorem SQ{t:T3}:∀{L:List Rc},EE (L.map Kl) (Hz t)=decide (t∈L.map (·.1))
 | []=>by simp[EE]
 |x::L=>by
  show(JN (Hz t) (Hz x.1)||EE (L.map Kl) (Hz t))=_
  rw[I5,SQ];by_cases h:t=x.1
  ·rw[Ac h,Ac (show t∈(x::L).map (·.1) by rw[h];simp)];rfl
  ·rw[Ai h,Bt,B2];simp only[AV,AK,h,Dw]
theorem ago{p0 p1 p2 s0 s1 s2:Int}{D0 D:List (PV×PV)}(hD:ZM D):
  T4 Try.prog xV 60 16 om [7,15] 6 4 D.length (OkC D) (abj p0 p1 p2 s0 s1 s2 D0 D) where
 ne:=by decide
 hd:=fun vis=>by rw[jS,rA];exact⟨show 16<26 by decide,show 17<26 by decide⟩
 hS:=fun vis=>by rw[vP];rfl
 hi:=fun vis=>rfl
 hm:=fun vis=>⟨_,_,rfl,rfl,rfl⟩
 H9:=fun vis C bm s hH hR hρ=>by
  have hrow:C.H[4]? = some (DB k0 30 78 D):=by rw[hH];rfl
  obtain⟨es,ck,h1,h2,h3,h4⟩:=((hR.Ii 4 bm _ ⟨k0,.map 30 78 D⟩ hρ hrow rfl rfl).map 30 78 D rfl).mem;refine⟨es,by rw[h1,h3],h2,fun j e he=>?_⟩;have hj:j<D.length:=by rw[<- h2];exact(At.1 he).1
  obtain⟨g1,g2,g3⟩:=h4 j D[j].1 D[j].2 e (by rw[Ae hj]) he;exact⟨g1,D[j],Ae hj,g2,g3⟩
 step:=fun vis j kv bm s seen ck hok hkv hn hj hlt Tm=>by
  obtain⟨hD1,hD2,hD3⟩:=hD
  have hdec:∀ x∈vis,x.2=FZ (ER x.2):=fun x hx=>by
   have h1:=Ag (hok x hx);rw[<- hD1]at h1;obtain⟨r,_,hr⟩:=AX.1 h1;rw[<- hr,SL]
  have hkd:kv=FZ (ER kv):=by
   have h1:=Ag hkv;rw[<- hD1]at h1;obtain⟨r,_,hr⟩:=AX.1 h1;rw[<- hr,SL]
  have hvm:(vis.map fun x=>M0 x.2)=(vis.map fun x=>ER x.2).map Kl:=by
   rw[Cq];apply Bm
   intro x hx;show M0 x.2=Kl (ER x.2)
   rw[<- Vq,<- hdec x hx]
  have hnew:(ER kv).1∉((vis.map fun x=>ER x.2).map (·.1)):=fun hh=>by
   rw[Cq]at hh;obtain⟨x,hx,hxe⟩:=AX.1 hh;have hxe':(ER x.2).1=(ER kv).1:=hxe;have e1:((D.map ER).map (·.1))[x.1]? = some (ER x.2).1:=by rw[An,An,hok x hx];rfl
   have e2:((D.map ER).map (·.1))[j]? = some (ER kv).1:=by rw[An,An,hkv];rfl
   rw[hxe',<- e2]at e1;have hx1:x.1<((D.map ER).map (·.1)).length:=by rw[AP,AP];exact hlt x hx
   have:=(C6 hx1 hD2).1 e1;exact hj (by rw[<- this];exact Br hx)
  have hput:EU (vis.map fun x=>M0 x.2) (Hz (ER kv).1) (iv (ER kv).2.1)=(vis++[(j,kv)]).map fun x=>M0 x.2:=by
   rw[hvm,XQ (by rw[SQ,Ai hnew]),<- hvm,Bz];show _++[Kl (ER kv)]=_++[M0 kv]
   rw[<- Vq,<- hkd]
  show Xd Try.prog xV 60 16 om [7,15] sC (hC p0 p1 p2 s0 s1 s2 D0 D (vis.map fun x=>M0 x.2) (.at bm s seen ck)) kv.1 kv.2 =
   some (sC,hC p0 p1 p2 s0 s1 s2 D0 D ((vis++[(j,kv)]).map fun x=>M0 x.2) (.at bm s seen ck))
  rw[<- hput];generalize ER kv=r at hkd;subst hkd;show Xd _ _ _ _ _ _ _ _ (Hz r.1) (Qc r)=_
  unfold Qc;split
  ·exact qC2 ..
  ·exact qC1 ..
def shC:S1:=⟨26,[(7,.mp 1),(15,.mp 6)],[.one 30 3 aS,.map 30 3,.one 30 3 aS,.map 30 4,.map 30 78,.dead,.aq 4]⟩
def pC:LS->Bool
 |([],[.i _,.i _,.i _,.m Dq,.i _,.i _,.i _,.m _,.m D,.n N])=>Dq.isEmpty&&decide (N=D.length)&&dB (ZM D)
 |_=>false
abbrev xC(p0 p1 p2 s0 s1 s2:Int)(D0 D:List (PV×PV)):PX×List PV×List Row:=
 (.exit 0,tm 26 [(7,.mp 1)],[GM p0 p1 p2,IS 30 3 (D.map M0),GM s0 s1 s2,DB k0 30 4 D0,DB k0 30 78 D,Dt,Dz (.mp 4) .some])
def fC:LS->DT (PX×List PV×List Row)
 |([],[.i p0,.i p1,.i p2,.m _,.i s0,.i s1,.i s2,.m D0,.m D,.n _])=>.leaf (xC p0 p1 p2 s0 s1 s2 D0 D)
 |_=>.no
theorem et{s t:T3}(h:s≠t):(Hz s).cells≠(Hz t).cells:=fun e=>by
 have:JN (Hz s) (Hz t)=JN (Hz t) (Hz t):=by unfold JN;rw[e]
 rw[I5,I5,Ac rfl,Ab]at this;exact h this
theorem jT:∀{L:List Rc},(L.map (·.1)).Nodup->(L.map Kl).Pairwise fun x y=>x.1.cells≠y.1.cells
 | [],_=>.nil
 |r::L,h=>by
  rw[AV,Ca]at h;rw[AV,List.pairwise_cons];refine⟨fun y hy=>?_,jT h.2⟩;obtain⟨q,hq,rfl⟩:=AX.1 hy;exact et fun e=>h.1 (by rw[e];exact Br hq)
theorem ZM.M0{D:List (PV×PV)}(h:ZM D):D.map M0=(D.map ER).map Kl:=by
 conv=>lhs;rw[<- h.1]
 rw[Cq];exact Bm fun r _=>Vq r
theorem jU{D:List (PV×PV)}{vis:List (Nat×(PV×PV))}(hok:∀ x∈vis,OkC D x.1 x.2)(hp:(vis.map (·.1)).Perm (List.range D.length)):(vis.map fun x=>M0 x.2).Perm (D.map M0):=by
 have h1:(vis.map fun x=>M0 x.2)=(vis.map (·.1)).map fun j=>M0 (D.getD j (.any,.any)):=by
  rw[Cq];apply Bm
  intro x hx;show M0 x.2=M0 (D.getD x.1 (.any,.any))
  rw[Av,hok x hx];rfl
 rw[h1];refine(hp.map _).trans ?_;have h2:(List.range D.length).map (fun j=>M0 (D.getD j (.any,.any)))=D.map M0:=by
  apply Bf
  intro i;rw[An,An];by_cases hi:i<D.length
  ·rw[Be hi,Ae hi];simp[List.getD_eq_getElem?_getD,List.getElem?_eq_getElem hi]
  ·rw[AG (by simpa using hi),AG (by omega)];rfl
 rw[h2]
theorem wkC{p0 p1 p2 s0 s1 s2:Int}{D0 D:List (PV×PV)}{vis:List (Nat×(PV×PV))}(hD:ZM D)(hok:∀ x∈vis,OkC D x.1 x.2)(hp:(vis.map (·.1)).Perm (List.range D.length)):
  Wk Try.prog sC (hC p0 p1 p2 s0 s1 s2 D0 D (vis.map fun x=>M0 x.2) .some) (xC p0 p1 p2 s0 s1 s2 D0 D).2.1 (xC p0 p1 p2 s0 s1 s2 D0 D).2.2:=by
 have hpw:(D.map M0).Pairwise fun x y=>x.1.cells≠y.1.cells:=by rw[hD.M0];exact jT hD.2.1
 have h1:=Wk.Gy (P:=Try.prog) (S:=sC) (H:=hC p0 p1 p2 s0 s1 s2 D0 D (vis.map fun x=>M0 x.2) .some) (i:=1) (K:=30) (E:=3) (D:=D.map M0) (D':=vis.map fun x=>M0 x.2) (k:=k0) rfl (jU hok hp) hpw (DB k0 30 3 (vis.map fun x=>M0 x.2)) rfl;refine h1.trans ?_;refine(Wk.KC (some [7])).trans ?_;exact .refl
def R72:CY:=xV.Dl 16 3 [7,15] [false,false,false,false,false,false,false] shC pC fC
theorem abk:CG Try.prog R72.env:=by
 refine abg.pJ (n:=60) Try.func16 (show Try.f16.body=some (DY Try.f16) by kernel_rfl) (show(loops (DY Try.f16)).filter (fun b=>Ew b==3)=[Dg Try.f16 3] by kernel_rfl) vO [7,15] [7] [false,false,false,false,false,false,false] shC fun s r hp hr=>?_
 unfold pC at hp;split at hp
 ·rename_i p0 p1 p2 Dq s0 s1 s2 D0 D N;simp only[Aa,Ab,List.isEmpty_iff,Dy]at hp;obtain⟨⟨rfl,rfl⟩,hD⟩:=hp;have hr':=(Ah hr).symm;subst hr';refine⟨by rw[oo],6,4,D.length,OkC D,abj p0 p1 p2 s0 s1 s2 D0 D,ago hD,rfl,rfl,fun vis hok hpm=>?_⟩;rw[jS,rA];exact wkC hD hok hpm
 ·cases hp
def R73:CY:=R72.SN
theorem jV:CG Try.prog R73.env:=abk.SN
theorem vQ(f:Bool)(ws:List PV)(x y z:Int)(fl:Bool):OA Try.prog R73 60 0 16 [.C9 f 49 ws,DV x y z,bv fl] [] =
 bif decide (ws.length<=1000)&&E1 Ev ws then
 bif rz (ry false (Df (Dc false) ws) ((Df (Dc false) ws).length:Int) 0 x y z [] x y z []) then
 bif GQ [GM x y z,DB k0 30 3 [],GM x y z] [GM x y z,DB k0 30 3 [],GM x y z] then
 bif !Tr (mD ws) x y z then some (.mp 1,[GM x y z,DB k0 30 3 [],GM x y z,DB k0 30 4 (mD ws),Dz .any .nil])
 else
 bif decide (ws.length<=1000)&&E1 Ev ws then
 bif Mz (false,oh false (Df (Dc fl) ws) 1 1 x y z [] x y z (mD ws) [] x y z 0) then
 bif pC ([],[.i x,.i y,.i z,.m [],.i x,.i y,.i z,.m (mD ws),.m (Mc (Df (Dc fl) ws) (x,y,z)),.n (Mc (Df (Dc fl) ws) (x,y,z)).length]) then
  some (.mp 1,(xC x y z x y z (mD ws) (Mc (Df (Dc fl) ws) (x,y,z))).2.2) else none
 else none else none
 else none else none else none:=by kernel_rfl
def Hy(ws:List PV)(fl:Bool)(s:T3):List Rc:=@ite _ (EO ws s) (Classical.propDecidable _) (XE (gU (Df (Dc fl) ws)) (ZL (Df (Dc fl) ws) s) s) []
theorem II{ws:List PV}{fl:Bool}{s:T3}(h:EO ws s):Hy ws fl s=XE (gU (Df (Dc fl) ws)) (ZL (Df (Dc fl) ws) s) s:=Ak h
theorem OY{ws:List PV}{fl:Bool}{s:T3}(h:¬EO ws s):Hy ws fl s=[]:=Aq h
theorem jW{ws:List PV}{fl:Bool}{s:T3}(h:Ho ws):((Hy ws fl s).map (·.1)).Nodup:=by
 by_cases hs:EO ws s
 ·rw[II hs];exact(Hm (Lr s (Hw (fl:=fl) h)) (AJ ..)).nd
 ·rw[OY hs];exact .nil
theorem Ig{ws:List PV}{fl:Bool}{s v:T3}{k:Ky}(h:Ho ws):(v,k)∈Hy ws fl s ↔ FN ws fl s v=some k:=by
 by_cases hs:EO ws s
 ·rw[II hs,JJ hs,EK,<- QO];exact Lp (Lr s (Hw (fl:=fl) h)) (AJ ..)
 ·rw[OY hs,Ie hs];simp
theorem vR{ws:List PV}(h:Ho ws)(x y z:Int):rz (ry false (Df (Dc false) ws) ((Df (Dc false) ws).length:Int) 0 x y z [] x y z [])=true:=by
 have:=ED (d:=Dc false) ws;have:=h.Tp;simp only[rz,Aa,Ab];exact⟨⟨⟨⟨trivial,by omega⟩,by omega⟩,by omega⟩,NW h.Jz⟩
theorem jX{ws:List PV}(fl:Bool)(h:Ho ws)(s:T3):ZM (Mc (Df (Dc fl) ws) s):=by
 have hG:=Lr s (Hw (fl:=fl) h);have hD:=Hm hG (AJ (a:=s) ..);rw[N1];unfold Tq ZM;rw[Kj];refine⟨rfl,hD.nd,?_⟩;have h0:=hD.cap;have h1:=Vm (Df (Dc fl) ws);have:=ED (d:=Dc fl) ws;have:=h.Tp;rw[AP];have h2:(ZL (Df (Dc fl) ws) s).length=1+(gU (Df (Dc fl) ws)).length:=by simp[Nat.add_comm]
 omega
def ZN:List PV->Option (Bool×List (PV×PV))
 | [.C9 _ 49 ws,.agg [.val (.int .i64 x),.val (.int .i64 y),.val (.int .i64 z)],.val (.bool fl)]=>some (dB (Ho ws)&&E1 Ev ws,(Hy ws fl (x,y,z)).map Kl)
 |_=>none
theorem jY{L:List Rc}:∀ x∈L.map Kl,x.2.flat=true:=fun x hx=>by
 obtain⟨r,_,rfl⟩:=AX.1 hx;rfl
theorem SR(f:Bool)(ws:List PV)(x y z:Int)(fl:Bool)(h:Ho ws)(hN:Ed Ev ws):Hx.Dd Try.prog 16/\∀ ro H,Fa Try.prog ro 16 [.C9 f 49 ws,DV x y z,bv fl] H (.mp H.length) (H++[IS 30 3 ((Hy ws fl (x,y,z)).map Kl)]):=by
 have hf:=h.Tp;have hk:=ED (d:=Dc fl) ws;have hq:=vQ f ws x y z fl;rw[Ac (show ws.length<=1000 by omega),Ea.2 hN,vR h,EM]at hq;simp only[Bg,Aj]at hq;by_cases hs:EO ws (x,y,z)
 ·have hp:Mz (false,oh false (Df (Dc fl) ws) 1 1 x y z [] x y z (mD ws) [] x y z 0)=true:=by
   simp only[Mz,Aa,Ab,Dy];exact⟨⟨⟨trivial,trivial,trivial,trivial,trivial,trivial,trivial⟩,Hw h⟩,by omega⟩
  have hD:=jX fl h (x,y,z);have hpc:pC ([],[.i x,.i y,.i z,.m [],.i x,.i y,.i z,.m (mD ws),.m (Mc (Df (Dc fl) ws) (x,y,z)),.n (Mc (Df (Dc fl) ws) (x,y,z)).length])=true:=by
   simp only[pC,List.isEmpty_nil,BY,Aa,Ab,Dy];exact⟨trivial,hD⟩
  rw[JI.2 hs,hp,hpc]at hq;simp only[BX,Ar,Aj]at hq;have he:(Mc (Df (Dc fl) ws) (x,y,z)).map M0=(Hy ws fl (x,y,z)).map Kl:=by
   rw[hD.M0,II hs,N1];unfold Tq;rw[Kj]
  rw[<- he];exact er jV (n:=60) (i:=1) (k:=k0) (by rfl) hq rfl (by rw[he];exact jY)
 ·have hg:Tr (mD ws) x y z=false:=by
   cases hh:Tr (mD ws) x y z with
   |true=>exact absurd (JI.1 hh) hs
   |false=>rfl
  rw[hg]at hq;simp only[BS,Aj]at hq;rw[OY hs];exact jR jV (n:=60) (i:=1) (k:=k0) (by rfl) hq rfl (fun x hx=>by cases hx) .nil
theorem vS(args:List PV)(r:Bool×List (PV×PV))(h:ZN args=some r)(hr:r.1=true):∀ ro H,Fa Try.prog ro 16 args H (.mp H.length) (H++[IS 30 3 r.2]):=by
 unfold ZN at h;split at h
 ·rename_i f ws x y z fl;cases h;simp only[Aa,Dy,Ea]at hr;exact(SR f ws x y z fl hr.1 hr.2).2
 ·cases h
theorem vU:Hx.Dd Try.prog 16:=(SR false [] 0 0 0 false ZK Vp).1
def xW:CY:=(R73.cb 16 30 3 ZN).RZ Try.prog xw
theorem rB:CG Try.prog xW.env:=(jV.cb vU vS).RZ UZ
end Go.Hr
