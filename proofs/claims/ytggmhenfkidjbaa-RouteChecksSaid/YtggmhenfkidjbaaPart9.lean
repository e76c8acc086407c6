import Derived.Test.YtggmhenfkidjbaaPart8
import Derived.Test.YtggmhenfkidjbaaPart5
namespace Go.Hr
open Go.Hx Go.Hg Go.Hn Go.Proofs
def Li(t:T3):Option Ky->PV
 |none=>Xt t.1 t.2.1 t.2.2 true [] 0 false
 |some k=>Xt t.1 t.2.1 t.2.2 k.2.isEmpty (k.2.map iv) k.1 true
def Fv(l:List PV)(f:OF):List PV:=l.map fun e=>Li (DA e) (f (DA e))
theorem Lj:∀ p:List Int,Dj (p.map iv)=p
 | []=>rfl
 |x::p=>by show x::Dj (p.map iv)=_;rw[Lj p]
theorem bu(t:T3)(o:Option Ky):DA (Li t o)=t:=by cases o <;> rfl
theorem iX(t:T3)(o:Option Ky):rS (Li t o)=o.isSome:=by cases o <;> rfl
def ve(e:PV):Option Ky:=bif rS e then some (rC e,Dj (rP e)) else none
theorem nF(t:T3)(o:Option Ky):ve (Li t o)=o:=by
 cases o with
 |none=>rfl
 |some k=>show some (k.1,Dj (k.2.map iv))=some k;rw[Lj]
def fO(es:List PV):OF:=fun v=>match es.find? fun e=>decide (DA e=v) with |some e=>ve e |none=>none
def LZ(l:List PV)(f:OF):Prop:=∀ v k,f v=some k->v∈l.map DA
theorem OO{f:OF}:∀{l:List PV},(l.map DA).Nodup->LZ l f->fO (Fv l f)=f:=by
 have key:∀(l:List PV) (v:T3),fO (Fv l f) v=if v∈l.map DA then f v else none:=by
  intro l v;induction l with
  |nil=>rfl
  |cons e l ih=>
   show(match (Li (DA e) (f (DA e))::Fv l f).find? fun e=>decide (DA e=v) with |some e=>ve e |none=>none)=_
   rw[CQ,bu];by_cases hv:DA e=v
   ·rw[Ac hv];subst hv;rw[Ak (by simp)];exact nF _ _
   ·rw[Ai hv];show fO (Fv l f) v=_
    rw[ih];simp only[AW,AK];by_cases hm:v∈l.map DA
    ·rw[Ak hm,Ak (.inr hm)]
    ·rw[Aq hm,Aq (fun h=>h.elim (fun h=>hv h.symm) hm)]
 intro l _ hs;funext v
 rw[key];by_cases hm:v∈l.map DA
 ·rw[Ak hm]
 ·rw[Aq hm];cases hf:f v with
  |none=>rfl
  |some k=>exact absurd (hs v k hf) hm
theorem Fw{l:List PV}{f:OF}:(Fv l f).length=l.length:=AV ..
theorem Vc{l:List PV}{f:OF}{a:Int}(h0:0<=a)(h:a<(l.length:Int)):aE (Fv l f) a=Li (DA (aE l a)) (f (DA (aE l a))):=by
 show(l.map fun e=>Li (DA e) (f (DA e))).getD a.toNat PV.any=Li (DA (l.getD a.toNat PV.any)) (f (DA (l.getD a.toNat PV.any)))
 rw[Ay,Ay,An,Ae (by omega)];rfl
theorem SM{l:List PV}{f:OF}{a b wi c:Int}(ha:0<=a)(ha2:a<(l.length:Int))(hb:0<=b)(hb2:b<(l.length:Int)):MR (Fv l f) a b wi c=imp f (DA (aE l a),DA (aE l b),wi,c):=by
 unfold MR imp;rw[Vc ha ha2,Vc hb hb2];cases h1:f (DA (aE l a)) with
 |none=>rfl
 |some k=>
  rw[iX];show Zw (k.1+c) (k.2.map iv++[iv wi]) _ _ _=zS (Js k wi c) (f (DA (aE l b)))
  unfold Zw;rw[show Dj (k.2.map iv++[iv wi])=k.2++[wi] by
   rw[show k.2.map iv++[iv wi]=(k.2++[wi]).map iv by simp,Lj]]
  cases h2:f (DA (aE l b)) with
  |none=>rfl
  |some k'=>
   show zS _ (some (k'.1,Dj (k'.2.map iv)))=_
   rw[Lj]
theorem Xx{l:List PV}{f:OF}{a b wi c:Int}(hn:(l.map DA).Nodup)(ha:0<=a)(ha2:a<(l.length:Int))(hb:0<=b)(hb2:b<(l.length:Int)):
  J8 (Fv l f) a b wi c=Fv l (Oi f (DA (aE l a),DA (aE l b),wi,c)):=by
 unfold J8;rw[SM ha ha2 hb hb2];cases hi:imp f (DA (aE l a),DA (aE l b),wi,c) with
 |false=>rw[J6 hi];rfl
 |true=>
  obtain⟨k,h1,h2,h3⟩:=LH hi;rw[Aj,Vc ha ha2,Vc hb hb2];have hk:f (DA (aE l a))=some k:=h1;rw[hk];apply Bf
  intro j;by_cases hj:j=b.toNat
  ·subst hj;rw[Cc (by rw[Fw];omega)];show _=(l.map _)[b.toNat]?
   rw[An,Ae (by omega)];have e0:l[b.toNat]'(by omega)=aE l b:=by
    show _=l.getD b.toNat .any
    rw[Ay,Ae (by omega)];rfl
   rw[AE,e0];have h2':Oi f (DA (aE l a),DA (aE l b),wi,c) (DA (aE l b))=some (Js k wi c):=h2;rw[h2'];have e1:∀ o,gX (Li (DA (aE l b)) o)=(DA (aE l b)).1/\gY (Li (DA (aE l b)) o)=(DA (aE l b)).2.1/\gL (Li (DA (aE l b)) o)=(DA (aE l b)).2.2:=fun o=>by cases o <;> exact⟨rfl,rfl,rfl⟩
   obtain⟨g1,g2,g3⟩:=e1 (f (DA (aE l b)));rw[g1,g2,g3];show some (Xt _ _ _ false (k.2.map iv++[iv wi]) (k.1+c) true)=some (Xt _ _ _ (k.2++[wi]).isEmpty ((k.2++[wi]).map iv) (k.1+c) true)
   rw[show(k.2++[wi]).isEmpty=false by simp,Bx];rfl
  ·rw[B1 (fun e=>hj e.symm)];show(l.map _)[j]? = (l.map _)[j]?
   rw[An,An];cases hl:l[j]? with
   |none=>rfl
   |some e=>
    rw[AE,AE];have hne:DA e≠DA (aE l b):=fun he=>by
     have hjl:j<l.length:=(Ad.1 hl).1;have e1:(l.map DA)[j]? = some (DA (aE l b)):=by rw[An,hl,AE,he]
     have e2:(l.map DA)[b.toNat]? = some (DA (aE l b)):=by
      rw[An,Ae (by omega),AE];congr 2
      show _=l.getD b.toNat .any
      rw[Ay,Ae (by omega)];rfl
     have:=(C6 (by simpa using hjl) hn).1 (e1.trans e2.symm);exact hj this
    rw[SJ (e:=(DA (aE l a),DA (aE l b),wi,c)) hne]
def eE(e:PV):List Eg:=[(DA (eF e),DA (eL e),wI e,Du (wL e)),(DA (eL e),DA (eF e),wI e,Du (wL e))]
def gE(fl:Bool)(ws:List PV):List Eg:=ws.flatMap fun e=>bif Dd fl e then [] else eE e
theorem Xy{x y z:Int}:∀{es:List PV} {i:Int},0<=i->(x,y,z)∈es.map DA->i<=DI x y z i es/\DI x y z i es<i+es.length/\DA (aE es (DI x y z i es-i))=(x,y,z)
 | [],i,h,hm=>by simp at hm
 |e::es,i,h,hm=>by
  rw[DI];cases hq:VO e x y z with
  |true=>
   rw[Aj];refine⟨BK _,by simp only[As];omega,?_⟩;rw[show i-i=0 by omega];exact IY.1 hq
  |false=>
   rw[B4,ne_eq,IY]at hq;rw[AW,AK]at hm;have hm':=hm.resolve_left fun h=>hq h.symm
   obtain⟨h1,h2,h3⟩:=Xy (es:=es) (i:=i+1) (by omega) hm';rw[Ap];refine⟨by omega,by simp only[As];omega,?_⟩;rw[<- h3];show DA ((e::es).getD (DI x y z (i+1) es-i).toNat .any)=DA (es.getD (DI x y z (i+1) es-(i+1)).toNat .any)
   rw[show(DI x y z (i+1) es-i).toNat=(DI x y z (i+1) es-(i+1)).toNat+1 by omega];rfl
theorem bw{l:List PV}{s:PV}(hm:DA s∈l.map DA):0<=DI (gX s) (gY s) (gL s) 0 l/\DI (gX s) (gY s) (gL s) 0 l<(l.length:Int)/\DA (aE l (DI (gX s) (gY s) (gL s) 0 l))=DA s:=by
 obtain⟨h1,h2,h3⟩:=Xy (i:=0) (BK _) hm;exact⟨h1,by omega,by rw[Int.sub_zero]at h3;exact h3⟩
theorem iY{l:List PV}{f:OF}{ag:Bool}{e:PV}(hn:(l.map DA).Nodup)(h1:DA (eF e)∈l.map DA)(h2:DA (eL e)∈l.map DA):
  dV (wI e) (Du (wL e)) 2 ag (Fv l f) (lk l e) (ll l e)=(ag||again (eE e) f,Fv l (HY (eE e) f)):=by
 obtain⟨a1,a2,a3⟩:=bw h1;obtain⟨b1,b2,b3⟩:=bw h2;show((ag||MR (Fv l f) (lk l e) (ll l e) (wI e) (Du (wL e)))||MR (J8 (Fv l f) (lk l e) (ll l e) (wI e) (Du (wL e))) (ll l e) (lk l e) (wI e) (Du (wL e)),
  J8 (J8 (Fv l f) (lk l e) (ll l e) (wI e) (Du (wL e))) (ll l e) (lk l e) (wI e) (Du (wL e)))=_
 rw[Xx hn a1 a2 b1 b2,SM a1 a2 b1 b2,Xx hn b1 b2 a1 a2,SM b1 b2 a1 a2,a3,b3];show _=(ag||(imp f _||(imp (Oi f _) _||false)),_)
 rw[CC,Bool.or_assoc];rfl
theorem bz:∀(A B:List Eg) (f:OF),HY (A++B) f=HY B (HY A f)
 | [],_,_=>rfl
 |a::A,B,f=>bz A B (Oi f a)
theorem Ud:∀(A B:List Eg) (f:OF),again (A++B) f=(again A f||again B (HY A f))
 | [],_,_=>rfl
 |a::A,B,f=>by
  show(imp f a||again (A++B) (Oi f a))=((imp f a||again A (Oi f a))||again B (HY A (Oi f a)))
  rw[Ud,Bool.or_assoc]
def Yb(f:OF)(C:Int)(n:Nat):Prop:=∀ v k,f v=some k->0<=k.1/\k.1<=C/\k.2.length<=n
theorem Yb.mono{f:OF}{C D:Int}{n m:Nat}(h:Yb f C n)(h1:C<=D)(h2:n<=m):Yb f D m:=fun v k hk=>by
 have:=h v k hk;omega
theorem Yb.Oi{f:OF}{e:Eg}{C K:Int}{n:Nat}(h:Yb f C n)(h0:0<=e.2.2.2)(h1:e.2.2.2<=K):Yb (Oi f e) (C+K) (n+1):=fun v k hk=>by
 cases hi:imp f e with
 |false=>rw[J6 hi]at hk;have:=h v k hk;omega
 |true=>
  obtain⟨k1,g1,g2,g3⟩:=LH hi;by_cases hv:v=e.2.1
  ·subst hv;rw[g2]at hk;cases hk;have:=h _ _ g1;simp only[Ar,As,AC];omega
  ·rw[SJ hv]at hk;have:=h v k hk;omega
theorem Yb.HY{K:Int}(hK:0<=K):∀{L:List Eg} {f:OF} {C:Int} {n:Nat},Yb f C n->(∀ e∈L,0<=e.2.2.2/\e.2.2.2<=K)->Yb (HY L f) (C+K*L.length) (n+L.length)
 | [],f,C,n,h,_=>h.mono (by simp) (by simp)
 |e::L,f,C,n,h,hL=>by
  have h1:=h.Oi (hL e (AL ..)).1 (hL e (AL ..)).2;have h2:=Yb.HY hK (L:=L) h1 fun x hx=>hL x (AT _ hx)
  refine h2.mono ?_ (by simp only[As];omega);rw[As,Int.natCast_add,Int.mul_add];omega
theorem vf{l:List PV}{f:OF}{C:Int}{n:Nat}(hC:0<=C)(h:Yb f C n):((Fv l f).all (Xv C n))=true:=by
 rw[Ao];intro e he;obtain⟨x,hx,rfl⟩:=AY.1 he;cases hf:f (DA x) with
 |none=>simp only[Xv,Aa,Ab];exact⟨⟨BK _,hC⟩,AR _⟩
 |some k=>
  have:=h _ _ hf;simp only[Xv,Aa,Ab];refine⟨⟨this.1,this.2.1⟩,?_⟩;show(k.2.map iv).length<=n
  rw[AV];exact this.2.2
theorem LZ.Oi{l:List PV}{f:OF}{e:Eg}(h:LZ l f)(he:e.2.1∈l.map DA):LZ l (Oi f e):=fun v k hk=>by
 by_cases hv:v=e.2.1
 ·rw[hv];exact he
 ·rw[SJ hv]at hk;exact h v k hk
theorem LZ.HY{l:List PV}:∀{L:List Eg} {f:OF},LZ l f->(∀ e∈L,e.2.1∈l.map DA)->LZ l (HY L f)
 | [],_,h,_=>h
 |e::L,_,h,hL=>LZ.HY (L:=L) (h.Oi (hL e (AL ..))) fun x hx=>hL x (AT _ hx)
end Go.Hr
namespace Go.Hr
abbrev Rc:=T3×Ky
def D5:Rc->List Rc->Rc
 |b,[]=>b
 |b,x::N=>D5 (bif decide (T5 x.2 b.2) then x else b) N
theorem G8:∀{N:List Rc} {b:Rc},D5 b N∈b::N/\∀ x∈b::N,PH (D5 b N).2 x.2
 | [],b=>⟨by simp[D5],fun x hx=>by rw[AI.1 hx];exact IE⟩
 |y::N,b=>by
  rw[D5];by_cases h:T5 y.2 b.2
  ·rw[Ac h,Aj];obtain⟨h1,h2⟩:=G8 (N:=N) (b:=y);refine⟨AT _ h1,fun x hx=>?_⟩;rcases AK.1 hx with rfl |hx
   ·exact Fe (h2 y (AL ..)) (iL h)
   ·exact h2 x hx
  ·rw[Ai h,Ap];obtain⟨h1,h2⟩:=G8 (N:=N) (b:=b);refine⟨?_,fun x hx=>?_⟩
   ·rcases AK.1 h1 with h1 |h1
    ·rw[h1];exact AL ..
    ·exact AT _ (AT _ h1)
   ·rcases AK.1 hx with rfl |hx
    ·exact h2 _ (AL ..)
    ·rcases AK.1 hx with rfl |hx
     ·exact Fe (h2 b (AL ..)) h
     ·exact h2 x (AT _ hx)
abbrev Gv(r:T3)(N:List Rc):List Rc:=N.filter fun x=>!decide (x.1=r)
def I8(G:List Eg):Nat->List Rc->List Rc->List Rc
 |0,D,_=>D
 |_+1,D,[]=>D
 |k+1,D,n::N=>bif decide ((D5 n N).1∈D.map (·.1)) then I8 G k D (Gv (D5 n N).1 (n::N)) else I8 G k (D++[D5 n N]) (Gv (D5 n N).1 (n::N)++HL G (D++[D5 n N]) (D5 n N))
structure Ka(G:List Eg)(s:T3)(S:List T3)(K:Int)(D N:List Rc):Prop extends bj G s D N where
 kD:∀ x∈D,x.1∈S
 kN:∀ x∈N,x.1∈S
 bD:∀ x∈D,x.2.2.length+1<=D.length/\x.2.1<=K*D.length
 bN:∀ x∈N,x.2.2.length<=D.length/\x.2.1<=K*D.length
structure iZ(G:List Eg)(S:List T3)(K:Int):Prop where
 k0:0<=K
 nn:∀ e∈G,0<=e.2.2.2/\e.2.2.2<=K
 to:∀ e∈G,e.2.1∈S
theorem iZ.Vd{G:List Eg}{S:List T3}{K:Int}(h:iZ G S K):NonNeg G:=fun e he=>(h.nn e he).1
def mu(G:List Eg)(S:List T3)(D N:List Rc):Nat:=(S.length-D.length)*(G.length+1)+N.length
theorem ja{G:List Eg}{D:List Rc}{r:Rc}:(HL G D r).length<=G.length:=List.length_filterMap_le ..
theorem QU{G:List Eg}{D:List Rc}{r x:Rc}(h:x∈HL G D r):∃ e∈G,e.1=r.1/\x=(e.2.1,Js r.2 e.2.2.1 e.2.2.2):=by
 obtain⟨e,he,hx⟩:=B8.1 h;split at hx
 ·rename_i hc;cases hx;exact⟨e,he,hc.1,rfl⟩
 ·cases hx
theorem Xz{r:Rc}{N:List Rc}(h:r∈N):(Gv r.1 N).length<N.length:=by
 refine Nat.lt_of_le_of_ne (List.length_filter_le ..) fun e=>?_
 have:=List.length_filter_eq_length_iff.1 e r h;simp at this
theorem Ka.cap{G:List Eg}{s:T3}{S:List T3}{K:Int}{D N:List Rc}(h:Ka G s S K D N):D.length<=S.length:=by
 have:=List.Nodup.length_le_of_subset h.nd (l₂:=S) fun x hx=>by
  obtain⟨y,hy,rfl⟩:=AY.1 hx;exact h.kD y hy
 simpa using this
theorem Ka.known{G:List Eg}{s:T3}{S:List T3}{K:Int}{D N:List Rc}(h:Ka G s S K D N){r:Rc}(hr:r∈N)(hk:r.1∈D.map (·.1)):
  Ka G s S K D (Gv r.1 N)/\mu G S D (Gv r.1 N)<mu G S D N:=
 ⟨{ h.tobj.known hk with kD:=h.kD,kN:=fun x hx=>h.kN x (Bj.1 hx).1,bD:=h.bD,bN:=fun x hx=>h.bN x (Bj.1 hx).1 },Nat.add_lt_add_left (Xz hr) _⟩
theorem Ka.take{G:List Eg}{s:T3}{S:List T3}{K:Int}{D N:List Rc}(hG:iZ G S K)(h:Ka G s S K D N){r:Rc}(hr:r∈N)(hl:∀ x∈N,PH r.2 x.2)(hk:r.1∉D.map (·.1)):
  Ka G s S K (D++[r]) (Gv r.1 N++HL G (D++[r]) r)/\mu G S (D++[r]) (Gv r.1 N++HL G (D++[r]) r)<mu G S D N:=by
 have hb:=h.bN r hr;have hlen:(D++[r]).length=D.length+1:=by simp
 have hnew:Ka G s S K (D++[r]) (Gv r.1 N++HL G (D++[r]) r):=
  { h.tobj.take hG.Vd hr hl hk with
   kD:=fun x hx=>by
    rcases A5.1 hx with hx |hx
    ·exact h.kD x hx
    ·rw[AI.1 hx];exact h.kN r hr
   kN:=fun x hx=>by
    rcases A5.1 hx with hx |hx
    ·exact h.kN x (Bj.1 hx).1
    ·obtain⟨e,he,-,rfl⟩:=QU hx;exact hG.to e he
   bD:=fun x hx=>by
    have hK:K*(D++[r]).length=K*D.length+K:=by rw[hlen,Int.natCast_add,Int.mul_add];omega
    have:=hG.k0;rcases A5.1 hx with hx |hx
    ·have:=h.bD x hx;omega
    ·rw[AI.1 hx];omega
   bN:=fun x hx=>by
    have hK:K*(D++[r]).length=K*D.length+K:=by rw[hlen,Int.natCast_add,Int.mul_add];omega
    have:=hG.k0;rcases A5.1 hx with hx |hx
    ·have:=h.bN x (Bj.1 hx).1;omega
    ·obtain⟨e,he,-,rfl⟩:=QU hx;have:=hG.nn e he;simp only[Ar,As,AC]at hK ⊢;omega }
 refine⟨hnew,?_⟩;have hc:=hnew.cap;rw[hlen]at hc;have h1:=Xz hr;have h2:=ja (G:=G) (D:=D++[r]) (r:=r);unfold mu;rw[hlen,Ar];have e1:S.length-D.length=(S.length-(D.length+1))+1:=by omega
 rw[e1,Ba];omega
theorem SN{G:List Eg}{s:T3}{S:List T3}{K:Int}(hG:iZ G S K):∀{k:Nat} {D N:List Rc},Ka G s S K D N->mu G S D N<k->Ka G s S K (I8 G k D N) []
 |0,_,_,_,hk=>by omega
 |k+1,D,[],h,_=>h
 |k+1,D,n::N,h,hk=>by
  obtain⟨h1,h2⟩:=G8 (N:=N) (b:=n);rw[I8];by_cases hm:(D5 n N).1∈D.map (·.1)
  ·rw[Ac hm,Aj];obtain⟨g1,g2⟩:=h.known h1 hm;exact SN hG g1 (by omega)
  ·rw[Ai hm,Ap];obtain⟨g1,g2⟩:=h.take hG h1 h2 hm;exact SN hG g1 (by omega)
theorem Ju{G:List Eg}{s:T3}{S:List T3}{K:Int}(hG:iZ G S K):∀{k j:Nat} {D N:List Rc},Ka G s S K D N->mu G S D N<k->mu G S D N<j->I8 G k D N=I8 G j D N
 |0,_,_,_,_,hk,_=>by omega
 |_+1,0,_,_,_,_,hj=>by omega
 |k+1,j+1,D,[],_,_,_=>rfl
 |k+1,j+1,D,n::N,h,hk,hj=>by
  obtain⟨h1,h2⟩:=G8 (N:=N) (b:=n);rw[I8,I8];by_cases hm:(D5 n N).1∈D.map (·.1)
  ·rw[Ac hm,Aj,Aj];obtain⟨g1,g2⟩:=h.known h1 hm;exact Ju hG g1 (by omega) (by omega)
  ·rw[Ai hm,Ap,Ap];obtain⟨g1,g2⟩:=h.take hG h1 h2 hm;exact Ju hG g1 (by omega) (by omega)
theorem Ka.init{G:List Eg}{s:T3}{S:List T3}{K:Int}(hs:s∈S):Ka G s S K [] [(s,(0,[]))]:=
 { bj.init with
  kD:=fun x hx=>by cases hx
  kN:=fun x hx=>by rw[AI.1 hx];exact hs
  bD:=fun x hx=>by cases hx
  bN:=fun x hx=>by rw[AI.1 hx];simp }
def XA(G:List Eg)(S:List T3)(s:T3):List Rc:=I8 G (mu G S [] [(s,(0,[]))]+1) [] [(s,(0,[]))]
theorem HZ{G:List Eg}{s:T3}{S:List T3}{K:Int}(hG:iZ G S K)(hs:s∈S):Ka G s S K (XA G S s) []:=SN hG (Ka.init hs) (by omega)
theorem Lk{G:List Eg}{s v:T3}{S:List T3}{K:Int}{k:Ky}(hG:iZ G S K)(hs:s∈S):(v,k)∈XA G S s ↔ Kq G s v k:=by
 have h:=HZ hG hs;constructor
 ·exact fun hx=>h.wD _ hx
 ·intro hm;obtain⟨x,hx,rfl⟩:=AY.1 (h.done hG.Vd hm.1);rw[<- (h.wD x hx).uniq hm];exact hx
theorem aae{G:List Eg}{s:T3}{S:List T3}{K:Int}(hG:iZ G S K)(hs:s∈S):uW G s where
 ex v k hw:=by
  obtain⟨x,hx,rfl⟩:=AY.1 ((HZ hG hs).done hG.Vd hw);exact⟨x.2,(HZ hG hs).wD x hx⟩
 bd:=⟨S.length,fun v k hm=>by
  have h:=HZ hG hs;have:=h.bD _ ((Lk hG hs).2 hm);have:=h.cap;simp only at *;omega⟩
theorem vg{G:List Eg}{s:T3}{S:List T3}{K:Int}{f:OF}(hG:iZ G S K)(hs:s∈S)(h:BF G s f):bn G s f<=S.length:=by
 have hF:=aae hG hs;have he:OL G S.length f=GL G s:=by
  funext v
  have hwf:=U6 (n:=S.length) h.wf;cases hm:GL G s v with
  |some k=>
   have hk:=EO.1 hm;have hb:=(HZ hG hs).bD _ ((Lk hG hs).2 hk);have hc:=(HZ hG hs).cap;simp only at hb;obtain⟨k',h1,h2⟩:=Ub hk.1 (n:=S.length) h.st (by omega);rw[h1,SI h2 (hk.2 _ (hwf _ _ h1))]
  |none=>
   cases hs':OL G S.length f v with
   |none=>rfl
   |some k=>
    obtain⟨k',hk'⟩:=hF.ex _ _ (hwf _ _ hs');rw[EO.2 hk']at hm;cases hm
 have h1:∃ n,OL G n f=GL G s:=⟨_,he⟩;unfold bn;rw[dif_pos h1];have e1:=(G7 h1).choose_spec;generalize (G7 h1).choose=a at *;by_cases hc:a<=S.length
 ·exact hc
 ·exact absurd he (e1.2 _ (by omega))
end Go.Hr
namespace Go.Hr
open Go.Hx Go.Hg Go.Hn Go.Proofs
structure ZC(ws l:List PV):Prop where
 nd:(l.map DA).Nodup
 len:l.length<=10000
 mem:∀ e∈ws,(wL e).length≠0->DA (eF e)∈l.map DA/\DA (eL e)∈l.map DA
 wl:∀ e∈ws,(wL e).length<=1000
 wsl:ws.length<=100
theorem qo{ws l:List PV}{e:PV}(h:ZC ws l)(he:e∈ws)(h0:(wL e).length≠0):∀ x∈eE e,(0<=x.2.2.2/\x.2.2.2<=3037000499000)/\x.2.1∈l.map DA:=fun x hx=>by
 have h1:=F9 (h.wl e he);have h2:=h.mem e he h0;rcases AK.1 hx with rfl |hx
 ·exact⟨h1,h2.2⟩
 ·rw[AI.1 hx];exact⟨h1,h2.1⟩
theorem XB{ws l:List PV}(fl:Bool)(h:ZC ws l):∀ x∈gE fl ws,(0<=x.2.2.2/\x.2.2.2<=3037000499000)/\x.2.1∈l.map DA:=fun x hx=>by
 obtain⟨e,he,hx⟩:=List.mem_flatMap.1 hx;cases hs:Dd fl e with
 |true=>rw[hs,Aj]at hx;cases hx
 |false=>
  rw[hs,Ap]at hx;refine qo h he ?_ x hx;simp only[Dd,BJ,AM]at hs;omega
theorem ZC.gok{ws l:List PV}(fl:Bool)(h:ZC ws l):iZ (gE fl ws) (l.map DA) 3037000499000:=⟨by decide,fun e he=>(XB fl h e he).1,fun e he=>(XB fl h e he).2⟩
theorem jb(fl:Bool):∀ ws:List PV,(gE fl ws).length<=2*ws.length
 | []=>by simp[gE]
 |e::ws=>by
  have:=jb fl ws;show((bif Dd fl e then [] else eE e)++gE fl ws).length<=_
  rw[Ar,As];cases Dd fl e with
  |true=>rw[Aj,AC];omega
  |false=>rw[Ap];show 2+_<=_;omega
structure qp(ws l es:List PV)(i:Int):Prop where
 i0:0<=i
 i1:i<=(ws.length:Int)
 Ed:ZC ws l
 enc:es=Fv l (fO es)
 sup:LZ l (fO es)
 bd:Yb (fO es) (800000000000000000+i*6074000998000) (50000+2*i.toNat)
noncomputable def dB(p:Prop):Bool:=@decide p (Classical.propDecidable p)
theorem DB{p:Prop}:dB p=true ↔ p:=by unfold dB;exact @BB _ (Classical.propDecidable _)
noncomputable def jc:LS->Bool
 |([.l _ ws,.b _,.n n,.n k,.l _ l,.b _,.i i],[.i _,.i _,.i _,.l _ es])=>decide (n=es.length)&&decide (k=es.length)&&dB (qp ws l es i)
 |_=>false
noncomputable abbrev xA2(f:Bool)(ws:List PV)(fl:Bool)(n k:Nat)(g:Bool)(l:List PV)(ag:Bool)(x y z:Int)(nl:Bool)(es:List PV):PX×List PV×List Row:=
 (.exit 4,tm 138 [(0,.Db f 49 ws),(2,bv fl),(7,.sl 1 n 0 k),(8,.Db g 30 l),(10,bv ag)],(J7.put (Zz f ws fl n k g l ag 0 x y z nl es)).2)
noncomputable def vh:LS->DT (PX×List PV×List Row)
 |([.l f ws,.b fl,.n n,.n k,.l g l,.b ag,.i i],[.i x,.i y,.i z,.l nl es])=>.leaf (xA2 f ws fl n k g l (ag||again (gE fl (ws.drop i.toNat)) (fO es)) x y z nl (Fv l (HY (gE fl (ws.drop i.toNat)) (fO es))))
 |_=>.no
def nG:LS->Nat
 |([.l _ ws,.b _,.n _,.n _,.l _ _,.b _,.i i],_)=>((ws.length:Int)-i).toNat
 |_=>0
theorem qp.next{ws l es:List PV}{i:Int}(h:qp ws l es i){f:OF}(hi:i<(ws.length:Int))(hs:LZ l f)(hb:Yb f (800000000000000000+i*6074000998000+6074000998000) (50000+2*i.toNat+2)):qp ws l (Fv l f) (i+1) where
 i0:=by have:=h.i0;omega
 i1:=by omega
 Ed:=h.Ed
 enc:=by rw[OO h.Ed.nd hs]
 sup:=by rw[OO h.Ed.nd hs];exact hs
 bd:=by rw[OO h.Ed.nd hs];exact hb.mono (by omega) (by have:=h.i0;omega)
theorem qp.two{ws l es:List PV}{i:Int}(h:qp ws l es i)(hi:i<(ws.length:Int))(h0:(wL (ws.getD i.toNat .any)).length≠0):
  qp ws l (Fv l (HY (eE (ws.getD i.toNat .any)) (fO es))) (i+1)/\fO (Fv l (HY (eE (ws.getD i.toNat .any)) (fO es)))=HY (eE (ws.getD i.toNat .any)) (fO es):=by
 have hm:ws.getD i.toNat .any∈ws:=J9 h.i0 hi;have he:=qo h.Ed hm h0;have hs:LZ l (HY (eE (ws.getD i.toNat .any)) (fO es)):=h.sup.HY fun x hx=>(he x hx).2
 have hb:Yb (HY (eE (ws.getD i.toNat .any)) (fO es)) _ _:=h.bd.HY (by decide) fun x hx=>(he x hx).1
 exact⟨h.next hi hs (hb.mono (by simp only[eE,As,AC];omega) (by simp only[eE,As,AC];omega)),OO h.Ed.nd hs⟩
theorem sA2:∀ s r,jc s=true->(vh s).run=some r->r.1≠.normal/\(Dc Try.prog R45 60 34 (Dh Try.f34 13) [0,2,7,8,10,11] [0,2,7,8,10] (J7.put s).1 (J7.put s).2=some r \/
   ∃ s',Dc Try.prog R45 60 34 (Dh Try.f34 13) [0,2,7,8,10,11] [0,2,7,8,10] (J7.put s).1 (J7.put s).2=some (.normal,J7.put s')/\jc s'=true/\nG s'<nG s/\(vh s').run=some r):=by
 intro t r hp hr;unfold jc at hp;split at hp
 ·rename_i f ws fl n k g l ag i x y z nl es;simp only[Aa,Ab,DB]at hp;obtain⟨⟨rfl,rfl⟩,h⟩:=hp;have hr':=(Ah hr).symm;refine⟨by rw[hr'];simp,?_⟩;have hi0:=h.i0;have hi1:=h.i1;have hwsl:=h.Ed.wsl;rw[show J7.put ([.l f ws,.b fl,.n es.length,.n es.length,.l g l,.b ag,.i i],[.i x,.i y,.i z,.l nl es])=J7.put (Zz f ws fl es.length es.length g l ag i x y z nl es) from rfl,qA2];by_cases hi:i<(ws.length:Int)
  ·rw[Ac hi,D1 hi0 hi,Dx (n:=i+1) (by omega) (by omega)];rw[Dt hi0 hi]at hr';have hm:ws.getD i.toNat .any∈ws:=J9 hi0 hi;have skip:Dd fl (ws.getD i.toNat .any)=true->∃ s',(some (PX.normal,J7.put (Zz f ws fl es.length es.length g l ag (i+1) x y z nl es)):Option (PX×List PV×List Row))=some (.normal,J7.put s')/\jc s'=true/\nG s'<nG (Zz f ws fl es.length es.length g l ag i x y z nl es)/\(vh s').run=some r:=fun hsh=>by
    refine⟨Zz f ws fl es.length es.length g l ag (i+1) x y z nl es,rfl,?_,by simp only[nG];omega,?_⟩
    ·have h':=h.next (f:=fO es) hi h.sup (h.bd.mono (by omega) (by omega))
     rw[<- h.enc]at h';simp only[jc,Aa,Ab,DB];exact⟨⟨trivial,trivial⟩,h'⟩
    ·rw[hr'];have hg:gE fl (ws.getD i.toNat .any::ws.drop (i+1).toNat)=gE fl (ws.drop (i+1).toNat):=by
      show(bif Dd fl (ws.getD i.toNat .any) then [] else _)++_=_
      rw[hsh];rfl
     simp only[vh,hg];rfl
   have go:Dd fl (ws.getD i.toNat .any)=false->∃ s',nD f ws fl es.length es.length g l ag i x y z nl es (ws.getD i.toNat .any)=some (.normal,J7.put s')/\jc s'=true/\nG s'<nG (Zz f ws fl es.length es.length g l ag i x y z nl es)/\(vh s').run=some r:=fun hsh=>by
    have h0:(wL (ws.getD i.toNat .any)).length≠0:=by
     have h2:=hsh;simp only[Dd,BJ,AM]at h2;omega
    have hwl:=h.Ed.wl _ hm;obtain⟨m1,m2⟩:=h.Ed.mem _ hm h0;obtain⟨a1,a2,-⟩:=bw m1;obtain⟨b1,b2,-⟩:=bw m2;have hel:es.length=l.length:=by rw[h.enc];exact Fw
    have hp3:qn (dU f ws fl es.length es.length g l ag i (lk l (ws.getD i.toNat .any)) (ll l (ws.getD i.toNat .any)) 0 x y z nl es (wI (ws.getD i.toNat .any)) false (wL (ws.getD i.toNat .any)) (MQ (ws.getD i.toNat .any)) (cS (ws.getD i.toNat .any) 3) (cS (ws.getD i.toNat .any) 4) (IX (ws.getD i.toNat .any)) (cI (ws.getD i.toNat .any) 6) (cI (ws.getD i.toNat .any) 7) (gX (eF (ws.getD i.toNat .any))) (gY (eF (ws.getD i.toNat .any))) (gL (eF (ws.getD i.toNat .any))) (gX (eL (ws.getD i.toNat .any))) (gY (eL (ws.getD i.toNat .any))) (gL (eL (ws.getD i.toNat .any))))=true:=by
     have hbd:(es.all (Xv (900000000000000000+(0:Int)*3037000499000) (100000+(0:Int).toNat)))=true:=by
      rw[h.enc];exact vf (by decide) (h.bd.mono (by omega) (by omega))
     simp only[qn,Aa,Ab];exact⟨⟨⟨⟨⟨⟨⟨⟨⟨trivial,trivial⟩,a1⟩,by rw[hel];exact a2⟩,b1⟩,by rw[hel];exact b2⟩,by decide⟩,by decide⟩,hwl⟩,hbd⟩
    have htwo:=iY (l:=l) (f:=fO es) (ag:=ag) (e:=ws.getD i.toNat .any) h.Ed.nd m1 m2;rw[<- h.enc]at htwo;obtain⟨g1,g2⟩:=h.two hi h0;refine⟨Zz f ws fl es.length es.length g l (ag||again (eE (ws.getD i.toNat .any)) (fO es)) (i+1) x y z nl (Fv l (HY (eE (ws.getD i.toNat .any)) (fO es))),?_,?_,by simp only[nG];omega,?_⟩
    ·unfold nD;rw[J5 h0 (by omega),Ac h.Ed.len,hp3,show(2-0:Int).toNat=2 from rfl,htwo,Dx (n:=i+1) (by omega) (by omega)];rfl
    ·simp only[jc,Aa,Ab,DB];exact⟨⟨by rw[Fw];exact hel,by rw[Fw];exact hel⟩,g1⟩
    ·rw[hr'];have hg:gE fl (ws.getD i.toNat .any::ws.drop (i+1).toNat)=eE (ws.getD i.toNat .any)++gE fl (ws.drop (i+1).toNat):=by
      show(bif Dd fl (ws.getD i.toNat .any) then [] else _)++_=_
      rw[hsh];rfl
     simp only[vh,hg,g2,Ud,bz,Bool.or_assoc];rfl
   simp only[Aj];right
   cases c1:(((wL (ws.getD i.toNat .any)).length:Int)==0) with
   |true=>rw[Aj];exact skip (by unfold Dd;rw[c1];rfl)
   |false=>
    rw[Ap];cases c2:fl with
    |false=>rw[c2]at go;exact go (by unfold Dd;rw[c1];rfl)
    |true=>
     rw[c2]at go skip;rw[Aj];cases c3:IX (ws.getD i.toNat .any) with
     |true=>rw[Aj];exact skip (by unfold Dd;rw[c1,c3];rfl)
     |false=>rw[Ap];exact go (by unfold Dd;rw[c1,c3];rfl)
  ·rw[Ai hi];rw[AB (by omega)]at hr';refine .inl ?_;have e1:Fv l (HY (gE fl []) (fO es))=es:=h.enc.symm;have e2:(ag||again (gE fl []) (fO es))=ag:=CC _;rw[hr',e1,e2];rfl
 ·cases hp
noncomputable def R46:C9:=R45.Dr 34 13 [0,2,7,8,10,11] [false,false] J7 jc vh
theorem aag:C4 Try.prog R46.env:=
 aac.Dr (n:=60) Try.func34 (show Try.f34.body=some (D3 Try.f34) by kernel_rfl) (show(loops (D3 Try.f34)).filter (fun b=>Ev b==13)=[Dh Try.f34 13] by kernel_rfl) [0,2,7,8,10,11] [0,2,7,8,10] [false,false] J7 nG sA2
def OP:Hx.S1:=⟨138,[(0,.Db 49),(2,.bool),(7,.sl 1),(8,.Db 30),(10,.bool)],[.one 30 3 aS,.many 83 6]⟩
abbrev nH(f:Bool)(ws:List PV)(fl:Bool)(n k:Nat)(g:Bool)(l:List PV)(ag:Bool)(x y z:Int)(nl:Bool)(es:List PV):LS:=([.l f ws,.b fl,.n n,.n k,.l g l,.b ag],[.i x,.i y,.i z,.l nl es])
noncomputable abbrev xA4(n k:Nat)(x y z:Int)(nl:Bool)(es:List PV):PX×List PV×List Row:=(.exit 2,tm 138 [(7,.sl 1 n 0 k)],(OP.put (nH false [] false 0 0 false [] false x y z nl es)).2)
theorem qA4(f:Bool)(ws:List PV)(fl:Bool)(n k:Nat)(g:Bool)(l:List PV)(ag:Bool)(x y z:Int)(nl:Bool)(es:List PV):
 Dc Try.prog R46 60 34 (Dh Try.f34 10) [0,2,7,8,10] [7] (OP.put (nH f ws fl n k g l ag x y z nl es)).1 (OP.put (nH f ws fl n k g l ag x y z nl es)).2 =
 bif ag then bif jc (Zz f ws fl n k g l false 0 x y z nl es) then some (.normal,OP.put (nH f ws fl n k g l (false||again (gE fl (ws.drop (0:Int).toNat)) (fO es)) x y z nl (Fv l (HY (gE fl (ws.drop (0:Int).toNat)) (fO es))))) else none
 else some (xA4 n k x y z nl es):=by kernel_rfl
structure nJ(fl:Bool)(ws l es:List PV)(s:T3):Prop where
 Ed:ZC ws l
 two:l.length<=200
 enc:es=Fv l (fO es)
 sup:LZ l (fO es)
 bf:BF (gE fl ws) s (fO es)
 mem:s∈l.map DA
 bd:Yb (fO es) (((l.length-bn (gE fl ws) s (fO es):Nat):Int)*607400099800000) (200*(l.length-bn (gE fl ws) s (fO es)))
noncomputable def nK:LS->Bool
 |([.l _ ws,.b fl,.n n,.n k,.l _ l,.b ag],[.i x,.i y,.i z,.l _ es])=>decide (n=es.length)&&decide (k=es.length)&&bif ag then dB (nJ fl ws l es (x,y,z)) else dB (es=Fv l (GL (gE fl ws) (x,y,z)))
 |_=>false
noncomputable def fA4:LS->DT (PX×List PV×List Row)
 |([.l _ ws,.b fl,.n n,.n k,.l _ l,.b _],[.i x,.i y,.i z,.l nl _])=>.leaf (xA4 n k x y z nl (Fv l (GL (gE fl ws) (x,y,z))))
 |_=>.no
noncomputable def mA4:LS->Nat
 |([.l _ ws,.b fl,.n _,.n _,.l _ _,.b ag],[.i x,.i y,.i z,.l _ es])=>bif ag then bn (gE fl ws) (x,y,z) (fO es)+1 else 0
 |_=>0
theorem nJ.p13{fl:Bool}{ws l es:List PV}{s:T3}(h:nJ fl ws l es s):qp ws l es 0 where
 i0:=BK _
 i1:=by omega
 Ed:=h.Ed
 enc:=h.enc
 sup:=h.sup
 bd:=h.bd.mono (by
  have:=h.two;have:((l.length-bn (gE fl ws) s (fO es):Nat):Int)<=200:=by omega
  omega) (by have:=h.two;omega)
theorem nJ.HY{fl:Bool}{ws l es:List PV}{s:T3}(h:nJ fl ws l es s):LZ l (HY (gE fl ws) (fO es)):=h.sup.HY fun x hx=>(XB fl h.Ed x hx).2
theorem nJ.next{fl:Bool}{ws l es:List PV}{s:T3}(h:nJ fl ws l es s)(ha:again (gE fl ws) (fO es)=true):nJ fl ws l (Fv l (Go.Hr.HY (gE fl ws) (fO es))) s/\bn (gE fl ws) s (fO (Fv l (Go.Hr.HY (gE fl ws) (fO es))))<bn (gE fl ws) s (fO es):=by
 have e1:=OO h.Ed.nd h.HY;have hF:=aae (h.Ed.gok fl) h.mem;have hr:=uX hF h.bf ha;have hle:bn (gE fl ws) s (fO es)<=l.length:=by have:=vg (h.Ed.gok fl) h.mem h.bf;rwa [AV]at this
 have hgl:=jb fl ws;have hwl:=h.Ed.wsl;refine⟨⟨h.Ed,h.two,by rw[e1],by rw[e1];exact h.HY,by rw[e1];exact h.bf.HY,h.mem,?_⟩,by rw[e1];exact hr⟩;rw[e1];have hb:Yb (Go.Hr.HY (gE fl ws) (fO es)) _ _:=h.bd.HY (K:=3037000499000) (by decide) fun x hx=>(XB fl h.Ed x hx).1
 refine hb.mono ?_ (by omega);generalize bn (gE fl ws) s (Go.Hr.HY (gE fl ws) (fO es))=a at *;generalize bn (gE fl ws) s (fO es)=b at *;have:((gE fl ws).length:Int)<=200:=by omega
 have:((l.length-a:Nat):Int) ≥ ((l.length-b:Nat):Int)+1:=by omega
 omega
theorem sA4:∀ s r,nK s=true->(fA4 s).run=some r->r.1≠.normal/\(Dc Try.prog R46 60 34 (Dh Try.f34 10) [0,2,7,8,10] [7] (OP.put s).1 (OP.put s).2=some r \/
   ∃ s',Dc Try.prog R46 60 34 (Dh Try.f34 10) [0,2,7,8,10] [7] (OP.put s).1 (OP.put s).2=some (.normal,OP.put s')/\nK s'=true/\mA4 s'<mA4 s/\(fA4 s').run=some r):=by
 intro t r hp hr;unfold nK at hp;split at hp
 ·rename_i f ws fl n k g l ag x y z nl es;simp only[Aa,Ab]at hp;obtain⟨⟨rfl,rfl⟩,h⟩:=hp;have hr':=(Ah hr).symm;refine⟨by rw[hr'];simp,?_⟩;rw[show OP.put ([.l f ws,.b fl,.n es.length,.n es.length,.l g l,.b ag],[.i x,.i y,.i z,.l nl es])=OP.put (nH f ws fl es.length es.length g l ag x y z nl es) from rfl,qA4];cases ag with
  |false=>
   rw[Ap,DB]at h;rw[Ap];exact .inl (by rw[hr',<- h])
  |true=>
   rw[Aj,DB]at h;have hp2:jc (Zz f ws fl es.length es.length g l false 0 x y z nl es)=true:=by
    simp only[jc,Aa,Ab,DB];exact⟨⟨trivial,trivial⟩,h.p13⟩
   have hel:es.length=l.length:=by rw[h.enc];exact Fw
   rw[Aj,hp2,Aj,show(0:Int).toNat=0 from rfl,AH,Bk];cases ha:again (gE fl ws) (fO es) with
   |true=>
    obtain⟨g1,g2⟩:=h.next ha
    refine .inr ⟨nH f ws fl es.length es.length g l true x y z nl (Fv l (HY (gE fl ws) (fO es))),rfl,?_,by simp only[mA4,Aj];omega,?_⟩
    ·simp only[nK,Aa,Ab,Aj,DB];exact⟨⟨by rw[Fw];exact hel,by rw[Fw];exact hel⟩,g1⟩
    ·rw[hr'];rfl
   |false=>
    obtain⟨g1,g2⟩:=Xr ha;have hmin:=Zs h.bf.wf h.bf.st g2;refine .inr ⟨nH f ws fl es.length es.length g l false x y z nl (Fv l (HY (gE fl ws) (fO es))),rfl,?_,by simp only[mA4,Aj,Ap];omega,?_⟩
    ·simp only[nK,Aa,Ab,Ap,DB];exact⟨⟨by rw[Fw];exact hel,by rw[Fw];exact hel⟩,by rw[g1,hmin]⟩
    ·rw[hr'];rfl
 ·cases hp
noncomputable def R47:C9:=R46.Dr 34 10 [0,2,7,8,10] [false,false] OP nK fA4
theorem qq:C4 Try.prog R47.env:=
 aag.Dr (n:=60) Try.func34 (show Try.f34.body=some (D3 Try.f34) by kernel_rfl) (show(loops (D3 Try.f34)).filter (fun b=>Ev b==10)=[Dh Try.f34 10] by kernel_rfl) [0,2,7,8,10] [7] [false,false] OP mA4 sA4
abbrev Ld(x y z:Int)(l:List PV):List PV:=[]++(l.drop (0:Int).toNat).map (Xu x y z)
theorem af2(f:Bool)(ws:List PV)(x y z:Int)(fl:Bool):DC Try.prog R47 60 34 [.Db f 49 ws,DU x y z,bv fl] =
 bif decide (ws.length<=1000)&&G6 ws then bif decide ((DL ws []).length<=10000) then bif decide (DI x y z 0 (DL ws [])<0) then some (.val (.slice none 0 0)) else
  bif qj (qi f ws fl 0 0 false (DL ws []) 0 x y z true []) then
   bif nK (nH f ws fl (Ld x y z (DL ws [])).length (Ld x y z (DL ws [])).length false (DL ws []) true x y z (Ld x y z (DL ws [])).isEmpty (Ld x y z (DL ws []))) then
    HV (Fv (DL ws []) (GL (gE fl ws) (x,y,z))) (Ld x y z (DL ws [])).length (some (.Db false 83 (((Fv (DL ws []) (GL (gE fl ws) (x,y,z))).drop 0).take (Ld x y z (DL ws [])).length)))
   else none else none else none else none:=by kernel_rfl
structure IF(ws:List PV):Prop where
 SO:ws.length<=100
 wl:∀ e∈ws,(wL e).length<=1000
theorem IF.G6{ws:List PV}(h:IF ws):G6 ws=true:=by
 unfold Hr.G6;rw[Ao];intro e he;have:=h.wl e he;exact Ac (by omega)
theorem bA{es:List PV}{s:PV}(h:(es.map DA).Nodup):((Jq es s).map DA).Nodup:=by
 unfold Jq;cases hd:decide (DI (gX s) (gY s) (gL s) 0 es<0) with
 |false=>exact h
 |true=>
  rw[Ab,Gu (by omega)]at hd;rw[Aj,Bx,CZ];exact⟨h,by simp,fun a ha b hb=>by rw[AW,Bq,AI]at hb;subst hb;exact fun e=>hd (by rw[e]at ha;exact ha)⟩
theorem bC:∀{ws es:List PV},(es.map DA).Nodup->((DL ws es).map DA).Nodup
 | [],es,h=>h
 |e::ws,es,h=>by
  show((DL ws (I7 es e)).map DA).Nodup
  apply bC
  unfold I7;cases((wL e).length:Int)==0 with
  |true=>exact h
  |false=>exact bA (bA h)
theorem jd{ws:List PV}(h:IF ws):ZC ws (DL ws [])/\(DL ws []).length<=200:=by
 have hl:=NZ ws [];simp only[AC]at hl;have:=h.SO;exact⟨⟨bC .nil,by omega,fun e he h0=>⟨FW.2 ⟨e,he,h0,.inl rfl⟩,FW.2 ⟨e,he,h0,.inr rfl⟩⟩,h.wl,h.SO⟩,by omega⟩
def f0(l:List PV)(s:T3):OF:=fun v=>if v∈l.map DA/\v=s then some (0,[]) else none
theorem Ve(x y z:Int)(l:List PV):Ld x y z l=Fv l (f0 l (x,y,z)):=by
 show []++(l.drop 0).map (Xu x y z)=l.map _
 rw[Bc,AH];apply Bt
 intro e he;unfold f0;cases hq:VO e x y z with
 |true=>
  rw[Ak ⟨BN he,IY.1 hq⟩];show Xt (gX e) (gY e) (gL e) true [] 0 (VO e x y z)=_
  rw[hq];rfl
 |false=>
  rw[Aq (fun h=>by rw[IY.2 h.2]at hq;cases hq)];show Xt (gX e) (gY e) (gL e) true [] 0 (VO e x y z)=_
  rw[hq];rfl
theorem je(l:List PV)(s:T3):LZ l (f0 l s):=fun v k hk=>by
 unfold f0 at hk;split at hk
 ·rename_i h;exact h.1
 ·cases hk
theorem bE{l:List PV}{s v:T3}{k:Ky}(h:f0 l s v=some k):v=s/\k=(0,[]):=by
 unfold f0 at h;split at h
 ·rename_i hc;cases h;exact⟨hc.2,rfl⟩
 ·cases h
theorem p10{ws:List PV}(fl:Bool)(h:IF ws){x y z:Int}(hs:(x,y,z)∈(DL ws []).map DA):nJ fl ws (DL ws []) (Ld x y z (DL ws [])) (x,y,z):=by
 obtain⟨h1,h2⟩:=jd h;have e1:fO (Ld x y z (DL ws []))=f0 (DL ws []) (x,y,z):=by rw[Ve];exact OO h1.nd (je _ _)
 refine⟨h1,h2,by rw[e1];exact Ve x y z _,by rw[e1];exact je _ _,?_,hs,?_⟩
 ·rw[e1];refine⟨fun v k hk=>?_,(0,[]),?_,IE⟩
  ·obtain⟨rfl,rfl⟩:=bE hk;exact .nil
  ·unfold f0;rw[Ak ⟨hs,rfl⟩]
 ·rw[e1];intro v k hk;obtain⟨rfl,rfl⟩:=bE hk;exact⟨BK _,Int.mul_nonneg (by omega) (by decide),AR _⟩
noncomputable abbrev Vf(ws:List PV)(fl:Bool)(x y z:Int):List PV:=Fv (DL ws []) (GL (gE fl ws) (x,y,z))
theorem qu(f:Bool)(ws:List PV)(x y z:Int)(fl:Bool)(h:IF ws):DC Try.prog R47 60 34 [.Db f 49 ws,DU x y z,bv fl] =
  bif decide (DI x y z 0 (DL ws [])<0) then some (.val (.slice none 0 0)) else some (.Db false 83 (Vf ws fl x y z)):=by
 obtain⟨h1,h2⟩:=jd h;have:=h.SO;rw[af2,Ac (show ws.length<=1000 by omega),h.G6,Ac h1.len];cases hd:decide (DI x y z 0 (DL ws [])<0) with
 |true=>rfl
 |false=>
  rw[AS,Gu (by omega),C7]at hd;have hp1:qj (qi f ws fl 0 0 false (DL ws []) 0 x y z true [])=true:=by
   simp only[qj,Aa,Ab,Av];exact⟨⟨⟨⟨⟨⟨rfl,rfl⟩,by omega⟩,by omega⟩,by simp⟩,h1.len⟩,rfl⟩
  have hp4:nK (nH f ws fl (Ld x y z (DL ws [])).length (Ld x y z (DL ws [])).length false (DL ws []) true x y z (Ld x y z (DL ws [])).isEmpty (Ld x y z (DL ws [])))=true:=by
   simp only[nK,Aa,Ab,Aj,DB];exact⟨⟨trivial,trivial⟩,p10 fl h hd⟩
  have e0:(Ld x y z (DL ws [])).length=(DL ws []).length:=by rw[Ve];exact Fw
  have e1:(Vf ws fl x y z).length=(DL ws []).length:=Fw;rw[hp1,hp4,e0,DK e1,AH,A7 (Nat.le_of_eq e1)];rfl
theorem bF{α:Type}{b c:Bool}{x y r:α}(h:(DT.br b (.br c (.leaf x) (.leaf y)) .no).run=some r):b=true/\r=bif c then x else y:=by
 cases b with
 |true=>refine⟨rfl,?_⟩;cases c <;> exact(Ah h).symm
 |false=>cases h
noncomputable def vi:List PV->Option (DT PV)
 | [.Db _ 49 ws,.agg [.val (.int .i64 x),.val (.int .i64 y),.val (.int .i64 z)],.val (.bool fl)]=>
  some (.br (dB (IF ws)) (.br (decide (DI x y z 0 (DL ws [])<0)) (.leaf (.val (.slice none 0 0))) (.leaf (.Db false 83 (Vf ws fl x y z)))) .no)
 |_=>none
theorem ZD:IF []:=⟨by simp,fun e h=>by cases h⟩
theorem af3:Hx.Df Try.prog 34:=(Cz qq (n:=60) ((qu false [] 0 0 0 false ZD).trans (by rfl))).1
theorem af4(args:List PV)(d:DT PV)(r:PV)(h:vi args=some d)(hr:d.run=some r):Ds Try.prog 34 args r:=by
 unfold vi at h;split at h
 ·rename_i f ws x y z fl;cases h;obtain⟨h1,rfl⟩:=bF hr;refine(Cz qq (n:=60) ((qu f ws x y z fl (DB.1 h1)).trans ?_)).2;cases decide (DI x y z 0 (DL ws [])<0) <;> rfl
 ·cases h
abbrev aC:X1:=.agg [Dm,Dm,Dm,.Db 3,Dm]
abbrev fnC:X1:=.fn 59 [] []
def Yc:S1:=⟨31,[(0,.sl 0),(1,fnC),(4,.ptr 1 1 0 0),(6,.ptr 2 1 0 0),(9,.sl 0),(10,Dm),(11,Dm)],[.many 78 5,.one 78 5 aC,.one 78 5 aC]⟩
abbrev lN(n k n2 k2:Nat)(len i:Int)(nl:Bool)(es:List PV)(a0 a1 a2:Int)(fa:Bool)(pa:List PV)(ac b0 b1 b2:Int)(fb:Bool)(pb:List PV)(bc:Int):LS:=
 ([.n n,.n k,.n n2,.n k2,.i len,.i i],[.l nl es,.i a0,.i a1,.i a2,.l fa pa,.i ac,.i b0,.i b1,.i b2,.l fb pb,.i bc])
abbrev HG(e:PV):PV:=Hy (gX e) (gY e) (gL e) false (rP e) (rC e)
def xn(e b:PV):Bool:=decide (Vb (rC e) (rP e) (rC b) (rP b)<0)
def dW:Bool->PV->List PV->PV
 |_,b,[]=>b
 |first,b,e::es=>dW false (bif first then HG e else bif xn e b then HG e else b) es
noncomputable abbrev xN(n k:Nat)(nl:Bool)(es:List PV)(a0 a1 a2:Int)(fa:Bool)(pa:List PV)(ac:Int)(b:PV):PX×List PV×List Row:=
 (.exit 0,tm 31 [(0,.sl 0 n 0 k),(4,.ptr 1 1 0 0),(6,.ptr 2 1 0 0)],[rN 78 5 nl es,r1 78 5 (Hy a0 a1 a2 fa pa ac),r1 78 5 b])
theorem qN(n k n2 k2:Nat)(len i:Int)(nl:Bool)(es:List PV)(a0 a1 a2:Int)(fa:Bool)(pa:List PV)(ac b0 b1 b2:Int)(fb:Bool)(pb:List PV)(bc:Int):
 Dc Try.prog zV 60 58 (Dh Try.f58 3) [0,1,4,6,9,10,11] [0,4,6] (Yc.put (lN n k n2 k2 len i nl es a0 a1 a2 fa pa ac b0 b1 b2 fb pb bc)).1 (Yc.put (lN n k n2 k2 len i nl es a0 a1 a2 fa pa ac b0 b1 b2 fb pb bc)).2 =
 bif decide (i<len) then Sj es n2 k2 i (HV es n2 (bif i==0 then some (.normal,Yc.put (lN n k n2 k2 len (W (i+1)) nl es a0 a1 a2 fa pa ac (gX (rE es i)) (gY (rE es i)) (gL (rE es i)) false (rP (rE es i)) (rC (rE es i)))) else
  bif decide ((rP (rE es i)).length<=1000000) then bif decide (Vb (rC (rE es i)) (rP (rE es i)) bc pb<0) then some (.normal,Yc.put (lN n k n2 k2 len (W (i+1)) nl es a0 a1 a2 fa pa ac (gX (rE es i)) (gY (rE es i)) (gL (rE es i)) false (rP (rE es i)) (rC (rE es i))))
   else some (.normal,Yc.put (lN n k n2 k2 len (W (i+1)) nl es a0 a1 a2 fa pa ac b0 b1 b2 fb pb bc)) else none)) else some (xN n k nl es a0 a1 a2 fa pa ac (Hy b0 b1 b2 fb pb bc)):=by kernel_rfl
def Kb(e:PV):Bool:=decide ((rP e).length<=1000000)
def pN:LS->Bool
 |([.n n,.n k,.n n2,.n k2,.i len,.i i],[.l _ es,.i _,.i _,.i _,.l _ _,.i _,.i _,.i _,.i _,.l _ _,.i _])=>
  decide (n=es.length)&&decide (n2=es.length)&&decide (k2=k)&&decide (k<=es.length)&&decide (len=(k:Int))&&decide (0<=i)&&decide (i<=len)&&decide (k<=1000000)&&(es.take k).all Kb
 |_=>false
noncomputable def fN:LS->DT (PX×List PV×List Row)
 |([.n n,.n k,.n _,.n _,.i _,.i i],[.l nl es,.i a0,.i a1,.i a2,.l fa pa,.i ac,.i b0,.i b1,.i b2,.l fb pb,.i bc])=>.leaf (xN n k nl es a0 a1 a2 fa pa ac (dW (i==0) (Hy b0 b1 b2 fb pb bc) ((es.take k).drop i.toNat)))
 |_=>.no
def mN:LS->Nat
 |([.n _,.n _,.n _,.n _,.i len,.i i],_)=>(len-i).toNat
 |_=>0
theorem Ue{es:List PV}{k:Nat}{i:Int}(h0:0<=i)(h:i<(k:Int))(_:k<=es.length):(es.take k).getD i.toNat .any=es.getD i.toNat .any:=by
 rw[Ay,Ay,Aw,Ak (by omega)]
theorem sN:∀ s r,pN s=true->(fN s).run=some r->r.1≠.normal/\(Dc Try.prog zV 60 58 (Dh Try.f58 3) [0,1,4,6,9,10,11] [0,4,6] (Yc.put s).1 (Yc.put s).2=some r \/
   ∃ s',Dc Try.prog zV 60 58 (Dh Try.f58 3) [0,1,4,6,9,10,11] [0,4,6] (Yc.put s).1 (Yc.put s).2=some (.normal,Yc.put s')/\pN s'=true/\mN s'<mN s/\(fN s').run=some r):=by
 intro t r hp hr;unfold pN at hp;split at hp
 ·rename_i n k n2 k2 len i nl es a0 a1 a2 fa pa ac b0 b1 b2 fb pb bc;simp only[Aa,Ab]at hp;obtain⟨⟨⟨⟨⟨⟨⟨⟨rfl,rfl⟩,rfl⟩,h4⟩,rfl⟩,h6⟩,h7⟩,h8⟩,h9⟩:=hp;have hr':=(Ah hr).symm;refine⟨by rw[hr'];simp,?_⟩;rw[show Yc.put ([.n es.length,.n k2,.n es.length,.n k2,.i (k2:Int),.i i],[.l nl es,.i a0,.i a1,.i a2,.l fa pa,.i ac,.i b0,.i b1,.i b2,.l fb pb,.i bc])=Yc.put (lN es.length k2 es.length k2 k2 i nl es a0 a1 a2 fa pa ac b0 b1 b2 fb pb bc) from rfl,qN];have htl:(es.take k2).length=k2:=by rw[Az];omega
  by_cases hi:i<(k2:Int)
  ·have hsh:(rP (rE es i)).length<=1000000:=by
    have hm:(es.take k2).getD i.toNat .any∈es.take k2:=J9 h6 (by rw[htl];exact hi);have:=Ao.1 h9 _ hm;rw[Ue h6 hi h4]at this;rw[QO];exact AO this
   rw[Ac hi,Aj,FD rfl h6 hi,DK rfl,Ac hsh,Dx (by omega) (by omega)];have hi1:(i+1==0)=false:=by rw[AM];omega
   have hd:(es.take k2).drop i.toNat=rE es i::(es.take k2).drop (i+1).toNat:=by
    have:=Dt (es:=es.take k2) h6 (by rw[htl];exact hi);rw[Ue h6 hi h4]at this;rw[this,QO]
   rw[hd]at hr';have go:∀ e0 e1 e2 ef ep ec,Hy e0 e1 e2 ef ep ec=(bif i==0 then HG (rE es i) else bif xn (rE es i) (Hy b0 b1 b2 fb pb bc) then HG (rE es i) else Hy b0 b1 b2 fb pb bc) ->
     ∃ s',(some (PX.normal,Yc.put (lN es.length k2 es.length k2 k2 (i+1) nl es a0 a1 a2 fa pa ac e0 e1 e2 ef ep ec)):Option (PX×List PV×List Row))=some (.normal,Yc.put s')/\pN s'=true/\mN s'<mN (lN es.length k2 es.length k2 k2 i nl es a0 a1 a2 fa pa ac b0 b1 b2 fb pb bc)/\(fN s').run=some r:=fun e0 e1 e2 ef ep ec hc=>by
    refine⟨lN es.length k2 es.length k2 k2 (i+1) nl es a0 a1 a2 fa pa ac e0 e1 e2 ef ep ec,rfl,by simp only[pN,Aa,Ab];exact⟨⟨⟨⟨⟨⟨⟨⟨trivial,trivial⟩,trivial⟩,h4⟩,trivial⟩,by omega⟩,by omega⟩,h8⟩,h9⟩,by simp only[mN];omega,?_⟩;rw[hr'];simp only[dW,fN,hi1];rw[<- hc];rfl
   right
   cases c1:i==0 with
   |true=>rw[Aj];exact go _ _ _ _ _ _ (by rw[c1];rfl)
   |false=>
    rw[Ap,Aj];cases c2:decide (Vb (rC (rE es i)) (rP (rE es i)) bc pb<0) with
    |true=>rw[Aj];exact go _ _ _ _ _ _ (by rw[c1,show xn (rE es i) (Hy b0 b1 b2 fb pb bc)=true from c2];rfl)
    |false=>rw[Ap];exact go _ _ _ _ _ _ (by rw[c1,show xn (rE es i) (Hy b0 b1 b2 fb pb bc)=false from c2];rfl)
  ·rw[Ai hi];rw[AB (by rw[htl];omega)]at hr';exact .inl (by rw[hr'];rfl)
 ·cases hp
noncomputable def R49:C9:=zV.Kr Try.prog [false,true,true] 58 3 [0,1,4,6,9,10,11] [false,true,true] Yc pN fN
theorem jf:C4 Try.prog R49.env:=
 zX.Kr (n:=60) Try.func58 (show Try.f58.body=some (D3 Try.f58) by kernel_rfl) (show(loops (D3 Try.f58)).filter (fun b=>Ev b==3)=[Dh Try.f58 3] by kernel_rfl) [false,true,true] [0,1,4,6,9,10,11] [0,4,6] [false,true,true] Yc mN sN
theorem qLs(n k:Nat)(nl:Bool)(es:List PV):Kz Try.prog R49 60 58 [.sl 0 n 0 k,.fn (.func 59) [] []] [rN 78 5 nl es] =
 bif pN (lN n k n k k 0 nl es 0 0 0 false [] 0 0 0 0 false [] 0) then some (.D8 [HG (dW true (Hy 0 0 0 false [] 0) ((es.take k).drop (0:Int).toNat)),bv (decide ((k:Int) > 0))],[rN 78 5 nl es]) else none:=by kernel_rfl
def cLs:List PV->List Row->Option (DT (PV×List Row))
 | [.sl 0 n 0 k,.fn (.func 59) [] []],[⟨es,5,78,true,true,nl,none,false⟩]=>
  some (.br (decide (n=es.length)&&decide (k<=es.length)&&decide (k<=1000000)&&(es.take k).all Kb) (.leaf (.D8 [HG (dW true (Hy 0 0 0 false [] 0) (es.take k)),bv (decide ((k:Int) > 0))],[rN 78 5 nl es])) .no)
 |_,_=>none
theorem aai{n k:Nat}{nl:Bool}{es:List PV}(h:(decide (n=es.length)&&decide (k<=es.length)&&decide (k<=1000000)&&(es.take k).all Kb)=true):
  Kz Try.prog R49 60 58 [.sl 0 n 0 k,.fn (.func 59) [] []] [rN 78 5 nl es]=some (.D8 [HG (dW true (Hy 0 0 0 false [] 0) (es.take k)),bv (decide ((k:Int) > 0))],[rN 78 5 nl es]):=by
 simp only[Aa,Ab]at h;obtain⟨⟨⟨rfl,h2⟩,h3⟩,h4⟩:=h;rw[qLs,show pN (lN es.length k es.length k k 0 nl es 0 0 0 false [] 0 0 0 0 false [] 0)=true by simp only[pN,Aa,Ab];exact⟨⟨⟨⟨⟨⟨⟨⟨trivial,trivial⟩,trivial⟩,h2⟩,trivial⟩,by omega⟩,by omega⟩,h3⟩,h4⟩];rw[show(0:Int).toNat=0 from rfl,AH];rfl
theorem eLs:Hx.Df Try.prog 58:=(DP jf (aai (n:=0) (k:=0) (nl:=false) (es:=[]) rfl)).1
theorem oLs(args:List PV)(H:List Row)(d:DT (PV×List Row))(q:PV)(H':List Row)(h:cLs args H=some d)(hd:d.run=some (q,H')):Fh Try.prog 0 58 args H q H':=by
 unfold cLs at h;split at h
 ·cases h;obtain⟨hc,he⟩:=Gc hd;cases he;exact(DP jf (aai hc)).2
 ·cases h
noncomputable def R50:C9:=R49.Ff 58 cLs
theorem aak:C4 Try.prog R50.env:=jf.Ff eLs oLs
abbrev fnD(j:Nat):X1:=.fn 61 [] [.ptr j 1 0 0]
def OQ:S1:=⟨19,[(0,.sl 0),(1,fnD 1),(7,Dm),(8,Dm)],[.many 78 5,.Gx 78 5 aC]⟩
abbrev qv(n l:Nat)(len i:Int)(nl:Bool)(es:List PV)(x y z:Int)(rf:Bool)(rp:List PV)(rc:Int):LS:=([.n n,.n l,.i len,.i i],[.l nl es,.i x,.i y,.i z,.l rf rp,.i rc])
noncomputable abbrev hX2(nl:Bool)(es:List PV)(x y z:Int)(rf:Bool)(rp:List PV)(rc:Int):List Row:=(OQ.put (qv 0 0 0 0 nl es x y z rf rp rc)).2
noncomputable abbrev yX0(nl:Bool)(es:List PV)(x y z:Int)(rf:Bool)(rp:List PV)(rc:Int):PX×List PV×List Row:=(.exit 0,tm 19 [],hX2 nl es x y z rf rp rc)
noncomputable abbrev yX1(i:Int)(nl:Bool)(es:List PV)(x y z:Int)(rf:Bool)(rp:List PV)(rc:Int):PX×List PV×List Row:=(.ret,tm 19 [(4,iv i)],hX2 nl es x y z rf rp rc)
theorem qX2(n l:Nat)(len i:Int)(nl:Bool)(es:List PV)(x y z:Int)(rf:Bool)(rp:List PV)(rc:Int):Dc Try.prog R50 60 82 (Dh Try.f82 2) [0,1,7,8] [4] (OQ.put (qv n l len i nl es x y z rf rp rc)).1 (OQ.put (qv n l len i nl es x y z rf rp rc)).2 =
 bif decide (i<len) then Sj es n l i (HV es n (bif VO (rE es i) x y z then some (yX1 i nl es x y z rf rp rc) else some (.normal,OQ.put (qv n l len (W (i+1)) nl es x y z rf rp rc)))) else some (yX0 nl es x y z rf rp rc):=by kernel_rfl
abbrev IK(x y z:Int)(e:PV):Bool:=VO e x y z
def qw:LS->Bool
 |([.n n,.n l,.i len,.i i],[.l _ es,.i _,.i _,.i _,.l _ _,.i _])=>decide (n=es.length)&&decide (l<=es.length)&&decide (len=(l:Int))&&decide (0<=i)&&decide (i<=len)&&decide (es.length<=1000000)
 |_=>false
noncomputable def fX2:LS->DT (PX×List PV×List Row)
 |([.n _,.n _,.i len,.i i],[.l nl es,.i x,.i y,.i z,.l rf rp,.i rc])=>.br (I5 (IK x y z) es i (len-i).toNat) (.leaf (yX1 (FH (IK x y z) es i (len-i).toNat) nl es x y z rf rp rc)) (.leaf (yX0 nl es x y z rf rp rc))
 |_=>.no
def mX2:LS->Nat
 |([.n _,.n _,.i len,.i i],_)=>(len-i).toNat
 |_=>0
theorem sX2:∀ s r,qw s=true->(fX2 s).run=some r->r.1≠.normal/\(Dc Try.prog R50 60 82 (Dh Try.f82 2) [0,1,7,8] [4] (OQ.put s).1 (OQ.put s).2=some r \/
   ∃ s',Dc Try.prog R50 60 82 (Dh Try.f82 2) [0,1,7,8] [4] (OQ.put s).1 (OQ.put s).2=some (.normal,OQ.put s')/\qw s'=true/\mX2 s'<mX2 s/\(fX2 s').run=some r):=by
 intro t r hp hr;unfold qw at hp;split at hp
 ·rename_i n l len i nl es x y z rf rp rc;simp only[Aa,Ab]at hp;obtain⟨⟨⟨⟨⟨rfl,h2⟩,rfl⟩,h4⟩,h5⟩,h6⟩:=hp;have hr':=Gb hr;refine⟨by rw[hr'];cases I5 (IK x y z) es i ((l:Int)-i).toNat <;> simp,?_⟩;rw[show OQ.put ([.n es.length,.n l,.i (l:Int),.i i],[.l nl es,.i x,.i y,.i z,.l rf rp,.i rc])=OQ.put (qv es.length l (l:Int) i nl es x y z rf rp rc) from rfl,qX2];by_cases hi:i<(l:Int)
  ·rw[Ac hi,Aj,FD rfl h4 hi,DK rfl,Dx (by omega) (by omega)];obtain⟨m,hm⟩:∃ m,((l:Int)-i).toNat=m+1:=⟨((l:Int)-i).toNat-1,by omega⟩;have hm2:((l:Int)-(i+1)).toNat=m:=by omega
   rw[hm]at hr';simp only[I5,FH]at hr';cases c1:VO (rE es i) x y z with
   |true=>
    rw[show IK x y z (rE es i)=true from c1]at hr';exact .inl (by rw[hr'];rfl)
   |false=>
    rw[show IK x y z (rE es i)=false from c1]at hr';refine .inr ⟨qv es.length l (l:Int) (i+1) nl es x y z rf rp rc,rfl,by simp only[qw,Aa,Ab];exact⟨⟨⟨⟨⟨trivial,h2⟩,trivial⟩,by omega⟩,by omega⟩,h6⟩,by simp only[mX2];omega,?_⟩;rw[hr'];simp only[fX2,hm2,Bk,Ap];show _=some (bif I5 (IK x y z) es (i+1) m then _ else _)
    cases I5 (IK x y z) es (i+1) m <;> rfl
  ·rw[Ai hi];rw[show((l:Int)-i).toNat=0 by omega]at hr';exact .inl (by rw[hr'];rfl)
 ·cases hp
noncomputable def R51:C9:=R50.Dr 82 2 [0,1,7,8] [] OQ qw fX2
theorem aam:C4 Try.prog R51.env:=
 aak.Dr (n:=60) Try.func82 (show Try.f82.body=some (D3 Try.f82) by kernel_rfl) (show(loops (D3 Try.f82)).filter (fun b=>Ev b==2)=[Dh Try.f82 2] by kernel_rfl) [0,1,7,8] [4] [] OQ mX2 sX2
def OR:S1:=⟨42,[(0,.sl 0),(1,fnD 1),(5,Dm),(6,Dm)],[.many 78 5,.Gx 78 5 aC]⟩
abbrev nL(n l:Nat)(i j:Int)(nl:Bool)(es:List PV)(x y z:Int)(rf:Bool)(rp:List PV)(rc:Int):LS:=([.n n,.n l,.i i,.i j],[.l nl es,.i x,.i y,.i z,.l rf rp,.i rc])
noncomputable abbrev yY(n l:Nat)(i:Int)(nl:Bool)(es:List PV)(x y z:Int)(rf:Bool)(rp:List PV)(rc:Int):PX×List PV×List Row:=(.exit 0,tm 42 [(0,.sl 0 n 0 l),(5,iv i)],hX2 nl es x y z rf rp rc)
theorem qY2(n l:Nat)(i j:Int)(nl:Bool)(es:List PV)(x y z:Int)(rf:Bool)(rp:List PV)(rc:Int):Dc Try.prog R51 60 60 (Dh Try.f60 5) [0,1,5,6] [0,5] (OR.put (nL n l i j nl es x y z rf rp rc)).1 (OR.put (nL n l i j nl es x y z rf rp rc)).2 =
 bif decide (j<(l:Int)) then Sj es n l j (HV es n (bif !VO (rE es j) x y z then yK es n l i (some (.normal,OR.put (nL n l (W (i+1)) (W (j+1)) nl (es.set (0+i.toNat) (HG (rE es j))) x y z rf rp rc))) else some (.normal,OR.put (nL n l i (W (j+1)) nl es x y z rf rp rc)))) else some (yY n l i nl es x y z rf rp rc):=by kernel_rfl
def nM:LS->Bool
 |([.n n,.n l,.i i,.i j],[.l _ es,.i _,.i _,.i _,.l _ _,.i _])=>decide (n=es.length)&&decide (l<=es.length)&&decide (0<=i)&&decide (i<j)&&decide (j<=(l:Int))&&decide (es.length<=1000000)
 |_=>false
abbrev Uf(e:PV):PV:=HG e
noncomputable def fY2:LS->DT (PX×List PV×List Row)
 |([.n n,.n l,.i i,.i j],[.l nl es,.i x,.i y,.i z,.l rf rp,.i rc])=>.leaf (yY n l (HF (IK x y z) Uf es i j ((l:Int)-j).toNat).2 nl (HF (IK x y z) Uf es i j ((l:Int)-j).toNat).1 x y z rf rp rc)
 |_=>.no
def mY2:LS->Nat
 |([.n _,.n l,.i _,.i j],_)=>((l:Int)-j).toNat
 |_=>0
theorem sY2:∀ s r,nM s=true->(fY2 s).run=some r->r.1≠.normal/\(Dc Try.prog R51 60 60 (Dh Try.f60 5) [0,1,5,6] [0,5] (OR.put s).1 (OR.put s).2=some r \/
   ∃ s',Dc Try.prog R51 60 60 (Dh Try.f60 5) [0,1,5,6] [0,5] (OR.put s).1 (OR.put s).2=some (.normal,OR.put s')/\nM s'=true/\mY2 s'<mY2 s/\(fY2 s').run=some r):=by
 intro t r hp hr;unfold nM at hp;split at hp
 ·rename_i n l i j nl es x y z rf rp rc;simp only[Aa,Ab]at hp;obtain⟨⟨⟨⟨⟨rfl,h2⟩,h3⟩,h4⟩,h5⟩,h6⟩:=hp;have hr':=(Ah hr).symm;refine⟨by rw[hr'];simp,?_⟩;rw[show OR.put ([.n es.length,.n l,.i i,.i j],[.l nl es,.i x,.i y,.i z,.l rf rp,.i rc])=OR.put (nL es.length l i j nl es x y z rf rp rc) from rfl,qY2];by_cases hj:j<(l:Int)
  ·rw[Ac hj,Aj,FD rfl (by omega) hj,DK rfl,Dx (n:=j+1) (by omega) (by omega),Dx (n:=i+1) (by omega) (by omega),gP rfl h3 (by omega)];obtain⟨m,hm⟩:∃ m,((l:Int)-j).toNat=m+1:=⟨((l:Int)-j).toNat-1,by omega⟩;have hm2:((l:Int)-(j+1)).toNat=m:=by omega
   rw[hm]at hr';simp only[HF]at hr';right
   cases c1:VO (rE es j) x y z with
   |true=>
    rw[show IK x y z (rE es j)=true from c1]at hr';refine⟨nL es.length l i (j+1) nl es x y z rf rp rc,rfl,by simp only[nM,Aa,Ab];exact⟨⟨⟨⟨⟨trivial,h2⟩,h3⟩,by omega⟩,by omega⟩,h6⟩,by simp only[mY2];omega,?_⟩;rw[hr'];simp only[fY2,hm2,Aj];rfl
   |false=>
    rw[show IK x y z (rE es j)=false from c1]at hr';refine⟨nL es.length l (i+1) (j+1) nl (es.set (0+i.toNat) (HG (rE es j))) x y z rf rp rc,rfl,by
     simp only[nM,Aa,Ab,Bh];exact⟨⟨⟨⟨⟨trivial,h2⟩,by omega⟩,by omega⟩,by omega⟩,h6⟩,by simp only[mY2];omega,?_⟩
    rw[hr'];simp only[fY2,hm2,Ap];rfl
  ·rw[Ai hj];rw[show((l:Int)-j).toNat=0 by omega]at hr';exact .inl (by rw[hr'];rfl)
 ·cases hp
noncomputable def R52:C9:=R51.Dr 60 5 [0,1,5,6] [] OR nM fY2
theorem jg:C4 Try.prog R52.env:=
 aam.Dr (n:=60) Try.func60 (show Try.f60.body=some (D3 Try.f60) by kernel_rfl) (show(loops (D3 Try.f60)).filter (fun b=>Ev b==5)=[Dh Try.f60 5] by kernel_rfl) [0,1,5,6] [0,5] [] OR mY2 sY2
abbrev rX(x y z:Int)(rf:Bool)(rp:List PV)(rc:Int):Row:={ es:=[Hy x y z rf rp rc],s:=5,t:=78,bv:=false }
abbrev Ja:PV:=Hy 0 0 0 false [] 0
abbrev qx(es:List PV):Row:=rN 78 5 false es
def aap(n l:Nat)(D:List PV)(i:Int)(r:Row):Option (PV×List Row):=
 bif (D.length==n)&&true then bif decide (0<=i)&&decide (i<(l:Int))&&decide (i<=(l:Int))&&decide ((l:Int)<=(l:Int)) then bif D.length==n then
  bif ((Sl Ja D i l).length==n)&&true then bif decide (0<=i)&&decide (i<=(l:Int)) then some (.sl 0 n 0 i.toNat,[qx (Sl Ja D i l),r]) else none else none else none
  else (bif decide (i=(l:Int))&&decide ((l:Int)=(l:Int)) then none else none) else none
def vj(n l:Nat)(es:List PV)(x y z:Int)(rf:Bool)(rp:List PV)(rc:Int):Option (PV×List Row):=
 HV es n (bif qw (qv n l (l:Int) 0 false es x y z rf rp rc) then bif I5 (IK x y z) es 0 ((l:Int)-0).toNat then
  bif FH (IK x y z) es 0 ((l:Int)-0).toNat == -1 then some (.sl 0 n 0 l,[qx es,rX x y z rf rp rc]) else
   bif nM (nL n l (FH (IK x y z) es 0 ((l:Int)-0).toNat) (W (FH (IK x y z) es 0 ((l:Int)-0).toNat+1)) false es x y z rf rp rc) then
    aap n l (HF (IK x y z) Uf es (FH (IK x y z) es 0 ((l:Int)-0).toNat) (W (FH (IK x y z) es 0 ((l:Int)-0).toNat+1)) ((l:Int)-W (FH (IK x y z) es 0 ((l:Int)-0).toNat+1)).toNat).1
     (HF (IK x y z) Uf es (FH (IK x y z) es 0 ((l:Int)-0).toNat) (W (FH (IK x y z) es 0 ((l:Int)-0).toNat+1)) ((l:Int)-W (FH (IK x y z) es 0 ((l:Int)-0).toNat+1)).toNat).2 (rX x y z rf rp rc) else none
  else some (.sl 0 n 0 l,[qx es,rX x y z rf rp rc]) else none)
theorem qDf(n l:Nat)(es:List PV)(x y z:Int)(rf:Bool)(rp:List PV)(rc:Int):Kz Try.prog R52 60 60 [.sl 0 n 0 l,.fn (.func 61) [] [.ptr 1 1 0 0]] [qx es,rX x y z rf rp rc]=vj n l es x y z rf rp rc:=by kernel_rfl
theorem nN{n l:Nat}{es:List PV}{x y z:Int}{rf:Bool}{rp:List PV}{rc:Int}(hn:n=es.length)(hl:l<=es.length)(h:es.length<=1000000)(hN:Ei Uf es):
  vj n l es x y z rf rp rc=some (.sl 0 n 0 (Dg (IK x y z) (es.take l)).length,[qx (FZ (IK x y z) Ja es l),rX x y z rf rp rc]):=by
 subst hn;unfold vj;have hp:qw (qv es.length l (l:Int) 0 false es x y z rf rp rc)=true:=by simp only[qw,Aa,Ab];exact⟨⟨⟨⟨⟨trivial,hl⟩,trivial⟩,by omega⟩,by omega⟩,h⟩
 rw[DK rfl,hp,show((l:Int)-0).toNat=l by omega,Aj];cases ha:I5 (IK x y z) es 0 l with
 |false=>
  obtain⟨g1,g2⟩:=Xa hl ha Ja;rw[Ap,g1,g2,Az,show min l es.length=l by omega]
 |true=>
  obtain⟨g1,g2,g3,g4,g5,g6,g7,g8,g9⟩:=Xb hN hl ha Ja rfl rfl;generalize FH (IK x y z) es 0 l=u at *;have hw:W (u+1)=u+1:=Dx (by omega) (by omega);have hy:nM (nL es.length l u (u+1) false es x y z rf rp rc)=true:=by simp only[nM,Aa,Ab];exact⟨⟨⟨⟨⟨trivial,hl⟩,g1⟩,by omega⟩,by omega⟩,h⟩
  rw[hw,hy,Aj,Aj,show(u == -1)=false by rw[AM];omega,Ap];generalize HF (IK x y z) Uf es u (u+1) ((l:Int)-(u+1)).toNat=r at *;obtain⟨D,i⟩:=r;dsimp only at g3 g4 g5 g6 g7 g8 g9 ⊢;have hc:Sl Ja D i l=FZ (IK x y z) Ja es l:=by
   rw[<- g9];unfold Sl;rw[AN,show((l:Int)-i).toNat=l-i.toNat by omega,show i.toNat+(l-i.toNat)=l by omega]
  have hcl:(FZ (IK x y z) Ja es l).length=es.length:=IA hl;unfold aap;rw[hc,hcl,g6,AP,show(decide (0<=i)&&decide (i<(l:Int))&&decide (i<=(l:Int))&&decide ((l:Int)<=(l:Int)))=true by simp;omega,show(decide (0<=i)&&decide (i<=(l:Int)))=true by simp;omega,g5];rfl
noncomputable def cDf:List PV->List Row->Option (DT (PV×List Row))
 | [.sl 0 n 0 l,.fn (.func 61) [] [.ptr 1 1 0 0]],[⟨es,5,78,true,true,false,none,false⟩,⟨[.agg [.val (.int .i64 x),.val (.int .i64 y),.val (.int .i64 z),.Db rf 3 rp,.val (.int .i64 rc)]],5,78,false,true,false,none,false⟩]=>
  some (.br (decide (n=es.length)&&decide (l<=es.length)&&decide (es.length<=1000000)&&EL Uf es) (.leaf (.sl 0 n 0 (Dg (IK x y z) (es.take l)).length,[qx (FZ (IK x y z) Ja es l),rX x y z rf rp rc])) .no)
 |_,_=>none
theorem aaq{n l:Nat}{es:List PV}(x y z:Int)(rf:Bool)(rp:List PV)(rc:Int)(h:(decide (n=es.length)&&decide (l<=es.length)&&decide (es.length<=1000000)&&EL Uf es)=true):
  Kz Try.prog R52 60 60 [.sl 0 n 0 l,.fn (.func 61) [] [.ptr 1 1 0 0]] [qx es,rX x y z rf rp rc]=some (.sl 0 n 0 (Dg (IK x y z) (es.take l)).length,[qx (FZ (IK x y z) Ja es l),rX x y z rf rp rc]):=by
 simp only[Aa,Ab,DX]at h;rw[qDf,nN h.1.1.1 h.1.1.2 h.1.2 h.2]
theorem eDf:Hx.Df Try.prog 60:=(DP jg (aaq (n:=0) (l:=0) (es:=[]) 0 0 0 false [] 0 (by simp[DX,Ei]))).1
theorem oDf(args:List PV)(H:List Row)(d:DT (PV×List Row))(q:PV)(H':List Row)(h:cDf args H=some d)(hd:d.run=some (q,H')):Fh Try.prog 0 60 args H q H':=by
 unfold cDf at h;split at h
 ·rename_i n l es x y z rf rp rc;cases h;obtain⟨hc,he⟩:=Gc hd;cases he;exact(DP jg (aaq x y z rf rp rc hc)).2
 ·cases h
noncomputable def R53:C9:=R52.Ff 60 cDf
theorem aar:C4 Try.prog R53.env:=jg.Ff eDf oDf
noncomputable def xo:C9:=((((((((R53.Gf 62).Ez 33 22).J0 33 22).JY Try.prog 111).JZ Try.prog 38 101 104).GI 33 13 1001).GI 33 22 1001).MN Try.prog 32).GI 33 8 5
theorem aas:C4 Try.prog xo.env:=((((((((aar.Gf 62).Ez 33 22).J0 33 22).JY 111).JZ 38 101 104).GI 33 13 1001).GI 33 22 1001).MN 32).GI 33 8 5
abbrev MS(a b c x y z:Int):Bool:=((a==x)&&((b==y)&&true))&&((c==z)&&true)
abbrev bG(e:PV):Row:={ es:=[.agg [iv (cI e 0),iv (cI e 1),iv (cI e 2),iv (cI e 3),iv (cI e 4),iv (cI e 5)]],s:=6,t:=116,bv:=true }
abbrev Ug(rp:List PV)(wi:Int):List PV:=([]++rp).take (0+rp.length)++iv wi::([]++rp).drop (0+rp.length+1)
abbrev jh(rp:List PV)(wi:Int):List PV:=(Ug rp wi).take (0+rp.length+1)
abbrev vk(rp:List PV)(wi:Int):Bool:=((([]++rp).length==0+rp.length)&&(decide (0+rp.length<=0+rp.length)&&decide ((0+rp.length+1)*8<=140737488355328)))&&((Ug rp wi).length==max (0+rp.length) (0+rp.length+1))
abbrev vl(e:PV)(ps:List PV)(c:Int):PV:=Hy (cI e 3) (cI e 4) (cI e 5) false ps c
def nO(es:List PV)(k:Nat)(z:PV):List PV:=es.take k++z::es.drop (k+1)
theorem N2{es:List PV}{k:Nat}{z:PV}(h:k<=es.length):(nO es k z).length=max es.length (k+1):=by
 unfold nO;simp only[Ar,As,Az,BL];omega
theorem ji{es:List PV}{k:Nat}{z:PV}(h:k<=es.length):(nO es k z).take (k+1)=es.take k++[z]:=by
 unfold nO;have:(es.take k).length=k:=by rw[Az];omega
 rw[List.take_append,this,A7 (by omega),show k+1-k=1 by omega];rfl
def jk(e:PV)(x y z:Int)(D:List (PV×PV)):Bool:=MS (cI e 0) (cI e 1) (cI e 2) x y z && !EN D (DU (cI e 3) (cI e 4) (cI e 5))
def JE(x y z:Int)(D:List (PV×PV))(ps:List PV)(c:Int)(s:List PV×Nat)(e:PV):List PV×Nat:=bif jk e x y z D then (nO s.1 s.2 (vl e ps c),s.2+1) else s
def HH(x y z:Int)(D:List (PV×PV))(ps:List PV)(c:Int)(s:List PV×Nat)(l:List PV):List PV×Nat:=l.foldl (JE x y z D ps c) s
theorem XC(rp:List PV)(wi:Int):jh rp wi=rp++[iv wi]:=by
 have h1:Ug rp wi=rp++[iv wi]:=by
  show List.take _ _++_=_
  rw[Bc,AN,Bi,AB (by omega)]
 show List.take _ (Ug rp wi)=_
 rw[h1];exact A7 (by simp)
theorem bH{rp:List PV}{wi:Int}(h:rp.length<=1000000):vk rp wi=true:=by
 have h1:Ug rp wi=rp++[iv wi]:=by
  show List.take _ _++_=_
  rw[Bc,AN,Bi,AB (by omega)]
 show((([]++rp).length==0+rp.length)&&(decide (0+rp.length<=0+rp.length)&&decide ((0+rp.length+1)*8<=140737488355328))&&((Ug rp wi).length==max (0+rp.length) (0+rp.length+1)))=true
 rw[h1];simp only[Bc,Ar,As,AC,Aa,Av,Ab];omega
theorem Kc{x y z:Int}{D:List (PV×PV)}{ps:List PV}{c:Int}{s:List PV×Nat}{e:PV}(h:s.2<=s.1.length):(JE x y z D ps c s e).2<=(JE x y z D ps c s e).1.length/\(JE x y z D ps c s e).1.length<=s.1.length+1/\s.1.length<=(JE x y z D ps c s e).1.length:=by
 unfold JE;cases jk e x y z D with
 |false=>exact⟨h,by show s.1.length<=_;omega,Al _⟩
 |true=>
  show s.2+1<=(nO s.1 s.2 _).length/\(nO s.1 s.2 _).length<=s.1.length+1/\s.1.length<=(nO s.1 s.2 _).length
  rw[N2 h];omega
abbrev jl(a b:PV):PV:=.agg [iv (gX a),iv (gY a),iv (gL a),iv (gX b),iv (gY b),iv (gL b)]
abbrev Tb(e:PV):List PV:=[jl (eF e) (eL e),jl (eL e) (eF e)]
def IN(x y z:Int)(D:List (PV×PV))(ps:List PV)(rc:Int)(s:List PV×Nat)(e:PV):List PV×Nat:=HH x y z D (ps++[iv (wI e)]) (rc+Du (wL e)) s (Tb e)
def DS(x y z:Int)(D:List (PV×PV))(ps:List PV)(rc:Int)(s:List PV×Nat)(l:List PV):List PV×Nat:=l.foldl (IN x y z D ps rc) s
theorem Jv{x y z:Int}{D:List (PV×PV)}{ps:List PV}{rc:Int}{s:List PV×Nat}{e:PV}(h:s.2<=s.1.length):(IN x y z D ps rc s e).2<=(IN x y z D ps rc s e).1.length/\(IN x y z D ps rc s e).1.length<=s.1.length+2/\s.1.length<=(IN x y z D ps rc s e).1.length:=by
 show(JE x y z D _ _ (JE x y z D _ _ s _) _).2<=(JE x y z D _ _ (JE x y z D _ _ s _) _).1.length/\(JE x y z D _ _ (JE x y z D _ _ s _) _).1.length<=_/\_<=(JE x y z D _ _ (JE x y z D _ _ s _) _).1.length
 obtain⟨a1,a2,a3⟩:=Kc (x:=x) (y:=y) (z:=z) (D:=D) (ps:=ps++[iv (wI e)]) (c:=rc+Du (wL e)) (s:=s) (e:=jl (eF e) (eL e)) h;obtain⟨b1,b2,b3⟩:=Kc (x:=x) (y:=y) (z:=z) (D:=D) (ps:=ps++[iv (wI e)]) (c:=rc+Du (wL e)) (s:=JE x y z D (ps++[iv (wI e)]) (rc+Du (wL e)) s (jl (eF e) (eL e))) (e:=jl (eL e) (eF e)) a1;exact⟨b1,by omega,by omega⟩
def G9(e:PV):Bool:=!((wL e).length==0)&&decide ((wL e).length<=1000)
abbrev Dp(es:List PV)(k:Nat):PV:=dW true (Hy 0 0 0 false [] 0) (es.take k)
abbrev MT(es:List PV)(k:Nat):List PV:=Dg (IK (gX (Dp es k)) (gY (Dp es k)) (gL (Dp es k))) (es.take k)
abbrev N3(es:List PV)(k:Nat):List PV:=FZ (IK (gX (Dp es k)) (gY (Dp es k)) (gL (Dp es k))) Ja es k
abbrev OT(us:List PV)(D:List (PV×PV))(es:List PV)(k:Nat):List PV×Nat:=
 DS (gX (Dp es k)) (gY (Dp es k)) (gL (Dp es k)) (EV D (DU (gX (Dp es k)) (gY (Dp es k)) (gL (Dp es k))) (HG (Dp es k))) (rP (Dp es k)) (rC (Dp es k)) (N3 es k,(MT es k).length) (us.drop (0:Int).toNat)
def Fm:S1:=⟨116,[(4,.ptr 2 1 0 0),(7,.Db 49),(8,.mp 4),(9,.sl 5),(10,.ptr 6 1 0 0),(15,.ptr 8 1 0 0),(57,.Db 49),(58,Dm),(59,Dm),(74,.sl 11),(75,Dm),(76,Dm)],
 [.one 30 3 aS,.one 30 3 aS,.one 30 3 aS,.map 30 4,.map 30 78,.many 78 5,.Gx 78 5 (.agg [Dm,Dm,Dm,.nil,Dm]),.dead,.Gx 49 8 aW,.one 30 3 aS,.one 30 3 aS,.many 116 6]⟩
abbrev Jw(f:Bool)(us:List PV)(n k:Nat)(f2:Bool)(us2:List PV)(len i:Int)(n2 k2:Nat)(l2 j p0 p1 p2:Int)(q0 q1 q2:Int)(s0 s1 s2:Int)(D0 D:List (PV×PV))(nl:Bool)(es:List PV)(x y z:Int)(rc:Int)
 (wi:Int) (wf:Bool) (wl:List PV) (lv:Int) (cs nm:ByteArray) (st:Bool) (wt ds a0 a1 a2 b0 b1 b2:Int) (nl2:Bool) (ab:List PV):LS:=
 ([.l f us,.n n,.n k,.l f2 us2,.i len,.i i,.n n2,.n k2,.i l2,.i j],[.i p0,.i p1,.i p2,.i q0,.i q1,.i q2,.i s0,.i s1,.i s2,.m D0,.m D,.l nl es,.i x,.i y,.i z,.i rc,
  .i wi,.l wf wl,.i lv,.s cs,.s nm,.b st,.i wt,.i ds,.i a0,.i a1,.i a2,.i b0,.i b1,.i b2,.l nl2 ab])
noncomputable abbrev qy(f:Bool)(us:List PV)(n k:Nat)(f2:Bool)(us2:List PV)(len i p0 p1 p2:Int)(q0 q1 q2:Int)(s0 s1 s2:Int)(D0 D:List (PV×PV))(nl:Bool)(es:List PV)(x y z:Int)(rc:Int)
 (wi:Int) (wf:Bool) (wl:List PV) (lv:Int) (cs nm:ByteArray) (st:Bool) (wt ds a0 a1 a2 b0 b1 b2:Int) (nl2:Bool) (ab:List PV):PX×List PV×List Row:=
 (.exit 4,tm 116 [(4,.ptr 2 1 0 0),(7,.Db f 49 us),(8,.mp 4),(9,.sl 5 n 0 k),(10,.ptr 6 1 0 0),(57,.Db f2 49 us2),(58,iv len),(59,iv i)],
  (Fm.put (Jw f us n k f2 us2 len i 0 0 0 0 p0 p1 p2 q0 q1 q2 s0 s1 s2 D0 D nl es x y z rc wi wf wl lv cs nm st wt ds a0 a1 a2 b0 b1 b2 nl2 ab)).2)
noncomputable abbrev qz(p0 p1 p2:Int)(q0 q1 q2:Int)(s0 s1 s2:Int)(D0 D:List (PV×PV))(nl:Bool)(es:List PV)(x y z:Int)(rc:Int)
 (wi:Int) (wf:Bool) (wl:List PV) (lv:Int) (cs nm:ByteArray) (st:Bool) (wt ds a0 a1 a2 b0 b1 b2:Int) (nl2:Bool) (ab:List PV) (j:Int):List Row:=
 (Fm.put (Jw false [] 0 0 false [] 0 0 0 0 0 0 p0 p1 p2 q0 q1 q2 s0 s1 s2 D0 D nl es x y z rc wi wf wl lv cs nm st wt ds a0 a1 a2 b0 b1 b2 nl2 ab)).2++[bG (rE ab j),Dy]
theorem qA(f:Bool)(us:List PV)(n k:Nat)(f2:Bool)(us2:List PV)(len i:Int)(n2 k2:Nat)(l2 j p0 p1 p2:Int)(q0 q1 q2:Int)(s0 s1 s2:Int)(D0 D:List (PV×PV))(es:List PV)(x y z:Int)(rc:Int)
 (wi:Int) (wf:Bool) (wl:List PV) (lv:Int) (cs nm:ByteArray) (st:Bool) (wt ds a0 a1 a2 b0 b1 b2:Int) (nl2:Bool) (ab:List PV):
 Dc Try.prog xo 60 33 (Dh Try.f33 18) [4,7,8,9,10,15,57,58,59,74,75,76] [4,7,8,9,10,57,58,59] (Fm.put (Jw f us n k f2 us2 len i n2 k2 l2 j p0 p1 p2 q0 q1 q2 s0 s1 s2 D0 D false es x y z rc wi wf wl lv cs nm st wt ds a0 a1 a2 b0 b1 b2 nl2 ab)).1 (Fm.put (Jw f us n k f2 us2 len i n2 k2 l2 j p0 p1 p2 q0 q1 q2 s0 s1 s2 D0 D false es x y z rc wi wf wl lv cs nm st wt ds a0 a1 a2 b0 b1 b2 nl2 ab)).2 =
 bif decide (j<l2) then Sj ab n2 k2 j (HV ab n2 (bif MS (cI (rE ab j) 0) (cI (rE ab j) 1) (cI (rE ab j) 2) x y z then bif !EN D (DU (cI (rE ab j) 3) (cI (rE ab j) 4) (cI (rE ab j) 5)) then
  bif Hp (qz p0 p1 p2 q0 q1 q2 s0 s1 s2 D0 D false es x y z rc wi wf wl lv cs nm st wt ds a0 a1 a2 b0 b1 b2 nl2 ab j) (qz p0 p1 p2 q0 q1 q2 s0 s1 s2 D0 D false es x y z rc wi wf wl lv cs nm st wt ds a0 a1 a2 b0 b1 b2 nl2 ab j) then
  bif decide (wl.length<=100000) then bif (es.length==n)&&(decide (k<=n)&&decide ((n+1)*56<=140737488355328)) then
   some (.normal,Fm.put (Jw f us (max n (k+1)) (k+1) f2 us2 len i n2 k2 l2 (W (j+1)) p0 p1 p2 q0 q1 q2 s0 s1 s2 D0 D false (es.take k++Hy (cI (rE ab j) 3) (cI (rE ab j) 4) (cI (rE ab j) 5) false [iv wi] (W (rc+Du wl))::es.drop (k+1)) x y z rc wi wf wl lv cs nm st wt ds a0 a1 a2 b0 b1 b2 nl2 ab))
  else none else none else none
  else some (.normal,Fm.put (Jw f us n k f2 us2 len i n2 k2 l2 (W (j+1)) p0 p1 p2 q0 q1 q2 s0 s1 s2 D0 D false es x y z rc wi wf wl lv cs nm st wt ds a0 a1 a2 b0 b1 b2 nl2 ab))
  else some (.normal,Fm.put (Jw f us n k f2 us2 len i n2 k2 l2 (W (j+1)) p0 p1 p2 q0 q1 q2 s0 s1 s2 D0 D false es x y z rc wi wf wl lv cs nm st wt ds a0 a1 a2 b0 b1 b2 nl2 ab))))
 else some (qy f us n k f2 us2 len i p0 p1 p2 q0 q1 q2 s0 s1 s2 D0 D false es x y z rc wi wf wl lv cs nm st wt ds a0 a1 a2 b0 b1 b2 nl2 ab):=by kernel_rfl
theorem vm(f:Bool)(us:List PV)(k:Nat)(f2:Bool)(us2:List PV)(len i j p0 p1 p2:Int)(q0 q1 q2:Int)(s0 s1 s2:Int)(D0 D:List (PV×PV))(es:List PV)(x y z:Int)(rc:Int)
 (wi:Int) (wf:Bool) (wl:List PV) (lv:Int) (cs nm:ByteArray) (st:Bool) (wt ds a0 a1 a2 b0 b1 b2:Int) (nl2:Bool) (ab:List PV) (hj:0<=j) (hj2:j<(ab.length:Int)) (hab:ab.length<=2) (hk:k<=es.length) (hes:es.length<=600000) (hwl:wl.length<=1000) (hrc:0<=rc) (hrc2:rc<=1000000000000000000):
 Dc Try.prog xo 60 33 (Dh Try.f33 18) [4,7,8,9,10,15,57,58,59,74,75,76] [4,7,8,9,10,57,58,59] (Fm.put (Jw f us es.length k f2 us2 len i ab.length ab.length ab.length j p0 p1 p2 q0 q1 q2 s0 s1 s2 D0 D false es x y z rc wi wf wl lv cs nm st wt ds a0 a1 a2 b0 b1 b2 nl2 ab)).1 (Fm.put (Jw f us es.length k f2 us2 len i ab.length ab.length ab.length j p0 p1 p2 q0 q1 q2 s0 s1 s2 D0 D false es x y z rc wi wf wl lv cs nm st wt ds a0 a1 a2 b0 b1 b2 nl2 ab)).2 =
 some (.normal,Fm.put (Jw f us (JE x y z D ([]++[iv wi]) (rc+Du wl) (es,k) (aE ab j)).1.length (JE x y z D ([]++[iv wi]) (rc+Du wl) (es,k) (aE ab j)).2 f2 us2 len i ab.length ab.length ab.length (j+1) p0 p1 p2 q0 q1 q2 s0 s1 s2 D0 D false (JE x y z D ([]++[iv wi]) (rc+Du wl) (es,k) (aE ab j)).1 x y z rc wi wf wl lv cs nm st wt ds a0 a1 a2 b0 b1 b2 nl2 ab)):=by
 obtain⟨w1,w2⟩:=F9 hwl;rw[qA,Ac hj2,Aj,FD rfl hj hj2,DK rfl,Dx (n:=j+1) (by omega) (by omega),Dx (n:=rc+Du wl) (by omega) (by omega),ON,E5,
  Ac (show wl.length<=100000 by omega),show((es.length==es.length)&&(decide (k<=es.length)&&decide ((es.length+1)*56<=140737488355328)))=true by simp only[AP,BW,Aa,Ab];omega]
 simp only[Aj];unfold JE jk;cases h1:MS (cI (aE ab j) 0) (cI (aE ab j) 1) (cI (aE ab j) 2) x y z with
 |false=>rfl
 |true=>
  cases h2:EN D (DU (cI (aE ab j) 3) (cI (aE ab j) 4) (cI (aE ab j) 5)) with
  |true=>rfl
  |false=>
   have e1:=N2 (z:=vl (aE ab j) ([]++[iv wi]) (rc+Du wl)) hk;simp only[Aj,BT,A_,e1];rfl
def PI:LS->Bool
 |([.l _ _,.n n,.n k,.l _ _,.i _,.i _,.n n2,.n k2,.i l2,.i j],[.i _,.i _,.i _,.i _,.i _,.i _,.i _,.i _,.i _,.m _,.m _,.l nl es,.i _,.i _,.i _,.i rc,
  .i _,.l _ wl,.i _,.s _,.s _,.b _,.i _,.i _,.i _,.i _,.i _,.i _,.i _,.i _,.l _ ab])=>
  decide (n=es.length)&&decide (k<=es.length)&&decide (n2=ab.length)&&decide (k2=ab.length)&&decide (l2=(ab.length:Int))&&decide (0<=j)&&decide (j<=(ab.length:Int))&&decide (ab.length<=2)&&decide ((es.length:Int)<=500000+j)&&decide (wl.length<=1000)&&decide (0<=rc)&&decide (rc<=1000000000000000000) && !nl
 |_=>false
noncomputable def jm:LS->DT (PX×List PV×List Row)
 |([.l f us,.n _,.n k,.l f2 us2,.i len,.i i,.n _,.n _,.i _,.i j],[.i p0,.i p1,.i p2,.i q0,.i q1,.i q2,.i s0,.i s1,.i s2,.m D0,.m D,.l _ es,.i x,.i y,.i z,.i rc,
  .i wi,.l wf wl,.i lv,.s cs,.s nm,.b st,.i wt,.i ds,.i a0,.i a1,.i a2,.i b0,.i b1,.i b2,.l nl2 ab])=>
  .leaf (qy f us (HH x y z D ([]++[iv wi]) (rc+Du wl) (es,k) (ab.drop j.toNat)).1.length (HH x y z D ([]++[iv wi]) (rc+Du wl) (es,k) (ab.drop j.toNat)).2 f2 us2 len i p0 p1 p2 q0 q1 q2 s0 s1 s2 D0 D false (HH x y z D ([]++[iv wi]) (rc+Du wl) (es,k) (ab.drop j.toNat)).1 x y z rc wi wf wl lv cs nm st wt ds a0 a1 a2 b0 b1 b2 nl2 ab)
 |_=>.no
def bJ:LS->Nat
 |([.l _ _,.n _,.n _,.l _ _,.i _,.i _,.n _,.n _,.i l2,.i j],_)=>(l2-j).toNat
 |_=>0
theorem aat:∀ s r,PI s=true->(jm s).run=some r->r.1≠.normal/\(Dc Try.prog xo 60 33 (Dh Try.f33 18) [4,7,8,9,10,15,57,58,59,74,75,76] [4,7,8,9,10,57,58,59] (Fm.put s).1 (Fm.put s).2=some r \/
   ∃ s',Dc Try.prog xo 60 33 (Dh Try.f33 18) [4,7,8,9,10,15,57,58,59,74,75,76] [4,7,8,9,10,57,58,59] (Fm.put s).1 (Fm.put s).2=some (.normal,Fm.put s')/\PI s'=true/\bJ s'<bJ s/\(jm s').run=some r):=by
 intro t r hp hr;unfold PI at hp;split at hp
 ·rename_i f us n k f2 us2 len i n2 k2 l2 j p0 p1 p2 q0 q1 q2 s0 s1 s2 D0 D nl es x y z rc wi wf wl lv cs nm st wt ds a0 a1 a2 b0 b1 b2 nl2 ab;simp only[Aa,Ab,Am]at hp;obtain⟨⟨⟨⟨⟨⟨⟨⟨⟨⟨⟨⟨rfl,h2⟩,rfl⟩,rfl⟩,rfl⟩,h6⟩,h7⟩,h8⟩,h9⟩,h10⟩,h11⟩,h12⟩,rfl⟩:=hp;have hr':=(Ah hr).symm;refine⟨by rw[hr'];simp,?_⟩;rw[show Fm.put ([.l f us,.n es.length,.n k,.l f2 us2,.i len,.i i,.n ab.length,.n ab.length,.i (ab.length:Int),.i j],[.i p0,.i p1,.i p2,.i q0,.i q1,.i q2,.i s0,.i s1,.i s2,.m D0,.m D,.l false es,.i x,.i y,.i z,.i rc,
   .i wi,.l wf wl,.i lv,.s cs,.s nm,.b st,.i wt,.i ds,.i a0,.i a1,.i a2,.i b0,.i b1,.i b2,.l nl2 ab])=Fm.put (Jw f us es.length k f2 us2 len i ab.length ab.length ab.length j p0 p1 p2 q0 q1 q2 s0 s1 s2 D0 D false es x y z rc wi wf wl lv cs nm st wt ds a0 a1 a2 b0 b1 b2 nl2 ab) from rfl]
  by_cases hi:j<(ab.length:Int)
  ·rw[vm (hj:=h6) (hj2:=hi) (hab:=h8) (hk:=h2) (hes:=by omega) (hwl:=h10) (hrc:=h11) (hrc2:=h12)];obtain⟨g1,g2,g3⟩:=Kc (x:=x) (y:=y) (z:=z) (D:=D) (ps:=[]++[iv wi]) (c:=rc+Du wl) (s:=(es,k)) (e:=aE ab j) h2;simp only at g1 g2 g3;refine .inr ⟨_,rfl,?_,?_,?_⟩
   ·simp only[PI,Aa,Ab,Am];exact⟨⟨⟨⟨⟨⟨⟨⟨⟨⟨⟨⟨trivial,g1⟩,trivial⟩,trivial⟩,trivial⟩,by omega⟩,by omega⟩,h8⟩,by omega⟩,h10⟩,h11⟩,h12⟩,trivial⟩
   ·simp only[bJ];omega
   ·rw[hr',Dt h6 hi];rfl
  ·rw[qA,Ai hi];rw[AB (by omega)]at hr';exact .inl (by rw[hr'];rfl)
 ·cases hp
noncomputable def R55:C9:=xo.Dr 33 18 [4,7,8,9,10,15,57,58,59,74,75,76] [false,false,false,false,false,false,false,false,true,true,true,false] Fm PI jm
theorem aav:C4 Try.prog R55.env:=
 aas.Dr (n:=60) Try.func33 (show Try.f33.body=some (D3 Try.f33) by kernel_rfl) (show(loops (D3 Try.f33)).filter (fun b=>Ev b==18)=[Dh Try.f33 18] by kernel_rfl) [4,7,8,9,10,15,57,58,59,74,75,76] [4,7,8,9,10,57,58,59] [false,false,false,false,false,false,false,false,true,true,true,false] Fm bJ aat
def Ha:S1:=⟨116,[(4,.ptr 2 1 0 0),(7,.Db 49),(8,.mp 4),(9,.sl 5),(10,.ptr 6 1 0 0),(57,.Db 49),(58,Dm),(59,Dm)],
 [.one 30 3 aS,.one 30 3 aS,.one 30 3 aS,.map 30 4,.map 30 78,.many 78 5,.Gx 78 5 (.agg [Dm,Dm,Dm,.nil,Dm]),.dead]⟩
abbrev PJ(f:Bool)(us:List PV)(n k:Nat)(f2:Bool)(us2:List PV)(len i p0 p1 p2:Int)(q0 q1 q2:Int)(s0 s1 s2:Int)(D0 D:List (PV×PV))(nl:Bool)(es:List PV)(x y z:Int)(rc:Int):LS:=
 ([.l f us,.n n,.n k,.l f2 us2,.i len,.i i],[.i p0,.i p1,.i p2,.i q0,.i q1,.i q2,.i s0,.i s1,.i s2,.m D0,.m D,.l nl es,.i x,.i y,.i z,.i rc])
noncomputable abbrev qC(f:Bool)(us:List PV)(n k:Nat)(p0 p1 p2:Int)(q0 q1 q2:Int)(s0 s1 s2:Int)(D0 D:List (PV×PV))(nl:Bool)(es:List PV)(x y z:Int)(rc:Int):PX×List PV×List Row:=
 (.exit 2,tm 116 [(4,.ptr 2 1 0 0),(7,.Db f 49 us),(8,.mp 4),(9,.sl 5 n 0 k)],(Ha.put (PJ f us n k false [] 0 0 p0 p1 p2 q0 q1 q2 s0 s1 s2 D0 D nl es x y z rc)).2)
theorem aaw(f:Bool)(us:List PV)(n k:Nat)(f2:Bool)(us2:List PV)(len i p0 p1 p2:Int)(q0 q1 q2:Int)(s0 s1 s2:Int)(D0 D:List (PV×PV))(es:List PV)(x y z:Int)(rc:Int):
 Dc Try.prog R55 60 33 (Dh Try.f33 14) [4,7,8,9,10,57,58,59] [4,7,8,9] (Ha.put (PJ f us n k f2 us2 len i p0 p1 p2 q0 q1 q2 s0 s1 s2 D0 D false es x y z rc)).1 (Ha.put (PJ f us n k f2 us2 len i p0 p1 p2 q0 q1 q2 s0 s1 s2 D0 D false es x y z rc)).2 =
 bif decide (i<len) then bif F7 us2 i then bif PE (wL (us2.getD i.toNat .any)) then
  bif PI (Jw f us n k f2 us2 len i 2 2 2 0 p0 p1 p2 q0 q1 q2 s0 s1 s2 D0 D false es x y z rc (wI (us2.getD i.toNat .any)) false (wL (us2.getD i.toNat .any)) (MQ (us2.getD i.toNat .any)) (cS (us2.getD i.toNat .any) 3) (cS (us2.getD i.toNat .any) 4) (IX (us2.getD i.toNat .any)) (cI (us2.getD i.toNat .any) 6) (cI (us2.getD i.toNat .any) 7)
    (gX (eF (us2.getD i.toNat .any))) (gY (eF (us2.getD i.toNat .any))) (gL (eF (us2.getD i.toNat .any))) (gX (eL (us2.getD i.toNat .any))) (gY (eL (us2.getD i.toNat .any))) (gL (eL (us2.getD i.toNat .any))) false (Tb (us2.getD i.toNat .any))) then
   some (.normal,Ha.put (PJ f us (HH x y z D ([]++[iv (wI (us2.getD i.toNat .any))]) (rc+Du (wL (us2.getD i.toNat .any))) (es,k) ((Tb (us2.getD i.toNat .any)).drop (0:Int).toNat)).1.length (HH x y z D ([]++[iv (wI (us2.getD i.toNat .any))]) (rc+Du (wL (us2.getD i.toNat .any))) (es,k) ((Tb (us2.getD i.toNat .any)).drop (0:Int).toNat)).2 f2 us2 len (W (i+1)) p0 p1 p2 q0 q1 q2 s0 s1 s2 D0 D false
    (HH x y z D ([]++[iv (wI (us2.getD i.toNat .any))]) (rc+Du (wL (us2.getD i.toNat .any))) (es,k) ((Tb (us2.getD i.toNat .any)).drop (0:Int).toNat)).1 x y z rc)) else none else none else none
 else some (qC f us n k p0 p1 p2 q0 q1 q2 s0 s1 s2 D0 D false es x y z rc):=by kernel_rfl
def PK:LS->Bool
 |([.l _ _,.n n,.n k,.l _ us2,.i len,.i i],[.i _,.i _,.i _,.i _,.i _,.i _,.i _,.i _,.i _,.m _,.m _,.l nl es,.i _,.i _,.i _,.i rc])=>
  decide (n=es.length)&&decide (k<=es.length)&&decide (len=(us2.length:Int))&&decide (0<=i)&&decide (i<=(us2.length:Int))&&decide (us2.length<=100)&&decide ((es.length:Int)<=400000+2*i)&&(us2.all G9)&&decide (0<=rc)&&decide (rc<=1000000000000000000) && !nl
 |_=>false
noncomputable def jn:LS->DT (PX×List PV×List Row)
 |([.l f us,.n _,.n k,.l _ us2,.i _,.i i],[.i p0,.i p1,.i p2,.i q0,.i q1,.i q2,.i s0,.i s1,.i s2,.m D0,.m D,.l _ es,.i x,.i y,.i z,.i rc])=>
  .leaf (qC f us (DS x y z D [] rc (es,k) (us2.drop i.toNat)).1.length (DS x y z D [] rc (es,k) (us2.drop i.toNat)).2 p0 p1 p2 q0 q1 q2 s0 s1 s2 D0 D false (DS x y z D [] rc (es,k) (us2.drop i.toNat)).1 x y z rc)
 |_=>.no
def bL:LS->Nat
 |([.l _ _,.n _,.n _,.l _ _,.i len,.i i],_)=>(len-i).toNat
 |_=>0
theorem aax:∀ s r,PK s=true->(jn s).run=some r->r.1≠.normal/\(Dc Try.prog R55 60 33 (Dh Try.f33 14) [4,7,8,9,10,57,58,59] [4,7,8,9] (Ha.put s).1 (Ha.put s).2=some r \/
   ∃ s',Dc Try.prog R55 60 33 (Dh Try.f33 14) [4,7,8,9,10,57,58,59] [4,7,8,9] (Ha.put s).1 (Ha.put s).2=some (.normal,Ha.put s')/\PK s'=true/\bL s'<bL s/\(jn s').run=some r):=by
 intro t r hp hr;unfold PK at hp;split at hp
 ·rename_i f us n k f2 us2 len i p0 p1 p2 q0 q1 q2 s0 s1 s2 D0 D nl es x y z rc;simp only[Aa,Ab,Am]at hp;obtain⟨⟨⟨⟨⟨⟨⟨⟨⟨⟨rfl,h2⟩,rfl⟩,h4⟩,h5⟩,h6⟩,h7⟩,h8⟩,h9⟩,h10⟩,rfl⟩:=hp;have hr':=(Ah hr).symm;refine⟨by rw[hr'];simp,?_⟩;rw[show Ha.put ([.l f us,.n es.length,.n k,.l f2 us2,.i (us2.length:Int),.i i],[.i p0,.i p1,.i p2,.i q0,.i q1,.i q2,.i s0,.i s1,.i s2,.m D0,.m D,.l false es,.i x,.i y,.i z,.i rc]) =
   Ha.put (PJ f us es.length k f2 us2 us2.length i p0 p1 p2 q0 q1 q2 s0 s1 s2 D0 D false es x y z rc) from rfl,aaw]
  by_cases hi:i<(us2.length:Int)
  ·have hu:=Ao.1 h8 _ (J9 h4 hi);have hu0:¬(wL (us2.getD i.toNat .any)).length=0/\(wL (us2.getD i.toNat .any)).length<=1000:=by
    have:G9 (us2.getD i.toNat .any)=true:=hu;simp only[G9,Aa,Am,AM,Ab]at this;exact this
   rw[Dt h4 hi]at hr';generalize us2.getD i.toNat .any=e at *;have hp18:PI (Jw f us es.length k f2 us2 us2.length i 2 2 2 0 p0 p1 p2 q0 q1 q2 s0 s1 s2 D0 D false es x y z rc (wI e) false (wL e) (MQ e) (cS e 3) (cS e 4) (IX e) (cI e 6) (cI e 7) (gX (eF e)) (gY (eF e)) (gL (eF e)) (gX (eL e)) (gY (eL e)) (gL (eL e)) false (Tb e))=true:=by
    simp only[PI,Aa,Ab,Am,As,AC];exact⟨⟨⟨⟨⟨⟨⟨⟨⟨⟨⟨⟨trivial,h2⟩,trivial⟩,trivial⟩,by decide⟩,by decide⟩,by decide⟩,by decide⟩,by omega⟩,hu0.2⟩,h9⟩,h10⟩,trivial⟩
   rw[Ac hi,D1 h4 hi,J5 hu0.1 (by omega),hp18,Dx (n:=i+1) (by omega) (by omega),show(0:Int).toNat=0 from rfl,AH];obtain⟨g1,g2,g3⟩:=Jv (x:=x) (y:=y) (z:=z) (D:=D) (ps:=[]) (rc:=rc) (s:=(es,k)) (e:=e) h2;simp only at g1 g2 g3;refine .inr ⟨PJ f us (IN x y z D [] rc (es,k) e).1.length (IN x y z D [] rc (es,k) e).2 f2 us2 us2.length (i+1) p0 p1 p2 q0 q1 q2 s0 s1 s2 D0 D false (IN x y z D [] rc (es,k) e).1 x y z rc,rfl,?_,?_,?_⟩
   ·simp only[PK,Aa,Ab,Am];exact⟨⟨⟨⟨⟨⟨⟨⟨⟨⟨trivial,g1⟩,trivial⟩,by omega⟩,by omega⟩,h6⟩,by omega⟩,h8⟩,h9⟩,h10⟩,trivial⟩
   ·simp only[bL];omega
   ·rw[hr'];rfl
  ·rw[Ai hi];rw[AB (by omega)]at hr';exact .inl (by rw[hr'];rfl)
 ·cases hp
noncomputable def xp:C9:=R55.Kr Try.prog [false,false,false,false,false,true,false,false] 33 14 [4,7,8,9,10,57,58,59] [false,false,false,false,false,false,true,false] Ha PK jn
theorem aay:C4 Try.prog xp.env:=
 aav.Kr (n:=60) Try.func33 (show Try.f33.body=some (D3 Try.f33) by kernel_rfl) (show(loops (D3 Try.f33)).filter (fun b=>Ev b==14)=[Dh Try.f33 14] by kernel_rfl) [false,false,false,false,false,true,false,false] [4,7,8,9,10,57,58,59] [4,7,8,9] [false,false,false,false,false,false,true,false] Ha bL aax
def Fo:S1:=⟨116,[(4,.ptr 2 1 0 0),(7,.Db 49),(8,.mp 4),(9,.sl 5),(10,.ptr 6 1 0 0),(15,.ptr 8 1 0 0),(57,.Db 49),(58,Dm),(59,Dm),(74,.sl 11),(75,Dm),(76,Dm)],
 [.one 30 3 aS,.one 30 3 aS,.one 30 3 aS,.map 30 4,.map 30 78,.many 78 5,.Gx 78 5 (.agg [Dm,Dm,Dm,.Db 3,Dm]),.dead,.Gx 49 8 aW,.one 30 3 aS,.one 30 3 aS,.many 116 6]⟩
abbrev Jx(f:Bool)(us:List PV)(n k:Nat)(f2:Bool)(us2:List PV)(len i:Int)(n2 k2:Nat)(l2 j p0 p1 p2:Int)(q0 q1 q2:Int)(s0 s1 s2:Int)(D0 D:List (PV×PV))(nl:Bool)(es:List PV)(x y z:Int)(rf:Bool)(rp:List PV)(rc:Int)
 (wi:Int) (wf:Bool) (wl:List PV) (lv:Int) (cs nm:ByteArray) (st:Bool) (wt ds a0 a1 a2 b0 b1 b2:Int) (nl2:Bool) (ab:List PV):LS:=
 ([.l f us,.n n,.n k,.l f2 us2,.i len,.i i,.n n2,.n k2,.i l2,.i j],[.i p0,.i p1,.i p2,.i q0,.i q1,.i q2,.i s0,.i s1,.i s2,.m D0,.m D,.l nl es,.i x,.i y,.i z,.l rf rp,.i rc,
  .i wi,.l wf wl,.i lv,.s cs,.s nm,.b st,.i wt,.i ds,.i a0,.i a1,.i a2,.i b0,.i b1,.i b2,.l nl2 ab])
noncomputable abbrev qD(f:Bool)(us:List PV)(n k:Nat)(f2:Bool)(us2:List PV)(len i p0 p1 p2:Int)(q0 q1 q2:Int)(s0 s1 s2:Int)(D0 D:List (PV×PV))(nl:Bool)(es:List PV)(x y z:Int)(rf:Bool)(rp:List PV)(rc:Int)
 (wi:Int) (wf:Bool) (wl:List PV) (lv:Int) (cs nm:ByteArray) (st:Bool) (wt ds a0 a1 a2 b0 b1 b2:Int) (nl2:Bool) (ab:List PV):PX×List PV×List Row:=
 (.exit 4,tm 116 [(4,.ptr 2 1 0 0),(7,.Db f 49 us),(8,.mp 4),(9,.sl 5 n 0 k),(10,.ptr 6 1 0 0),(57,.Db f2 49 us2),(58,iv len),(59,iv i)],
  (Fo.put (Jx f us n k f2 us2 len i 0 0 0 0 p0 p1 p2 q0 q1 q2 s0 s1 s2 D0 D nl es x y z rf rp rc wi wf wl lv cs nm st wt ds a0 a1 a2 b0 b1 b2 nl2 ab)).2)
noncomputable abbrev qE(p0 p1 p2:Int)(q0 q1 q2:Int)(s0 s1 s2:Int)(D0 D:List (PV×PV))(nl:Bool)(es:List PV)(x y z:Int)(rf:Bool)(rp:List PV)(rc:Int)
 (wi:Int) (wf:Bool) (wl:List PV) (lv:Int) (cs nm:ByteArray) (st:Bool) (wt ds a0 a1 a2 b0 b1 b2:Int) (nl2:Bool) (ab:List PV) (j:Int):List Row:=
 (Fo.put (Jx false [] 0 0 false [] 0 0 0 0 0 0 p0 p1 p2 q0 q1 q2 s0 s1 s2 D0 D nl es x y z rf rp rc wi wf wl lv cs nm st wt ds a0 a1 a2 b0 b1 b2 nl2 ab)).2++[bG (rE ab j),Dy]
theorem qG(f:Bool)(us:List PV)(n k:Nat)(f2:Bool)(us2:List PV)(len i:Int)(n2 k2:Nat)(l2 j p0 p1 p2:Int)(q0 q1 q2:Int)(s0 s1 s2:Int)(D0 D:List (PV×PV))(es:List PV)(x y z:Int)(rf:Bool)(rp:List PV)(rc:Int)
 (wi:Int) (wf:Bool) (wl:List PV) (lv:Int) (cs nm:ByteArray) (st:Bool) (wt ds a0 a1 a2 b0 b1 b2:Int) (nl2:Bool) (ab:List PV):
 Dc Try.prog xp 60 33 (Dh Try.f33 18) [4,7,8,9,10,15,57,58,59,74,75,76] [4,7,8,9,10,57,58,59] (Fo.put (Jx f us n k f2 us2 len i n2 k2 l2 j p0 p1 p2 q0 q1 q2 s0 s1 s2 D0 D false es x y z rf rp rc wi wf wl lv cs nm st wt ds a0 a1 a2 b0 b1 b2 nl2 ab)).1 (Fo.put (Jx f us n k f2 us2 len i n2 k2 l2 j p0 p1 p2 q0 q1 q2 s0 s1 s2 D0 D false es x y z rf rp rc wi wf wl lv cs nm st wt ds a0 a1 a2 b0 b1 b2 nl2 ab)).2 =
 bif decide (j<l2) then Sj ab n2 k2 j (HV ab n2 (bif MS (cI (rE ab j) 0) (cI (rE ab j) 1) (cI (rE ab j) 2) x y z then bif !EN D (DU (cI (rE ab j) 3) (cI (rE ab j) 4) (cI (rE ab j) 5)) then
  bif decide (0<rp.length) then bif decide ((0+rp.length)*8<=140737488355328) then bif Hp (qE p0 p1 p2 q0 q1 q2 s0 s1 s2 D0 D false es x y z rf rp rc wi wf wl lv cs nm st wt ds a0 a1 a2 b0 b1 b2 nl2 ab j) (qE p0 p1 p2 q0 q1 q2 s0 s1 s2 D0 D false es x y z rf rp rc wi wf wl lv cs nm st wt ds a0 a1 a2 b0 b1 b2 nl2 ab j) then
  bif vk rp wi then bif decide (wl.length<=100000) then bif (es.length==n)&&(decide (k<=n)&&decide ((n+1)*56<=140737488355328)) then
   some (.normal,Fo.put (Jx f us (max n (k+1)) (k+1) f2 us2 len i n2 k2 l2 (W (j+1)) p0 p1 p2 q0 q1 q2 s0 s1 s2 D0 D false (es.take k++Hy (cI (rE ab j) 3) (cI (rE ab j) 4) (cI (rE ab j) 5) false (jh rp wi) (W (rc+Du wl))::es.drop (k+1)) x y z rf rp rc wi wf wl lv cs nm st wt ds a0 a1 a2 b0 b1 b2 nl2 ab))
  else none else none else none else none else none else none
  else some (.normal,Fo.put (Jx f us n k f2 us2 len i n2 k2 l2 (W (j+1)) p0 p1 p2 q0 q1 q2 s0 s1 s2 D0 D false es x y z rf rp rc wi wf wl lv cs nm st wt ds a0 a1 a2 b0 b1 b2 nl2 ab))
  else some (.normal,Fo.put (Jx f us n k f2 us2 len i n2 k2 l2 (W (j+1)) p0 p1 p2 q0 q1 q2 s0 s1 s2 D0 D false es x y z rf rp rc wi wf wl lv cs nm st wt ds a0 a1 a2 b0 b1 b2 nl2 ab))))
 else some (qD f us n k f2 us2 len i p0 p1 p2 q0 q1 q2 s0 s1 s2 D0 D false es x y z rf rp rc wi wf wl lv cs nm st wt ds a0 a1 a2 b0 b1 b2 nl2 ab):=by kernel_rfl
theorem vn(f:Bool)(us:List PV)(k:Nat)(f2:Bool)(us2:List PV)(len i j p0 p1 p2:Int)(q0 q1 q2:Int)(s0 s1 s2:Int)(D0 D:List (PV×PV))(es:List PV)(x y z:Int)(rf:Bool)(rp:List PV)(rc:Int)
 (wi:Int) (wf:Bool) (wl:List PV) (lv:Int) (cs nm:ByteArray) (st:Bool) (wt ds a0 a1 a2 b0 b1 b2:Int) (nl2:Bool) (ab:List PV) (hj:0<=j) (hj2:j<(ab.length:Int)) (hab:ab.length<=2) (hk:k<=es.length) (hes:es.length<=600000) (hwl:wl.length<=1000) (hrc:0<=rc) (hrc2:rc<=1000000000000000000) (hr0:0<rp.length) (hr1:rp.length<=100000):
 Dc Try.prog xp 60 33 (Dh Try.f33 18) [4,7,8,9,10,15,57,58,59,74,75,76] [4,7,8,9,10,57,58,59] (Fo.put (Jx f us es.length k f2 us2 len i ab.length ab.length ab.length j p0 p1 p2 q0 q1 q2 s0 s1 s2 D0 D false es x y z rf rp rc wi wf wl lv cs nm st wt ds a0 a1 a2 b0 b1 b2 nl2 ab)).1 (Fo.put (Jx f us es.length k f2 us2 len i ab.length ab.length ab.length j p0 p1 p2 q0 q1 q2 s0 s1 s2 D0 D false es x y z rf rp rc wi wf wl lv cs nm st wt ds a0 a1 a2 b0 b1 b2 nl2 ab)).2 =
 some (.normal,Fo.put (Jx f us (JE x y z D (rp++[iv wi]) (rc+Du wl) (es,k) (aE ab j)).1.length (JE x y z D (rp++[iv wi]) (rc+Du wl) (es,k) (aE ab j)).2 f2 us2 len i ab.length ab.length ab.length (j+1) p0 p1 p2 q0 q1 q2 s0 s1 s2 D0 D false (JE x y z D (rp++[iv wi]) (rc+Du wl) (es,k) (aE ab j)).1 x y z rf rp rc wi wf wl lv cs nm st wt ds a0 a1 a2 b0 b1 b2 nl2 ab)):=by
 obtain⟨w1,w2⟩:=F9 hwl;rw[qG,Ac hj2,Aj,FD rfl hj hj2,DK rfl,Dx (n:=j+1) (by omega) (by omega),Dx (n:=rc+Du wl) (by omega) (by omega),ON,E5,Ac hr0,Ac (show(0+rp.length)*8<=140737488355328 by omega),bH (wi:=wi) (show rp.length<=1000000 by omega),XC,
  Ac (show wl.length<=100000 by omega),show((es.length==es.length)&&(decide (k<=es.length)&&decide ((es.length+1)*56<=140737488355328)))=true by simp only[AP,BW,Aa,Ab];omega]
 simp only[Aj];unfold JE jk;cases h1:MS (cI (aE ab j) 0) (cI (aE ab j) 1) (cI (aE ab j) 2) x y z with
 |false=>rfl
 |true=>
  cases h2:EN D (DU (cI (aE ab j) 3) (cI (aE ab j) 4) (cI (aE ab j) 5)) with
  |true=>rfl
  |false=>
   have e1:=N2 (z:=vl (aE ab j) (rp++[iv wi]) (rc+Du wl)) hk;simp only[Aj,BT,A_,e1];rfl
def PL:LS->Bool
 |([.l _ _,.n n,.n k,.l _ _,.i _,.i _,.n n2,.n k2,.i l2,.i j],[.i _,.i _,.i _,.i _,.i _,.i _,.i _,.i _,.i _,.m _,.m _,.l nl es,.i _,.i _,.i _,.l _ rp,.i rc,
  .i _,.l _ wl,.i _,.s _,.s _,.b _,.i _,.i _,.i _,.i _,.i _,.i _,.i _,.i _,.l _ ab])=>
  decide (n=es.length)&&decide (k<=es.length)&&decide (n2=ab.length)&&decide (k2=ab.length)&&decide (l2=(ab.length:Int))&&decide (0<=j)&&decide (j<=(ab.length:Int))&&decide (ab.length<=2)&&decide ((es.length:Int)<=500000+j)&&decide (wl.length<=1000)&&decide (0<=rc)&&decide (rc<=1000000000000000000) && !nl&&decide (0<rp.length)&&decide (rp.length<=100000)
 |_=>false
noncomputable def jo:LS->DT (PX×List PV×List Row)
 |([.l f us,.n _,.n k,.l f2 us2,.i len,.i i,.n _,.n _,.i _,.i j],[.i p0,.i p1,.i p2,.i q0,.i q1,.i q2,.i s0,.i s1,.i s2,.m D0,.m D,.l _ es,.i x,.i y,.i z,.l rf rp,.i rc,
  .i wi,.l wf wl,.i lv,.s cs,.s nm,.b st,.i wt,.i ds,.i a0,.i a1,.i a2,.i b0,.i b1,.i b2,.l nl2 ab])=>
  .leaf (qD f us (HH x y z D (rp++[iv wi]) (rc+Du wl) (es,k) (ab.drop j.toNat)).1.length (HH x y z D (rp++[iv wi]) (rc+Du wl) (es,k) (ab.drop j.toNat)).2 f2 us2 len i p0 p1 p2 q0 q1 q2 s0 s1 s2 D0 D false (HH x y z D (rp++[iv wi]) (rc+Du wl) (es,k) (ab.drop j.toNat)).1 x y z rf rp rc wi wf wl lv cs nm st wt ds a0 a1 a2 b0 b1 b2 nl2 ab)
 |_=>.no
def bM:LS->Nat
 |([.l _ _,.n _,.n _,.l _ _,.i _,.i _,.n _,.n _,.i l2,.i j],_)=>(l2-j).toNat
 |_=>0
theorem aaz:∀ s r,PL s=true->(jo s).run=some r->r.1≠.normal/\(Dc Try.prog xp 60 33 (Dh Try.f33 18) [4,7,8,9,10,15,57,58,59,74,75,76] [4,7,8,9,10,57,58,59] (Fo.put s).1 (Fo.put s).2=some r \/
   ∃ s',Dc Try.prog xp 60 33 (Dh Try.f33 18) [4,7,8,9,10,15,57,58,59,74,75,76] [4,7,8,9,10,57,58,59] (Fo.put s).1 (Fo.put s).2=some (.normal,Fo.put s')/\PL s'=true/\bM s'<bM s/\(jo s').run=some r):=by
 intro t r hp hr;unfold PL at hp;split at hp
 ·rename_i f us n k f2 us2 len i n2 k2 l2 j p0 p1 p2 q0 q1 q2 s0 s1 s2 D0 D nl es x y z rf rp rc wi wf wl lv cs nm st wt ds a0 a1 a2 b0 b1 b2 nl2 ab;simp only[Aa,Ab,Am]at hp;obtain⟨⟨⟨⟨⟨⟨⟨⟨⟨⟨⟨⟨⟨⟨rfl,h2⟩,rfl⟩,rfl⟩,rfl⟩,h6⟩,h7⟩,h8⟩,h9⟩,h10⟩,h11⟩,h12⟩,rfl⟩,h14⟩,h15⟩:=hp;have hr':=(Ah hr).symm;refine⟨by rw[hr'];simp,?_⟩;rw[show Fo.put ([.l f us,.n es.length,.n k,.l f2 us2,.i len,.i i,.n ab.length,.n ab.length,.i (ab.length:Int),.i j],[.i p0,.i p1,.i p2,.i q0,.i q1,.i q2,.i s0,.i s1,.i s2,.m D0,.m D,.l false es,.i x,.i y,.i z,.l rf rp,.i rc,
   .i wi,.l wf wl,.i lv,.s cs,.s nm,.b st,.i wt,.i ds,.i a0,.i a1,.i a2,.i b0,.i b1,.i b2,.l nl2 ab])=Fo.put (Jx f us es.length k f2 us2 len i ab.length ab.length ab.length j p0 p1 p2 q0 q1 q2 s0 s1 s2 D0 D false es x y z rf rp rc wi wf wl lv cs nm st wt ds a0 a1 a2 b0 b1 b2 nl2 ab) from rfl]
  by_cases hi:j<(ab.length:Int)
  ·rw[vn (hj:=h6) (hj2:=hi) (hab:=h8) (hk:=h2) (hes:=by omega) (hwl:=h10) (hrc:=h11) (hrc2:=h12) (hr0:=h14) (hr1:=h15)];obtain⟨g1,g2,g3⟩:=Kc (x:=x) (y:=y) (z:=z) (D:=D) (ps:=rp++[iv wi]) (c:=rc+Du wl) (s:=(es,k)) (e:=aE ab j) h2;simp only at g1 g2 g3;refine .inr ⟨_,rfl,?_,?_,?_⟩
   ·simp only[PL,Aa,Ab,Am];exact⟨⟨⟨⟨⟨⟨⟨⟨⟨⟨⟨⟨⟨⟨trivial,g1⟩,trivial⟩,trivial⟩,trivial⟩,by omega⟩,by omega⟩,h8⟩,by omega⟩,h10⟩,h11⟩,h12⟩,trivial⟩,h14⟩,h15⟩
   ·simp only[bM];omega
   ·rw[hr',Dt h6 hi];rfl
  ·rw[qG,Ai hi];rw[AB (by omega)]at hr';exact .inl (by rw[hr'];rfl)
 ·cases hp
noncomputable def R57:C9:=xp.Dr 33 18 [4,7,8,9,10,15,57,58,59,74,75,76] [false,false,false,false,false,false,false,false,true,true,true,false] Fo PL jo
theorem aaB:C4 Try.prog R57.env:=
 aay.Dr (n:=60) Try.func33 (show Try.f33.body=some (D3 Try.f33) by kernel_rfl) (show(loops (D3 Try.f33)).filter (fun b=>Ev b==18)=[Dh Try.f33 18] by kernel_rfl) [4,7,8,9,10,15,57,58,59,74,75,76] [4,7,8,9,10,57,58,59] [false,false,false,false,false,false,false,false,true,true,true,false] Fo bM aaz
def Hb:S1:=⟨116,[(4,.ptr 2 1 0 0),(7,.Db 49),(8,.mp 4),(9,.sl 5),(10,.ptr 6 1 0 0),(57,.Db 49),(58,Dm),(59,Dm)],
 [.one 30 3 aS,.one 30 3 aS,.one 30 3 aS,.map 30 4,.map 30 78,.many 78 5,.Gx 78 5 (.agg [Dm,Dm,Dm,.Db 3,Dm]),.dead]⟩
abbrev PM(f:Bool)(us:List PV)(n k:Nat)(f2:Bool)(us2:List PV)(len i p0 p1 p2:Int)(q0 q1 q2:Int)(s0 s1 s2:Int)(D0 D:List (PV×PV))(nl:Bool)(es:List PV)(x y z:Int)(rf:Bool)(rp:List PV)(rc:Int):LS:=
 ([.l f us,.n n,.n k,.l f2 us2,.i len,.i i],[.i p0,.i p1,.i p2,.i q0,.i q1,.i q2,.i s0,.i s1,.i s2,.m D0,.m D,.l nl es,.i x,.i y,.i z,.l rf rp,.i rc])
noncomputable abbrev qI(f:Bool)(us:List PV)(n k:Nat)(p0 p1 p2:Int)(q0 q1 q2:Int)(s0 s1 s2:Int)(D0 D:List (PV×PV))(nl:Bool)(es:List PV)(x y z:Int)(rf:Bool)(rp:List PV)(rc:Int):PX×List PV×List Row:=
 (.exit 2,tm 116 [(4,.ptr 2 1 0 0),(7,.Db f 49 us),(8,.mp 4),(9,.sl 5 n 0 k)],(Hb.put (PM f us n k false [] 0 0 p0 p1 p2 q0 q1 q2 s0 s1 s2 D0 D nl es x y z rf rp rc)).2)
theorem aaC(f:Bool)(us:List PV)(n k:Nat)(f2:Bool)(us2:List PV)(len i p0 p1 p2:Int)(q0 q1 q2:Int)(s0 s1 s2:Int)(D0 D:List (PV×PV))(es:List PV)(x y z:Int)(rf:Bool)(rp:List PV)(rc:Int):
 Dc Try.prog R57 60 33 (Dh Try.f33 14) [4,7,8,9,10,57,58,59] [4,7,8,9] (Hb.put (PM f us n k f2 us2 len i p0 p1 p2 q0 q1 q2 s0 s1 s2 D0 D false es x y z rf rp rc)).1 (Hb.put (PM f us n k f2 us2 len i p0 p1 p2 q0 q1 q2 s0 s1 s2 D0 D false es x y z rf rp rc)).2 =
 bif decide (i<len) then bif F7 us2 i then bif PE (wL (us2.getD i.toNat .any)) then
  bif PL (Jx f us n k f2 us2 len i 2 2 2 0 p0 p1 p2 q0 q1 q2 s0 s1 s2 D0 D false es x y z rf rp rc (wI (us2.getD i.toNat .any)) false (wL (us2.getD i.toNat .any)) (MQ (us2.getD i.toNat .any)) (cS (us2.getD i.toNat .any) 3) (cS (us2.getD i.toNat .any) 4) (IX (us2.getD i.toNat .any)) (cI (us2.getD i.toNat .any) 6) (cI (us2.getD i.toNat .any) 7)
    (gX (eF (us2.getD i.toNat .any))) (gY (eF (us2.getD i.toNat .any))) (gL (eF (us2.getD i.toNat .any))) (gX (eL (us2.getD i.toNat .any))) (gY (eL (us2.getD i.toNat .any))) (gL (eL (us2.getD i.toNat .any))) false (Tb (us2.getD i.toNat .any))) then
   some (.normal,Hb.put (PM f us (HH x y z D (rp++[iv (wI (us2.getD i.toNat .any))]) (rc+Du (wL (us2.getD i.toNat .any))) (es,k) ((Tb (us2.getD i.toNat .any)).drop (0:Int).toNat)).1.length (HH x y z D (rp++[iv (wI (us2.getD i.toNat .any))]) (rc+Du (wL (us2.getD i.toNat .any))) (es,k) ((Tb (us2.getD i.toNat .any)).drop (0:Int).toNat)).2 f2 us2 len (W (i+1)) p0 p1 p2 q0 q1 q2 s0 s1 s2 D0 D false
    (HH x y z D (rp++[iv (wI (us2.getD i.toNat .any))]) (rc+Du (wL (us2.getD i.toNat .any))) (es,k) ((Tb (us2.getD i.toNat .any)).drop (0:Int).toNat)).1 x y z rf rp rc)) else none else none else none
 else some (qI f us n k p0 p1 p2 q0 q1 q2 s0 s1 s2 D0 D false es x y z rf rp rc):=by kernel_rfl
def PN:LS->Bool
 |([.l _ _,.n n,.n k,.l _ us2,.i len,.i i],[.i _,.i _,.i _,.i _,.i _,.i _,.i _,.i _,.i _,.m _,.m _,.l nl es,.i _,.i _,.i _,.l _ rp,.i rc])=>
  decide (n=es.length)&&decide (k<=es.length)&&decide (len=(us2.length:Int))&&decide (0<=i)&&decide (i<=(us2.length:Int))&&decide (us2.length<=100)&&decide ((es.length:Int)<=400000+2*i)&&(us2.all G9)&&decide (0<=rc)&&decide (rc<=1000000000000000000) && !nl&&decide (0<rp.length)&&decide (rp.length<=100000)
 |_=>false
noncomputable def jq:LS->DT (PX×List PV×List Row)
 |([.l f us,.n _,.n k,.l _ us2,.i _,.i i],[.i p0,.i p1,.i p2,.i q0,.i q1,.i q2,.i s0,.i s1,.i s2,.m D0,.m D,.l _ es,.i x,.i y,.i z,.l rf rp,.i rc])=>
  .leaf (qI f us (DS x y z D rp rc (es,k) (us2.drop i.toNat)).1.length (DS x y z D rp rc (es,k) (us2.drop i.toNat)).2 p0 p1 p2 q0 q1 q2 s0 s1 s2 D0 D false (DS x y z D rp rc (es,k) (us2.drop i.toNat)).1 x y z rf rp rc)
 |_=>.no
def bO:LS->Nat
 |([.l _ _,.n _,.n _,.l _ _,.i len,.i i],_)=>(len-i).toNat
 |_=>0
theorem aaD:∀ s r,PN s=true->(jq s).run=some r->r.1≠.normal/\(Dc Try.prog R57 60 33 (Dh Try.f33 14) [4,7,8,9,10,57,58,59] [4,7,8,9] (Hb.put s).1 (Hb.put s).2=some r \/
   ∃ s',Dc Try.prog R57 60 33 (Dh Try.f33 14) [4,7,8,9,10,57,58,59] [4,7,8,9] (Hb.put s).1 (Hb.put s).2=some (.normal,Hb.put s')/\PN s'=true/\bO s'<bO s/\(jq s').run=some r):=by
 intro t r hp hr;unfold PN at hp;split at hp
 ·rename_i f us n k f2 us2 len i p0 p1 p2 q0 q1 q2 s0 s1 s2 D0 D nl es x y z rf rp rc;simp only[Aa,Ab,Am]at hp;obtain⟨⟨⟨⟨⟨⟨⟨⟨⟨⟨⟨⟨rfl,h2⟩,rfl⟩,h4⟩,h5⟩,h6⟩,h7⟩,h8⟩,h9⟩,h10⟩,rfl⟩,h14⟩,h15⟩:=hp;have hr':=(Ah hr).symm;refine⟨by rw[hr'];simp,?_⟩;rw[show Hb.put ([.l f us,.n es.length,.n k,.l f2 us2,.i (us2.length:Int),.i i],[.i p0,.i p1,.i p2,.i q0,.i q1,.i q2,.i s0,.i s1,.i s2,.m D0,.m D,.l false es,.i x,.i y,.i z,.l rf rp,.i rc]) =
   Hb.put (PM f us es.length k f2 us2 us2.length i p0 p1 p2 q0 q1 q2 s0 s1 s2 D0 D false es x y z rf rp rc) from rfl,aaC]
  by_cases hi:i<(us2.length:Int)
  ·have hu:=Ao.1 h8 _ (J9 h4 hi);have hu0:¬(wL (us2.getD i.toNat .any)).length=0/\(wL (us2.getD i.toNat .any)).length<=1000:=by
    have:G9 (us2.getD i.toNat .any)=true:=hu;simp only[G9,Aa,Am,AM,Ab]at this;exact this
   rw[Dt h4 hi]at hr';generalize us2.getD i.toNat .any=e at *;have hp18:PL (Jx f us es.length k f2 us2 us2.length i 2 2 2 0 p0 p1 p2 q0 q1 q2 s0 s1 s2 D0 D false es x y z rf rp rc (wI e) false (wL e) (MQ e) (cS e 3) (cS e 4) (IX e) (cI e 6) (cI e 7) (gX (eF e)) (gY (eF e)) (gL (eF e)) (gX (eL e)) (gY (eL e)) (gL (eL e)) false (Tb e))=true:=by
    simp only[PL,Aa,Ab,Am,As,AC];exact⟨⟨⟨⟨⟨⟨⟨⟨⟨⟨⟨⟨⟨⟨trivial,h2⟩,trivial⟩,trivial⟩,by decide⟩,by decide⟩,by decide⟩,by decide⟩,by omega⟩,hu0.2⟩,h9⟩,h10⟩,trivial⟩,h14⟩,h15⟩
   rw[Ac hi,D1 h4 hi,J5 hu0.1 (by omega),hp18,Dx (n:=i+1) (by omega) (by omega),show(0:Int).toNat=0 from rfl,AH];obtain⟨g1,g2,g3⟩:=Jv (x:=x) (y:=y) (z:=z) (D:=D) (ps:=rp) (rc:=rc) (s:=(es,k)) (e:=e) h2;simp only at g1 g2 g3;refine .inr ⟨PM f us (IN x y z D rp rc (es,k) e).1.length (IN x y z D rp rc (es,k) e).2 f2 us2 us2.length (i+1) p0 p1 p2 q0 q1 q2 s0 s1 s2 D0 D false (IN x y z D rp rc (es,k) e).1 x y z rf rp rc,rfl,?_,?_,?_⟩
   ·simp only[PN,Aa,Ab,Am];exact⟨⟨⟨⟨⟨⟨⟨⟨⟨⟨⟨⟨trivial,g1⟩,trivial⟩,by omega⟩,by omega⟩,h6⟩,by omega⟩,h8⟩,h9⟩,h10⟩,trivial⟩,h14⟩,h15⟩
   ·simp only[bO];omega
   ·rw[hr'];rfl
  ·rw[Ai hi];rw[AB (by omega)]at hr';exact .inl (by rw[hr'];rfl)
 ·cases hp
noncomputable def R58:C9:=R57.Dr 33 14 [4,7,8,9,10,57,58,59] [false,false,false,false,false,false,true,false] Hb PN jq
theorem qJ:C4 Try.prog R58.env:=
 aaB.Dr (n:=60) Try.func33 (show Try.f33.body=some (D3 Try.f33) by kernel_rfl) (show(loops (D3 Try.f33)).filter (fun b=>Ev b==14)=[Dh Try.f33 14] by kernel_rfl) [4,7,8,9,10,57,58,59] [4,7,8,9] [false,false,false,false,false,false,true,false] Hb bO aaD
abbrev DJ(x y z c:Int):PV:=.agg [iv x,iv y,iv z,.val (.slice none 0 0),iv c]
abbrev Uh(x y z c:Int):Row:={ es:=[DJ x y z c],s:=5,t:=78,bv:=false }
abbrev rwz:Row:={ es:=[Ja],s:=5,t:=78,bv:=false }
theorem af8(x y z c:Int):Kz Try.prog R58 60 60 [.sl 0 1 0 1,.fn (.func 61) [] [.ptr 1 1 0 0]] [Uh x y z c,Uh x y z c] =
 bif MS x y z x y z then some (.sl 0 1 0 0,[rwz,Uh x y z c]) else some (.sl 0 1 0 1,[Uh x y z c,Uh x y z c]):=by kernel_rfl
noncomputable def aaE:List PV->List Row->Option (DT (PV×List Row))
 | [.sl 0 1 0 1,.fn (.func 61) [] [.ptr 1 1 0 0]],[⟨[.agg [.val (.int .i64 x),.val (.int .i64 y),.val (.int .i64 z),.val (.slice none 0 0),.val (.int .i64 c)]],5,78,false,true,false,none,false⟩,
   ⟨[.agg [.val (.int .i64 a),.val (.int .i64 b),.val (.int .i64 d),.val (.slice none 0 0),.val (.int .i64 e)]],5,78,false,true,false,none,false⟩]=>
  some (.br (dB (x=a/\y=b/\z=d/\c=e)) (.leaf (.sl 0 1 0 0,[rwz,Uh x y z c])) .no)
 |_,_=>none
noncomputable def vo(ags:List PV)(H:List Row):Option (DT (PV×List Row)):=
 match H with
 |r::_=>(match r.bv with |true=>cDf ags H |false=>aaE ags H)
 | []=>none
theorem af9(args:List PV)(H:List Row)(d:DT (PV×List Row))(q:PV)(H':List Row)(h:vo args H=some d)(hd:d.run=some (q,H')):Fh Try.prog 0 60 args H q H':=by
 unfold vo at h;split at h
 ·split at h
  ·exact oDf args _ d q H' h hd
  ·unfold aaE at h;split at h
   ·rename_i x y z c a b d0 e heq;rw[heq];cases h;obtain⟨hc,he⟩:=Gc hd;cases he;rw[DB]at hc;obtain⟨rfl,rfl,rfl,rfl⟩:=hc;refine(DP qJ ((af8 x y z c).trans ?_)).2;rw[show MS x y z x y z=true by simp[MS]];rfl
   ·cases h
 ·cases h
noncomputable def qK:C9:=R58.Ff 60 vo
theorem qO:C4 Try.prog qK.env:=qJ.Ff eDf af9
def Qc:S1:=⟨116,[(4,.ptr 2 1 0 0),(7,.Db 49),(8,.mp 4),(9,.sl 5)],
 [.one 30 3 aS,.one 30 3 aS,.one 30 3 aS,.map 30 4,.map 30 78,.many 78 5]⟩
abbrev dX(f:Bool)(us:List PV)(n k:Nat)(p0 p1 p2:Int)(q0 q1 q2:Int)(s0 s1 s2:Int)(D0 D:List (PV×PV))(nl:Bool)(es:List PV):LS:=
 ([.l f us,.n n,.n k],[.i p0,.i p1,.i p2,.i q0,.i q1,.i q2,.i s0,.i s1,.i s2,.m D0,.m D,.l nl es])
noncomputable abbrev xq(p0 p1 p2:Int)(q0 q1 q2:Int)(s0 s1 s2:Int)(D0 D:List (PV×PV)):PX×List PV×List Row:=
 (.ret,tm 116 [(6,.mp 4)],(Qc.put (dX false [] 0 0 p0 p1 p2 q0 q1 q2 s0 s1 s2 D0 D true [])).2.take 5++[Dy])
theorem q6P(f:Bool)(us:List PV)(n k:Nat)(p0 p1 p2:Int)(q0 q1 q2:Int)(s0 s1 s2:Int)(D0 D:List (PV×PV))(es:List PV):
 Dc Try.prog qK 60 33 (Dh Try.f33 6) [4,7,8,9] [6] (Qc.put (dX f us n k p0 p1 p2 q0 q1 q2 s0 s1 s2 D0 D false es)).1 (Qc.put (dX f us n k p0 p1 p2 q0 q1 q2 s0 s1 s2 D0 D false es)).2 =
 HV es n (bif decide (n=es.length)&&decide (k<=es.length)&&decide (k<=1000000)&&(es.take k).all Kb then
  bif !decide ((k:Int) > 0) then some (xq p0 p1 p2 q0 q1 q2 s0 s1 s2 D0 D) else
  HV es n (bif decide (n=es.length)&&decide (k<=es.length)&&decide (es.length<=1000000)&&EL Uf es then
   bif EN D (DU (gX (Dp es k)) (gY (Dp es k)) (gL (Dp es k))) then some (.normal,Qc.put (dX f us n (MT es k).length p0 p1 p2 q0 q1 q2 s0 s1 s2 D0 D false (N3 es k))) else
   bif PN (PM f us n (MT es k).length f us us.length 0 p0 p1 p2 q0 q1 q2 s0 s1 s2 D0 (EV D (DU (gX (Dp es k)) (gY (Dp es k)) (gL (Dp es k))) (HG (Dp es k))) false (N3 es k) (gX (Dp es k)) (gY (Dp es k)) (gL (Dp es k)) false (rP (Dp es k)) (rC (Dp es k))) then
    some (.normal,Qc.put (dX f us (OT us D es k).1.length (OT us D es k).2 p0 p1 p2 q0 q1 q2 s0 s1 s2 D0 (EV D (DU (gX (Dp es k)) (gY (Dp es k)) (gL (Dp es k))) (HG (Dp es k))) false (OT us D es k).1)) else none
  else none) else none):=by kernel_rfl
def bP:S1:=⟨116,[(4,.ptr 2 1 0 0),(7,.Db 49),(8,.mp 4),(9,.sl 5)],
 [.one 30 3 aS,.one 30 3 aS,.one 30 3 aS,.map 30 4,.map 30 78,.Gx 78 5 (.agg [Dm,Dm,Dm,.nil,Dm])]⟩
abbrev nP(f:Bool)(us:List PV)(n k:Nat)(p0 p1 p2:Int)(q0 q1 q2:Int)(s0 s1 s2:Int)(D0 D:List (PV×PV))(x y z c:Int):LS:=
 ([.l f us,.n n,.n k],[.i p0,.i p1,.i p2,.i q0,.i q1,.i q2,.i s0,.i s1,.i s2,.m D0,.m D,.i x,.i y,.i z,.i c])
theorem aga(f:Bool)(us:List PV)(p0 p1 p2:Int)(q0 q1 q2:Int)(s0 s1 s2:Int)(D0:List (PV×PV))(x y z c:Int):
 Dc Try.prog qK 60 33 (Dh Try.f33 6) [4,7,8,9] [6] (bP.put (nP f us 1 1 p0 p1 p2 q0 q1 q2 s0 s1 s2 D0 [] x y z c)).1 (bP.put (nP f us 1 1 p0 p1 p2 q0 q1 q2 s0 s1 s2 D0 [] x y z c)).2 =
 bif dB (x=x/\y=y/\z=z/\c=c) then
  bif PK (PJ f us 1 0 f us us.length 0 p0 p1 p2 q0 q1 q2 s0 s1 s2 D0 [(DU x y z,DJ x y z c)] false [Ja] x y z c) then
   some (.normal,Qc.put (dX f us (DS x y z [(DU x y z,DJ x y z c)] [] c ([Ja],0) (us.drop (0:Int).toNat)).1.length (DS x y z [(DU x y z,DJ x y z c)] [] c ([Ja],0) (us.drop (0:Int).toNat)).2 p0 p1 p2 q0 q1 q2 s0 s1 s2 D0 [(DU x y z,DJ x y z c)] false (DS x y z [(DU x y z,DJ x y z c)] [] c ([Ja],0) (us.drop (0:Int).toNat)).1)) else none
 else none:=by kernel_rfl
abbrev IL(t:T3):PV:=DU t.1 t.2.1 t.2.2
def Kd(e:PV):Rc:=(DA e,(rC e,Dj (rP e)))
def Fx(r:Rc):PV:=Hy r.1.1 r.1.2.1 r.1.2.2 false (r.2.2.map iv) r.2.1
theorem jr(r:Rc):Kd (Fx r)=r:=by
 show(r.1,(r.2.1,Dj (r.2.2.map iv)))=r
 rw[Lj]
theorem nQ(a b:Rc):xn (Fx a) (Fx b)=decide (T5 a.2 b.2):=by
 unfold xn;rw[B2];show Vb a.2.1 (a.2.2.map iv) b.2.1 (b.2.2.map iv)<0 ↔ _
 rw[iR,Lj,Lj]
theorem Vg:∀(N:List Rc) (b:Rc),dW false (Fx b) (N.map Fx)=Fx (D5 b N)
 | [],_=>rfl
 |x::N,b=>by
  rw[AW,dW,Ap,nQ,D5];cases decide (T5 x.2 b.2) with
  |true=>exact Vg N x
  |false=>exact Vg N b
theorem bQ(n:Rc)(N:List Rc)(z:PV):dW true z ((n::N).map Fx)=Fx (D5 n N):=by
 rw[AW,dW,Aj];exact Vg N n
theorem nR(t:T3)(r:Rc):IK t.1 t.2.1 t.2.2 (Fx r)=decide (r.1=t):=by
 cases h:IK t.1 t.2.1 t.2.2 (Fx r) with
 |true=>have:=IY.1 h;exact(Ac this).symm
 |false=>
  refine(Ai fun e=>?_).symm;rw[show IK t.1 t.2.1 t.2.2 (Fx r)=true from IY.2 e]at h;cases h
theorem SP(t:T3):∀ N:List Rc,Dg (IK t.1 t.2.1 t.2.2) (N.map Fx)=(Gv t N).map Fx
 | []=>rfl
 |x::N=>by
  have ih:=SP t N;show List.filter _ (Fx x::N.map Fx)=_
  rw[B_,nR];show _=(List.filter _ (x::N)).map Fx
  rw[B_];cases decide (x.1=t) with
  |true=>exact ih
  |false=>
   show Fx x::Dg _ (N.map Fx)=Fx x::(Gv t N).map Fx
   rw[ih]
def Qd(r:Rc):PV:=if r.2.2=[] then DJ r.1.1 r.1.2.1 r.1.2.2 r.2.1 else Fx r
def F0(r:Rc):PV×PV:=(IL r.1,Qd r)
theorem Ke{s t:T3}:JU (IL s) (IL t)=decide (s=t):=by
 cases h:JU (IL s) (IL t) with
 |true=>
  rw[QP]at h;exact(Ac (Prod.ext h.1 (Prod.ext h.2.1 h.2.2))).symm
 |false=>
  refine(Ai fun e=>?_).symm;subst e;rw[show JU (IL s) (IL s)=true from QP.2 ⟨rfl,rfl,rfl⟩]at h;cases h
theorem Ll(t:T3):∀ D:List Rc,EN (D.map F0) (IL t)=decide (t∈D.map (·.1))
 | []=>by simp[EN]
 |x::D=>by
  show(JU (IL t) (IL x.1)||EN (D.map F0) (IL t))=_
  rw[Ke,Ll t D];by_cases h:t=x.1
  ·rw[Ac h,Ac (show t∈(x::D).map (·.1) by rw[h];simp)];rfl
  ·rw[Ai h,Bk,B2];simp only[AW,AK,h,Dv]
theorem XD{t:T3}{v:PV}:∀{D:List Rc},t∉D.map (·.1)->EV (D.map F0) (IL t) v=D.map F0++[(IL t,v)]
 | [],_=>rfl
 |x::D,h=>by
  simp only[AW,AK,not_or]at h;show(bif JU (IL t) (IL x.1) then _ else (IL x.1,Qd x)::EV (D.map F0) (IL t) v)=_
  rw[Ke,Ai h.1,Ap,XD h.2];rfl
def nS(x y z:Int)(D:List (PV×PV))(ps:List PV)(c:Int)(a:PV):List PV:=bif jk a x y z D then [vl a ps c] else []
def nxW(x y z:Int)(D:List (PV×PV))(ps:List PV)(rc:Int)(e:PV):List PV:=(Tb e).flatMap (nS x y z D (ps++[iv (wI e)]) (rc+Du (wL e)))
theorem XE{x y z:Int}{D:List (PV×PV)}{ps:List PV}{c:Int}{s:List PV×Nat}{e:PV}(h:s.2<=s.1.length):(JE x y z D ps c s e).1.take (JE x y z D ps c s e).2=s.1.take s.2++nS x y z D ps c e:=by
 unfold JE nS;cases jk e x y z D with
 |false=>show s.1.take s.2=_++[];rw[BV]
 |true=>exact ji h
theorem dY{x y z:Int}{D:List (PV×PV)}{ps:List PV}{rc:Int}{s:List PV×Nat}{e:PV}(h:s.2<=s.1.length):(IN x y z D ps rc s e).1.take (IN x y z D ps rc s e).2=s.1.take s.2++nxW x y z D ps rc e:=by
 have a:=Kc (x:=x) (y:=y) (z:=z) (D:=D) (ps:=ps++[iv (wI e)]) (c:=rc+Du (wL e)) (s:=s) (e:=jl (eF e) (eL e)) h;show(JE x y z D _ _ (JE x y z D _ _ s _) _).1.take (JE x y z D _ _ (JE x y z D _ _ s _) _).2=_
 rw[XE a.1,XE h,BA];show _=_++(nS _ _ _ _ _ _ _++(nS _ _ _ _ _ _ _++[]))
 rw[BV]
theorem OU{x y z:Int}{D:List (PV×PV)}{ps:List PV}{rc:Int}:∀{l:List PV} {s:List PV×Nat},s.2<=s.1.length->(DS x y z D ps rc s l).2<=(DS x y z D ps rc s l).1.length/\(DS x y z D ps rc s l).1.length<=s.1.length+2*l.length
 | [],s,h=>⟨h,by simp[DS]⟩
 |e::l,s,h=>by
  obtain⟨a1,a2,a3⟩:=Jv (x:=x) (y:=y) (z:=z) (D:=D) (ps:=ps) (rc:=rc) (s:=s) (e:=e) h;obtain⟨b1,b2⟩:=OU (l:=l) a1;refine⟨b1,?_⟩;show(DS x y z D ps rc (IN x y z D ps rc s e) l).1.length<=_
  simp only[As];omega
theorem MU{x y z:Int}{D:List (PV×PV)}{ps:List PV}{rc:Int}:∀{l:List PV} {s:List PV×Nat},s.2<=s.1.length->(DS x y z D ps rc s l).1.take (DS x y z D ps rc s l).2=s.1.take s.2++l.flatMap (nxW x y z D ps rc)
 | [],s,_=>by show s.1.take s.2=_++[];rw[BV]
 |e::l,s,h=>by
  obtain⟨a1,_,_⟩:=Jv (x:=x) (y:=y) (z:=z) (D:=D) (ps:=ps) (rc:=rc) (s:=s) (e:=e) h;show(DS x y z D ps rc (IN x y z D ps rc s e) l).1.take (DS x y z D ps rc (IN x y z D ps rc s e) l).2=_
  rw[MU a1,dY h,BA,C8]
theorem js{es:List PV}{k:Nat}{z:PV}(h:Ei Uf es)(hz:Uf z=z):Ei Uf (nO es k z):=fun e he=>by
 rcases A5.1 he with he |he
 ·exact h e (B0 he)
 ·rcases AK.1 he with rfl |he
  ·exact hz
  ·exact h e (BQ he)
theorem XF{x y z:Int}{D:List (PV×PV)}{ps:List PV}{c:Int}{s:List PV×Nat}{e:PV}(h:Ei Uf s.1):Ei Uf (JE x y z D ps c s e).1:=by
 unfold JE;cases jk e x y z D with
 |false=>exact h
 |true=>exact js h rfl
theorem MV{x y z:Int}{D:List (PV×PV)}{ps:List PV}{rc:Int}:∀{l:List PV} {s:List PV×Nat},Ei Uf s.1->Ei Uf (DS x y z D ps rc s l).1
 | [],_,h=>h
 |_::l,_,h=>MV (l:=l) (XF (XF h))
theorem SQ{d:PV->Bool}{es:List PV}{k:Nat}(h:Ei Uf es):Ei Uf (FZ d Ja es k):=fun e he=>by
 unfold FZ at he;rcases A5.1 he with he |he
 ·rcases A5.1 he with he |he
  ·unfold Dg at he;exact h e (B0 (Bj.1 he).1)
  ·rw[(List.mem_replicate.1 he).2];rfl
 ·exact h e (BQ he)
theorem SR{d:PV->Bool}{z:PV}{es:List PV}{k:Nat}:(FZ d z es k).take (Dg d (es.take k)).length=Dg d (es.take k):=by
 unfold FZ;rw[BA,List.take_left'];rfl
theorem nT{t:T3}{D:List Rc}(a b:PV):jk (jl a b) t.1 t.2.1 t.2.2 (D.map F0)=(decide (DA a=t) && !decide (DA b∈D.map (·.1))):=by
 unfold jk;rw[<- Ll];congr 1
 show MS (gX a) (gY a) (gL a) t.1 t.2.1 t.2.2=_
 cases h:MS (gX a) (gY a) (gL a) t.1 t.2.1 t.2.2 with
 |true=>
  simp only[MS,Br,Aa,Av]at h;exact(Ac (Prod.ext h.1.1 (Prod.ext h.1.2 h.2))).symm
 |false=>
  refine(Ai fun e=>?_).symm;have h1:gX a=t.1:=congrArg (·.1) e;have h2:gY a=t.2.1:=congrArg (·.2.1) e;have h3:gL a=t.2.2:=congrArg (·.2.2) e;rw[h1,h2,h3]at h;simp[MS]at h
def xr(D:List Rc)(r:Rc)(g:Eg):Option Rc:=if g.1=r.1/\g.2.1∉D.map (·.1) then some (g.2.1,Js r.2 g.2.2.1 g.2.2.2) else none
theorem bR{D:List Rc}{r:Rc}(a b:PV)(id w:Int):nS r.1.1 r.1.2.1 r.1.2.2 (D.map F0) (r.2.2.map iv++[iv id]) (r.2.1+w) (jl a b)=((xr D r (DA a,DA b,id,w)).toList).map Fx:=by
 unfold nS xr;rw[nT];by_cases h1:DA a=r.1
 ·by_cases h2:DA b∈D.map (·.1)
  ·rw[Ac h1,Ac h2,Aq (fun h=>h.2 h2)];rfl
  ·rw[Ac h1,Ai h2,Ak ⟨h1,h2⟩];show [vl (jl a b) (r.2.2.map iv++[iv id]) (r.2.1+w)]=[Fx (DA b,Js r.2 id w)]
   have:r.2.2.map iv++[iv id]=(r.2.2++[id]).map iv:=by simp
   rw[this];rfl
 ·rw[Ai h1,Aq (fun h=>h1 h.1)];rfl
theorem nU{D:List Rc}{r:Rc}(e:PV):nxW r.1.1 r.1.2.1 r.1.2.2 (D.map F0) (r.2.2.map iv) r.2.1 e=(HL (eE e) D r).map Fx:=by
 show nS _ _ _ _ _ _ (jl (eF e) (eL e))++(nS _ _ _ _ _ _ (jl (eL e) (eF e))++[])=((eE e).filterMap (xr D r)).map Fx
 rw[bR,bR,BV];unfold eE;rw[List.filterMap_cons,List.filterMap_cons,List.filterMap_nil];cases xr D r (DA (eF e),DA (eL e),wI e,Du (wL e)) <;> cases xr D r (DA (eL e),DA (eF e),wI e,Du (wL e)) <;> rfl
theorem Vh{D:List Rc}{r:Rc}:∀ us:List PV,us.flatMap (nxW r.1.1 r.1.2.1 r.1.2.2 (D.map F0) (r.2.2.map iv) r.2.1)=(HL (us.flatMap eE) D r).map Fx
 | []=>rfl
 |e::us=>by
  rw[C8,C8,nU,Vh us];show _=((eE e++us.flatMap eE).filterMap (xr D r)).map Fx
  rw[List.filterMap_append,Bx];rfl
def ES(x:PV×PV):Rc:=(DA x.1,(rC x.2,Dj (rP x.2)))
theorem SS(r:Rc):ES (F0 r)=r:=by
 unfold ES F0 Qd;split
 ·rename_i h;show(r.1,(r.2.1,([]:List Int)))=r
  rw[<- h]
 ·show(r.1,(r.2.1,Dj (r.2.2.map iv)))=r
  rw[Lj]
theorem Kf(D:List Rc):(D.map F0).map ES=D:=by
 rw[Cq,show ES ∘ F0=id from funext SS,List.map_id]
theorem Kg(N:List Rc):(N.map Fx).map Kd=N:=by
 rw[Cq,show Kd ∘ Fx=id from funext jr,List.map_id]
abbrev gU(us:List PV):List Eg:=us.flatMap eE
abbrev ZE(us:List PV)(s:T3):List T3:=s::(gU us).map (·.2.1)
abbrev kU:Int:=3037000499000
theorem Vi:∀ us:List PV,(gU us).length=2*us.length
 | []=>rfl
 |e::us=>by
  have ih:=Vi us;show(eE e++gU us).length=_
  rw[Ar,ih];show 2+2*us.length=2*(us.length+1)
  omega
theorem Mu{us:List PV}(s:T3)(h:us.all G9=true):iZ (gU us) (ZE us s) kU where
 k0:=by decide
 nn e he:=by
  obtain⟨w,hw,he⟩:=List.mem_flatMap.1 he;have hu:=Ao.1 h w hw;simp only[G9,Aa,Ab]at hu;have:=F9 hu.2;rcases AK.1 he with rfl |he
  ·exact this
  ·rw[AI.1 he];exact this
 to e he:=AT _ (BN he)
structure P6(us:List PV)(s:T3)(D:List (PV×PV))(es:List PV)(k:Nat):Prop where
 use:us.all G9=true
 SO:us.length<=100
 hk:k<=es.length
 norm:Ei Uf es
 take:es.take k=((es.take k).map Kd).map Fx
 dD:D=(D.map ES).map F0
 dij:Ka (gU us) s (ZE us s) kU (D.map ES) ((es.take k).map Kd)
 ne:∀ x∈(es.take k).map Kd,x.2.2≠[]
 len:es.length<=1+200*D.length
abbrev Ui(us:List PV)(s:T3)(D:List (PV×PV))(es:List PV)(k:Nat):Nat:=mu (gU us) (ZE us s) (D.map ES) ((es.take k).map Kd)
abbrev KB(us:List PV)(s:T3)(D:List (PV×PV))(es:List PV)(k:Nat):List (PV×PV):=(I8 (gU us) (Ui us s D es k+1) (D.map ES) ((es.take k).map Kd)).map F0
theorem P6.vp{us:List PV}{s:T3}{D:List (PV×PV)}{es:List PV}{k:Nat}(h:P6 us s D es k):D.length<=201/\es.length<=40201:=by
 have h1:=h.dij.cap;have h2:=Vi us;have h3:=h.SO;have h4:=h.len;simp only[AV,As]at h1;omega
theorem P6.nil{us:List PV}{s:T3}{D:List (PV×PV)}{es:List PV}(h:P6 us s D es 0):KB us s D es 0=D:=by
 unfold KB;rw[CX,Bq,I8];exact h.dD.symm
theorem P6.cons{us:List PV}{s:T3}{D:List (PV×PV)}{es:List PV}{k:Nat}(h:P6 us s D es k)(hk:0<k):∃ n N,es.take k=(n::N).map Fx/\(es.take k).map Kd=n::N:=by
 cases hN:(es.take k).map Kd with
 |nil=>
  have:=congrArg List.length hN;rw[AV,Az,AC]at this;have:=h.hk;omega
 |cons n N=>exact⟨n,N,by rw[h.take,hN],rfl⟩
theorem P6.known{us:List PV}{s:T3}{D:List (PV×PV)}{es:List PV}{k:Nat}(h:P6 us s D es k)(hk:0<k)(hm:EN D (DU (gX (Dp es k)) (gY (Dp es k)) (gL (Dp es k)))=true):
  P6 us s D (N3 es k) (MT es k).length/\Ui us s D (N3 es k) (MT es k).length<Ui us s D es k/\KB us s D (N3 es k) (MT es k).length=KB us s D es k:=by
 obtain⟨n,N,h1,h2⟩:=h.cons hk;obtain⟨m1,m2⟩:=G8 (N:=N) (b:=n);have hb:Dp es k=Fx (D5 n N):=by show dW true _ (es.take k)=_;rw[h1];exact bQ n N _
 have hkp:MT es k=(Gv (D5 n N).1 (n::N)).map Fx:=by
  show Dg (IK (gX (Dp es k)) (gY (Dp es k)) (gL (Dp es k))) (es.take k)=_
  rw[hb,h1];exact SP (D5 n N).1 (n::N)
 rw[hb,h.dD]at hm;have hm':(D5 n N).1∈(D.map ES).map (·.1):=AO ((Ll (D5 n N).1 (D.map ES)).symm.trans hm);have hd:=h.dij;rw[h2]at hd;obtain⟨g1,g2⟩:=hd.known m1 hm';have htk:(N3 es k).take (MT es k).length=MT es k:=SR;have hdec:((N3 es k).take (MT es k).length).map Kd=Gv (D5 n N).1 (n::N):=by rw[htk,hkp,Kg]
 have hlen:(N3 es k).length=es.length:=IA h.hk;have hle:(MT es k).length<=k:=by
  have:=EE (d:=IK (gX (Dp es k)) (gY (Dp es k)) (gL (Dp es k))) (es.take k);rw[Az]at this;show(Dg _ (es.take k)).length<=k
  omega
 refine⟨⟨h.use,h.SO,by rw[hlen];have:=h.hk;omega,SQ h.norm,by rw[hdec,htk,hkp],h.dD,by rw[hdec];exact g1,fun x hx=>?_,by rw[hlen];exact h.len⟩,?_,?_⟩
 ·rw[hdec]at hx;exact h.ne x (by rw[h2];exact(Bj.1 hx).1)
 ·unfold Ui;rw[hdec,h2];exact g2
 ·unfold KB;rw[hdec];have e1:I8 (gU us) (Ui us s D es k+1) (D.map ES) ((es.take k).map Kd)=I8 (gU us) (Ui us s D es k) (D.map ES) (Gv (D5 n N).1 (n::N)):=by
   rw[h2,I8,Ac hm',Aj]
  rw[e1];congr 1
  refine Ju (Mu s h.use) g1 ?_ ?_
  ·unfold Ui;rw[hdec];omega
  ·unfold Ui;rw[h2];exact g2
theorem P6.take'{us:List PV}{s:T3}{D:List (PV×PV)}{es:List PV}{k:Nat}(h:P6 us s D es k)(hk:0<k)(hm:EN D (DU (gX (Dp es k)) (gY (Dp es k)) (gL (Dp es k)))=false):
  P6 us s (EV D (DU (gX (Dp es k)) (gY (Dp es k)) (gL (Dp es k))) (HG (Dp es k))) (OT us D es k).1 (OT us D es k).2 /\
  Ui us s (EV D (DU (gX (Dp es k)) (gY (Dp es k)) (gL (Dp es k))) (HG (Dp es k))) (OT us D es k).1 (OT us D es k).2<Ui us s D es k /\
  KB us s (EV D (DU (gX (Dp es k)) (gY (Dp es k)) (gL (Dp es k))) (HG (Dp es k))) (OT us D es k).1 (OT us D es k).2=KB us s D es k /\
  (0<=rC (Dp es k)/\rC (Dp es k)<=1000000000000000000/\0<(rP (Dp es k)).length/\(rP (Dp es k)).length<=100000):=by
 obtain⟨n,N,h1,h2⟩:=h.cons hk;obtain⟨m1,m2⟩:=G8 (N:=N) (b:=n);have hb:Dp es k=Fx (D5 n N):=by show dW true _ (es.take k)=_;rw[h1];exact bQ n N _
 have hkp:MT es k=(Gv (D5 n N).1 (n::N)).map Fx:=by
  show Dg (IK (gX (Dp es k)) (gY (Dp es k)) (gL (Dp es k))) (es.take k)=_
  rw[hb,h1];exact SP (D5 n N).1 (n::N)
 have hm0:=hm;rw[hb,h.dD]at hm0;have hm':(D5 n N).1∉(D.map ES).map (·.1):=of_decide_eq_false ((Ll (D5 n N).1 (D.map ES)).symm.trans hm0);have hd:=h.dij;rw[h2]at hd;obtain⟨g1,g2⟩:=hd.take (Mu s h.use) m1 m2 hm';have hne:(D5 n N).2.2≠[]:=h.ne _ (by rw[h2];exact m1);have hput:EV D (DU (gX (Dp es k)) (gY (Dp es k)) (gL (Dp es k))) (HG (Dp es k))=(D.map ES++[D5 n N]).map F0:=by
  rw[hb];have:=XD (v:=Fx (D5 n N)) hm';rw[<- h.dD]at this;refine this.trans ?_;rw[Bx,<- h.dD];show _=D++[F0 (D5 n N)]
  unfold F0 Qd;rw[Aq hne]
 have hw:OT us D es k=DS (D5 n N).1.1 (D5 n N).1.2.1 (D5 n N).1.2.2 ((D.map ES++[D5 n N]).map F0) ((D5 n N).2.2.map iv) (D5 n N).2.1 (N3 es k,(MT es k).length) us:=by
  show DS (gX (Dp es k)) (gY (Dp es k)) (gL (Dp es k)) (EV D (DU (gX (Dp es k)) (gY (Dp es k)) (gL (Dp es k))) (HG (Dp es k))) (rP (Dp es k)) (rC (Dp es k)) (N3 es k,(MT es k).length) (us.drop 0)=_
  rw[hput,hb,AH];rfl
 have htk:(N3 es k).take (MT es k).length=MT es k:=SR;have hlen:(N3 es k).length=es.length:=IA h.hk;have hle:(MT es k).length<=k:=by
  have:=EE (d:=IK (gX (Dp es k)) (gY (Dp es k)) (gL (Dp es k))) (es.take k);rw[Az]at this;show(Dg _ (es.take k)).length<=k
  omega
 have hle2:(MT es k).length<=(N3 es k).length:=by rw[hlen];have:=h.hk;omega
 obtain⟨l1,l2⟩:=OU (x:=(D5 n N).1.1) (y:=(D5 n N).1.2.1) (z:=(D5 n N).1.2.2) (D:=(D.map ES++[D5 n N]).map F0) (ps:=(D5 n N).2.2.map iv) (rc:=(D5 n N).2.1) (l:=us) (s:=(N3 es k,(MT es k).length)) hle2;have hnt:(OT us D es k).1.take (OT us D es k).2=(Gv (D5 n N).1 (n::N)++HL (gU us) (D.map ES++[D5 n N]) (D5 n N)).map Fx:=by
  rw[hw,MU hle2,Vh,Bx];show(N3 es k).take (MT es k).length++_=_
  rw[htk,hkp]
 have hdec:((OT us D es k).1.take (OT us D es k).2).map Kd=Gv (D5 n N).1 (n::N)++HL (gU us) (D.map ES++[D5 n N]) (D5 n N):=by rw[hnt,Kg]
 have hdD:(EV D (DU (gX (Dp es k)) (gY (Dp es k)) (gL (Dp es k))) (HG (Dp es k))).map ES=D.map ES++[D5 n N]:=by rw[hput,Kf]
 have hcap:=h.vp;have hbn:=hd.bN _ m1;have hc0:=(hd.wN _ m1).cost (Mu s h.use).Vd;refine⟨⟨h.use,h.SO,by rw[hw];exact l1,by rw[hw];exact MV (SQ h.norm),by rw[hdec,hnt],by rw[hdD,hput],by rw[hdD,hdec];exact g1,fun x hx=>?_,?_⟩,?_,?_,?_⟩
 ·rw[hdec]at hx;rcases A5.1 hx with hx |hx
  ·exact h.ne x (by rw[h2];exact(Bj.1 hx).1)
  ·obtain⟨e,he,-,rfl⟩:=QU hx;simp
 ·rw[hput,hw];have h4:=h.len;have h5:=h.SO;have l3:(DS (D5 n N).1.1 (D5 n N).1.2.1 (D5 n N).1.2.2 ((D.map ES++[D5 n N]).map F0) ((D5 n N).2.2.map iv) (D5 n N).2.1 (N3 es k,(MT es k).length) us).1.length<=es.length+2*us.length:=by rw[<- hlen];exact l2
  have l4:((D.map ES++[D5 n N]).map F0).length=D.length+1:=by simp
  rw[l4];omega
 ·unfold Ui;rw[hdD,hdec,h2];exact g2
 ·unfold KB;rw[hdD,hdec];have e1:I8 (gU us) (Ui us s D es k+1) (D.map ES) ((es.take k).map Kd)=I8 (gU us) (Ui us s D es k) (D.map ES++[D5 n N]) (Gv (D5 n N).1 (n::N)++HL (gU us) (D.map ES++[D5 n N]) (D5 n N)):=by
   rw[h2,I8,Ai hm',Ap]
  rw[e1];congr 1
  refine Ju (Mu s h.use) g1 ?_ ?_
  ·unfold Ui;rw[hdD,hdec];omega
  ·unfold Ui;rw[h2];exact g2
 ·rw[hb];show 0<=(D5 n N).2.1/\(D5 n N).2.1<=_/\0<((D5 n N).2.2.map iv).length/\((D5 n N).2.2.map iv).length<=100000
  rw[AV];rw[AV]at hbn;have:0<(D5 n N).2.2.length:=List.length_pos_iff.2 hne;refine⟨hc0,?_,this,by omega⟩;have:kU*(D.length:Int)<=kU*201:=Int.mul_le_mul_of_nonneg_left (by omega) (by decide);have:kU*201=610437100299000:=by decide
  omega
abbrev Tl(us:List PV)(s:T3):List (PV×PV):=(XA (gU us) (ZE us s) s).map F0
abbrev muA(us:List PV)(s:T3):Nat:=mu (gU us) (ZE us s) [] [(s,(0,[]))]
theorem P6.first{us:List PV}{x y z:Int}(hu:us.all G9=true)(hf:us.length<=100):
  P6 us (x,y,z) [(DU x y z,DJ x y z 0)] (DS x y z [(DU x y z,DJ x y z 0)] [] 0 ([Ja],0) us).1 (DS x y z [(DU x y z,DJ x y z 0)] [] 0 ([Ja],0) us).2 /\
  Ui us (x,y,z) [(DU x y z,DJ x y z 0)] (DS x y z [(DU x y z,DJ x y z 0)] [] 0 ([Ja],0) us).1 (DS x y z [(DU x y z,DJ x y z 0)] [] 0 ([Ja],0) us).2<muA us (x,y,z) /\
  KB us (x,y,z) [(DU x y z,DJ x y z 0)] (DS x y z [(DU x y z,DJ x y z 0)] [] 0 ([Ja],0) us).1 (DS x y z [(DU x y z,DJ x y z 0)] [] 0 ([Ja],0) us).2=Tl us (x,y,z):=by
 have hD:[(DU x y z,DJ x y z 0)]=([((x,y,z),((0:Int),([]:List Int)))]:List Rc).map F0:=rfl;have h0:(0:Nat)<=([Ja]:List PV).length:=AR _;obtain⟨l1,l2⟩:=OU (x:=x) (y:=y) (z:=z) (D:=[(DU x y z,DJ x y z 0)]) (ps:=[]) (rc:=0) (l:=us) (s:=([Ja],0)) h0;have hnt:(DS x y z [(DU x y z,DJ x y z 0)] [] 0 ([Ja],0) us).1.take (DS x y z [(DU x y z,DJ x y z 0)] [] 0 ([Ja],0) us).2=(HL (gU us) [((x,y,z),(0,[]))] ((x,y,z),(0,[]))).map Fx:=by
  rw[MU h0];show []++_=_
  rw[Bc];exact Vh (D:=[((x,y,z),(0,[]))]) (r:=((x,y,z),(0,[]))) us
 have hdec:((DS x y z [(DU x y z,DJ x y z 0)] [] 0 ([Ja],0) us).1.take (DS x y z [(DU x y z,DJ x y z 0)] [] 0 ([Ja],0) us).2).map Kd=HL (gU us) [((x,y,z),(0,[]))] ((x,y,z),(0,[])):=by rw[hnt,Kg]
 have hdD:([(DU x y z,DJ x y z 0)]:List (PV×PV)).map ES=[((x,y,z),(0,[]))]:=rfl;have hi:Ka (gU us) (x,y,z) (ZE us (x,y,z)) kU [] [((x,y,z),(0,[]))]:=Ka.init (AL ..);obtain⟨g1,g2⟩:=hi.take (Mu (x,y,z) hu) (r:=((x,y,z),(0,[]))) (AL ..) (fun q hq=>by rw[AI.1 hq];exact IE) (fun h=>by cases h);have ha:Gv (x,y,z) [((x,y,z),((0:Int),([]:List Int)))]=[]:=by simp[Gv]
 rw[ha]at g1 g2;refine⟨⟨hu,hf,l1,MV (fun e he=>by rw[AI.1 he];rfl),by rw[hdec,hnt],by rw[hdD,hD],by rw[hdD,hdec];exact g1,fun q hq=>?_,?_⟩,?_,?_⟩
 ·rw[hdec]at hq;obtain⟨e,he,-,rfl⟩:=QU hq;simp
 ·have l3:(DS x y z [(DU x y z,DJ x y z 0)] [] 0 ([Ja],0) us).1.length<=1+2*us.length:=l2;show _<=1+200*1
  omega
 ·unfold Ui muA;rw[hdD,hdec];exact g2
 ·unfold KB Tl XA;rw[hdD,hdec];have e1:I8 (gU us) (mu (gU us) (ZE us (x,y,z)) [] [((x,y,z),(0,[]))]+1) [] [((x,y,z),(0,[]))]=I8 (gU us) (mu (gU us) (ZE us (x,y,z)) [] [((x,y,z),(0,[]))]) [((x,y,z),(0,[]))] (HL (gU us) [((x,y,z),(0,[]))] ((x,y,z),(0,[]))):=by
   rw[I8];show(bif decide ((x,y,z)∈([]:List T3)) then _ else I8 _ _ ([]++[((x,y,z),(0,[]))]) (Gv (x,y,z) [((x,y,z),((0:Int),([]:List Int)))]++HL (gU us) ([]++[((x,y,z),(0,[]))]) ((x,y,z),(0,[]))))=_
   rw[Ai (by simp),Ap,ha,Bc,Bc]
  rw[e1];congr 1
  refine Ju (Mu (x,y,z) hu) g1 ?_ g2;unfold Ui;rw[hdD,hdec];exact Nat.lt_succ_self _
noncomputable def L7(us:List PV)(s:T3):List (PV×PV):=(Classical.choice (⟨⟨Tl us s,rfl⟩⟩:Nonempty {x:List (PV×PV) // x=Tl us s})).1
theorem N4(us:List PV)(s:T3):L7 us s=Tl us s:=(Classical.choice (⟨⟨Tl us s,rfl⟩⟩:Nonempty {x:List (PV×PV) // x=Tl us s})).2
def N5(s:Bool×LS):List PV×List Row:=match s.1 with |true=>Qc.put s.2 |false=>bP.put s.2
def jt(S:List PV)(H:List Row):Option (Bool×LS):=
 match Qc.get S H with
 |some s=>some (true,s)
 |none=>match bP.get S H with |some s=>some (false,s) |none=>none
theorem dZ(S:List PV)(H:List Row)(s:Bool×LS)(h:jt S H=some s):S=(N5 s).1/\H=(N5 s).2:=by
 unfold jt at h;split at h
 ·rename_i q hq;cases h;exact S1.FG _ _ _ hq
 ·split at h
  ·rename_i q hq;cases h;exact S1.FG _ _ _ hq
  ·cases h
noncomputable def Mv:Bool×LS->Bool
 |(true,([.l _ us,.n n,.n k],[.i _,.i _,.i _,.i _,.i _,.i _,.i s0,.i s1,.i s2,.m _,.m D,.l nl es]))=>decide (n=es.length) && !nl&&dB (P6 us (s0,s1,s2) D es k)
 |(false,([.l _ us,.n n,.n k],[.i _,.i _,.i _,.i _,.i _,.i _,.i s0,.i s1,.i s2,.m _,.m D,.i x,.i y,.i z,.i c]))=>dB (n=1/\k=1/\D=[]/\x=s0/\y=s1/\z=s2/\c=0)&&us.all G9&&decide (us.length<=100)
 |_=>false
noncomputable def ju:Bool×LS->DT (PX×List PV×List Row)
 |(true,([.l _ us,.n _,.n k],[.i p0,.i p1,.i p2,.i q0,.i q1,.i q2,.i s0,.i s1,.i s2,.m D0,.m D,.l _ es]))=>.leaf (xq p0 p1 p2 q0 q1 q2 s0 s1 s2 D0 (KB us (s0,s1,s2) D es k))
 |(false,([.l _ us,.n _,.n _],[.i p0,.i p1,.i p2,.i q0,.i q1,.i q2,.i s0,.i s1,.i s2,.m D0,.m _,.i _,.i _,.i _,.i _]))=>.leaf (xq p0 p1 p2 q0 q1 q2 s0 s1 s2 D0 (L7 us (s0,s1,s2)))
 |_=>.no
noncomputable def jv:Bool×LS->Nat
 |(true,([.l _ us,.n _,.n k],[.i _,.i _,.i _,.i _,.i _,.i _,.i s0,.i s1,.i s2,.m _,.m D,.l _ es]))=>Ui us (s0,s1,s2) D es k
 |(false,([.l _ us,.n _,.n _],[.i _,.i _,.i _,.i _,.i _,.i _,.i s0,.i s1,.i s2,.m _,.m _,.i _,.i _,.i _,.i _]))=>muA us (s0,s1,s2)
 |_=>0
theorem aaG:∀ s r,Mv s=true->(ju s).run=some r->r.1≠.normal/\(Dc Try.prog qK 60 33 (Dh Try.f33 6) [4,7,8,9] [6] (N5 s).1 (N5 s).2=some r \/
  ∃ s',Dc Try.prog qK 60 33 (Dh Try.f33 6) [4,7,8,9] [6] (N5 s).1 (N5 s).2=some (.normal,N5 s')/\Mv s'=true/\jv s'<jv s/\(ju s').run=some r):=by
 intro t r hp hr;unfold Mv at hp;split at hp
 ·rename_i f us n k p0 p1 p2 q0 q1 q2 s0 s1 s2 D0 D nl es;simp only[Aa,Ab,Am,DB]at hp;obtain⟨⟨rfl,rfl⟩,h⟩:=hp;have hr':=(Ah hr).symm;refine⟨by rw[hr'];simp,?_⟩;show(Dc Try.prog qK 60 33 (Dh Try.f33 6) [4,7,8,9] [6] (Qc.put (dX f us es.length k p0 p1 p2 q0 q1 q2 s0 s1 s2 D0 D false es)).1 (Qc.put (dX f us es.length k p0 p1 p2 q0 q1 q2 s0 s1 s2 D0 D false es)).2=some r \/
   ∃ s',Dc Try.prog qK 60 33 (Dh Try.f33 6) [4,7,8,9] [6] (Qc.put (dX f us es.length k p0 p1 p2 q0 q1 q2 s0 s1 s2 D0 D false es)).1 (Qc.put (dX f us es.length k p0 p1 p2 q0 q1 q2 s0 s1 s2 D0 D false es)).2=some (.normal,N5 s')/\_/\_/\_)
  obtain⟨c1,c2⟩:=h.vp;have hk:=h.hk;have hsh:(es.take k).all Kb=true:=by
   rw[Ao];intro e he;have hb:=h.dij.bN (Kd e) (BN he);unfold Kb;rw[Ab];have:(Dj (rP e)).length=(rP e).length:=EG _;simp only[Kd,AV]at hb;omega
  rw[q6P,DK rfl,DK rfl,Ac (show es.length=es.length from rfl),Ac hk,Ac (show k<=1000000 by omega),hsh,Ac (show es.length<=1000000 by omega),DX.2 h.norm];simp only[A_,Aj];by_cases h0:0<k
  ·rw[Ac (show(k:Int) > 0 by omega),BZ,Ap];have hlen:(N3 es k).length=es.length:=IA hk;cases hm:EN D (DU (gX (Dp es k)) (gY (Dp es k)) (gL (Dp es k))) with
   |true=>
    obtain⟨g1,g2,g3⟩:=h.known h0 hm;refine .inr ⟨(true,dX f us es.length (MT es k).length p0 p1 p2 q0 q1 q2 s0 s1 s2 D0 D false (N3 es k)),rfl,?_,g2,?_⟩
    ·simp only[Mv,Aa,Ab,Am,DB];exact⟨⟨hlen.symm,trivial⟩,g1⟩
    ·rw[hr'];show some (xq _ _ _ _ _ _ _ _ _ _ (KB us (s0,s1,s2) D (N3 es k) (MT es k).length))=_;rw[g3]
   |false=>
    obtain⟨g1,g2,g3,v1,v2,v3,v4⟩:=h.take' h0 hm;have hle:(MT es k).length<=(N3 es k).length:=by
     rw[hlen];have:=EE (d:=IK (gX (Dp es k)) (gY (Dp es k)) (gL (Dp es k))) (es.take k);rw[Az]at this;show(Dg _ (es.take k)).length<=_
     omega
    have hp14:PN (PM f us es.length (MT es k).length f us us.length 0 p0 p1 p2 q0 q1 q2 s0 s1 s2 D0 (EV D (DU (gX (Dp es k)) (gY (Dp es k)) (gL (Dp es k))) (HG (Dp es k))) false (N3 es k) (gX (Dp es k)) (gY (Dp es k)) (gL (Dp es k)) false (rP (Dp es k)) (rC (Dp es k)))=true:=by
     simp only[PN,Aa,Ab,Am];exact⟨⟨⟨⟨⟨⟨⟨⟨⟨⟨⟨⟨hlen.symm,hle⟩,trivial⟩,by omega⟩,by omega⟩,h.SO⟩,by rw[hlen];omega⟩,h.use⟩,v1⟩,v2⟩,trivial⟩,v3⟩,v4⟩
    rw[Ap,hp14,Aj];refine .inr ⟨(true,dX f us (OT us D es k).1.length (OT us D es k).2 p0 p1 p2 q0 q1 q2 s0 s1 s2 D0 (EV D (DU (gX (Dp es k)) (gY (Dp es k)) (gL (Dp es k))) (HG (Dp es k))) false (OT us D es k).1),rfl,?_,g2,?_⟩
    ·simp only[Mv,Aa,Ab,Am,DB];exact⟨⟨trivial,trivial⟩,g1⟩
    ·rw[hr'];show some (xq _ _ _ _ _ _ _ _ _ _ (KB us (s0,s1,s2) _ (OT us D es k).1 (OT us D es k).2))=_;rw[g3]
  ·have hk0:k=0:=by omega
   subst hk0;rw[Ai (show ¬((0:Nat):Int) > 0 by omega),BT,Aj];refine .inl ?_;rw[hr',h.nil]
 ·rename_i f us n k p0 p1 p2 q0 q1 q2 s0 s1 s2 D0 D x y z c;simp only[Aa,Ab,DB]at hp;obtain⟨⟨⟨rfl,rfl,rfl,rfl,rfl,rfl,rfl⟩,hu⟩,hf⟩:=hp;have hr':=(Ah hr).symm;refine⟨by rw[hr'];simp,?_⟩;obtain⟨g1,g2,g3⟩:=P6.first (x:=x) (y:=y) (z:=z) hu hf
  have hq:=aga f us p0 p1 p2 q0 q1 q2 x y z D0 x y z 0;have hp14:PK (PJ f us 1 0 f us us.length 0 p0 p1 p2 q0 q1 q2 x y z D0 [(DU x y z,DJ x y z 0)] false [Ja] x y z 0)=true:=by
   simp only[PK,Aa,Ab,Am,As,AC];exact⟨⟨⟨⟨⟨⟨⟨⟨⟨⟨by first |exact True.intro |omega,by first |exact True.intro |omega⟩,trivial⟩,by first |exact True.intro |omega⟩,by first |exact True.intro |omega⟩,hf⟩,by first |exact True.intro |omega⟩,hu⟩,by first |exact True.intro |omega⟩,by first |exact True.intro |omega⟩,trivial⟩
  rw[DB.2 (⟨rfl,rfl,rfl,rfl⟩:x=x/\y=y/\z=z/\(0:Int)=0),hp14,Aj,Aj,show(0:Int).toNat=0 from rfl,AH]at hq;refine .inr ⟨(true,dX f us (DS x y z [(DU x y z,DJ x y z 0)] [] 0 ([Ja],0) us).1.length (DS x y z [(DU x y z,DJ x y z 0)] [] 0 ([Ja],0) us).2 p0 p1 p2 q0 q1 q2 x y z D0 [(DU x y z,DJ x y z 0)] false (DS x y z [(DU x y z,DJ x y z 0)] [] 0 ([Ja],0) us).1),hq,?_,g2,?_⟩
  ·simp only[Mv,Aa,Ab,Am,DB];exact⟨⟨trivial,trivial⟩,g1⟩
  ·rw[hr'];show some (xq _ _ _ _ _ _ _ _ _ _ (KB us (x,y,z) _ _ _))=_;rw[g3,<- N4]
 ·cases hp
noncomputable def R60:C9:=qK.Lc 33 6 [4,7,8,9] (JS [] jt Mv ju)
theorem aaI:C4 Try.prog R60.env:=
 qO.Lc Try.func33 (show Try.f33.body=some (D3 Try.f33) by kernel_rfl) (show(loops (D3 Try.f33)).filter (fun b=>Ev b==6)=[Dh Try.f33 6] by kernel_rfl)
  fun hs ro S H d x S' H'=>aH (n:=60) qO [4,7,8,9] [6] N5 dZ jv aaG hs ro S H d x S' H'
def OV:S1:=⟨27,[(3,.mp 3),(10,.Db 49),(11,Dm),(12,Dm)],[.one 30 3 aS,.one 30 3 aS,.one 30 3 aS,.map 30 4]⟩
abbrev qP(f:Bool)(es:List PV)(len i:Int)(p0 p1 p2 q0 q1 q2 s0 s1 s2:Int)(D:List (PV×PV)):LS:=([.l f es,.i len,.i i],[.i p0,.i p1,.i p2,.i q0,.i q1,.i q2,.i s0,.i s1,.i s2,.m D])
noncomputable abbrev xSP(p0 p1 p2 q0 q1 q2 s0 s1 s2:Int)(D:List (PV×PV)):PX×List PV×List Row:=(.exit 0,tm 27 [(3,.mp 3)],(OV.put (qP false [] 0 0 p0 p1 p2 q0 q1 q2 s0 s1 s2 D)).2)
theorem qSP(f:Bool)(es:List PV)(len i:Int)(p0 p1 p2 q0 q1 q2 s0 s1 s2:Int)(D:List (PV×PV)):Dc Try.prog R60 60 37 (Dh Try.f37 3) [3,10,11,12] [3] (OV.put (qP f es len i p0 p1 p2 q0 q1 q2 s0 s1 s2 D)).1 (OV.put (qP f es len i p0 p1 p2 q0 q1 q2 s0 s1 s2 D)).2 =
 bif decide (i<len) then bif decide (0<=i)&&decide (i<(es.length:Int)) then bif PE (wL (es.getD i.toNat .any)) then
  some (.normal,OV.put (qP f es len (W (i+1)) p0 p1 p2 q0 q1 q2 s0 s1 s2 (D9 D (es.getD i.toNat .any)))) else none else none else some (xSP p0 p1 p2 q0 q1 q2 s0 s1 s2 D):=by kernel_rfl
def qR:LS->Bool
 |([.l _ es,.i len,.i i],[.i _,.i _,.i _,.i _,.i _,.i _,.i _,.i _,.i _,.m _])=>decide (len=(es.length:Int))&&decide (0<=i)&&decide (i<=len)&&decide (es.length<=1000)&&(es.drop i.toNat).all fun e=>PE (wL e)
 |_=>false
noncomputable def fSP:LS->DT (PX×List PV×List Row)
 |([.l _ es,.i _,.i i],[.i p0,.i p1,.i p2,.i q0,.i q1,.i q2,.i s0,.i s1,.i s2,.m D])=>.leaf (xSP p0 p1 p2 q0 q1 q2 s0 s1 s2 (G4 (es.drop i.toNat) D))
 |_=>.no
def mSP:LS->Nat
 |([.l _ _,.i len,.i i],_)=>(len-i).toNat
 |_=>0
theorem sSP:∀ s r,qR s=true->(fSP s).run=some r->r.1≠.normal/\(Dc Try.prog R60 60 37 (Dh Try.f37 3) [3,10,11,12] [3] (OV.put s).1 (OV.put s).2=some r \/
   ∃ s',Dc Try.prog R60 60 37 (Dh Try.f37 3) [3,10,11,12] [3] (OV.put s).1 (OV.put s).2=some (.normal,OV.put s')/\qR s'=true/\mSP s'<mSP s/\(fSP s').run=some r):=by
 intro t r hp hr;unfold qR at hp;split at hp
 ·rename_i f es len i p0 p1 p2 q0 q1 q2 s0 s1 s2 D;simp only[Aa,Ab]at hp;obtain⟨⟨⟨⟨rfl,h2⟩,h3⟩,h4⟩,h5⟩:=hp;have hr':=(Ah hr).symm;refine⟨by rw[hr'];simp,?_⟩;rw[show OV.put ([.l f es,.i (es.length:Int),.i i],[.i p0,.i p1,.i p2,.i q0,.i q1,.i q2,.i s0,.i s1,.i s2,.m D])=OV.put (qP f es (es.length:Int) i p0 p1 p2 q0 q1 q2 s0 s1 s2 D) from rfl,qSP];by_cases hi:i<(es.length:Int)
  ·rw[Dt h2 hi,Cu,Aa]at h5;rw[Ac hi,Ac h2,h5.1,Dx (by omega) (by omega)];refine .inr ⟨qP f es es.length (i+1) p0 p1 p2 q0 q1 q2 s0 s1 s2 (D9 D (es.getD i.toNat .any)),rfl,by simp only[qR,Aa,Ab];exact⟨⟨⟨⟨trivial,by omega⟩,by omega⟩,h4⟩,h5.2⟩,by simp only[mSP];omega,?_⟩;rw[hr',Dt h2 hi];rfl
  ·rw[Ai hi,AB (by omega)] at *;exact .inl (by rw[hr'];rfl)
 ·cases hp
noncomputable def R61:C9:=R60.Dr 37 3 [3,10,11,12] [false,false,false,false] OV qR fSP
theorem aaJ:C4 Try.prog R61.env:=
 aaI.Dr (n:=60) Try.func37 (show Try.f37.body=some (D3 Try.f37) by kernel_rfl) (show(loops (D3 Try.f37)).filter (fun b=>Ev b==3)=[Dh Try.f37 3] by kernel_rfl) [3,10,11,12] [3] [false,false,false,false] OV mSP sSP

noncomputable def R62:C9:=((((R61.Gf 33).Ez 33 1).Ez 12 1).J0 12 1).SU Try.prog xe
theorem jw:C4 Try.prog R62.env:=((((aaJ.Gf 33).Ez 33 1).Ez 12 1).J0 12 1).SU UW
abbrev GP(x y z:Int):Row:={ es:=[DU x y z],s:=3,t:=30,bv:=true }
noncomputable abbrev zRv:PV:=.val ((E9 Try.prog 78).getD undef)
abbrev mD(ws:List PV):List (PV×PV):=G4 ((Dg (Dd false) ws).drop (0:Int).toNat) []
abbrev Tm(D:List (PV×PV))(x y z:Int):Bool:=((FV (.val (.bool false)) D (DU x y z)).cellAt 0).cH
theorem aaL(f:Bool)(ws:List PV)(x y z a b c:Int)(fl:Bool):DC Try.prog R62 60 12 [.Db f 49 ws,DU x y z,DU a b c,bv fl] =
 bif decide (ws.length<=1000)&&EL Ee ws then
 bif qR (qP false (Dg (Dd false) ws) ((Dg (Dd false) ws).length:Int) 0 x y z a b c x y z []) then
 bif Hp [GP x y z,GP a b c,GP x y z] [GP x y z,GP a b c,GP x y z] then
 bif !Tm (mD ws) x y z then
  bif Hp [GP x y z,GP a b c] [GP x y z,GP a b c] then some (.D8 [.Db false 3 [],iv 0,bv false]) else none
 else
 bif decide (ws.length<=1000)&&EL Ee ws then
 bif Mv (false,nP false (Dg (Dd fl) ws) 1 1 x y z a b c x y z (mD ws) [] x y z 0) then
 bif Hp [GP x y z,GP a b c] [GP x y z,GP a b c] then
  some (.D8 [.Db false 3 (rP (FV zRv (L7 (Dg (Dd fl) ws) (x,y,z)) (DU a b c))),iv (rC (FV zRv (L7 (Dg (Dd fl) ws) (x,y,z)) (DU a b c))),bv (EN (L7 (Dg (Dd fl) ws) (x,y,z)) (DU a b c))]) else none
 else none else none
 else none else none else none:=by kernel_rfl
theorem QV(fl:Bool):∀ ws:List PV,gU (Dg (Dd fl) ws)=gE fl ws
 | []=>rfl
 |e::ws=>by
  have ih:=QV fl ws;show(List.filter _ (e::ws)).flatMap eE=(bif Dd fl e then [] else eE e)++gE fl ws
  rw[B_];cases h:Dd fl e with
  |true=>exact ih
  |false=>exact congrArg (eE e ++ ·) ih
theorem GM{fl:Bool}{ws:List PV}(h:IF ws):(Dg (Dd fl) ws).all G9=true:=by
 rw[Ao];intro e he;unfold Dg at he;rw[Bj]at he;obtain⟨h1,h2⟩:=he;simp only[Dd,Am,BJ,AM]at h2;have:=h.wl e h1;simp only[G9,Aa,Am,AM,Ab];omega
theorem XG{x y z:Int}:∀{D:List (PV×PV)},NW D->(EN D (DU x y z)=true ↔ (x,y,z)∈D.map (fun u=>DA u.1))
 | [],_=>by simp[EN]
 |(a,w)::D,h=>by
  have ha:a=ze a:=h (a,w) (AL ..);have ih:=XG (x:=x) (y:=y) (z:=z) (D:=D) fun u hu=>h u (AT _ hu)
  show(JU (DU x y z) a||EN D (DU x y z))=true ↔ _
  rw[A2,ih,AW,AK,ha,QP];show _ ↔ (x,y,z)=(gX a,gY a,gL a)\/_
  simp only[CN]
theorem XH{k v z:PV}:∀{D:List (PV×PV)},(∀ u∈D,u.2=v)->FV z D k=bif EN D k then v else z
 | [],_=>rfl
 |(a,w)::D,h=>by
  have ih:=XH (k:=k) (v:=v) (z:=z) (D:=D) fun u hu=>h u (AT _ hu)
  show(bif JU k a then w else FV z D k)=bif (JU k a||EN D k) then v else z
  cases JU k a with
  |true=>exact h (a,w) (AL ..)
  |false=>exact ih
theorem XI:∀{es:List PV} {D:List (PV×PV)},(∀ u∈D,u.2=bv true)->∀ u∈G4 es D,u.2=bv true
 | [],_,h=>h
 |e::es,D,h=>by
  show ∀ u∈G4 es (D9 D e),_
  refine XI fun u hu=>?_
  unfold D9 at hu;rcases NX hu with hu |rfl
  ·rcases NX hu with hu |rfl
   ·exact h u hu
   ·rfl
  ·rfl
theorem Jy{ws:List PV}{x y z:Int}:Tm (mD ws) x y z=true ↔ E7 ws (x,y,z):=by
 show((FV (.val (.bool false)) (G4 (Dg (Dd false) ws) []) (DU x y z)).cellAt 0).cH=true ↔ _
 rw[XH (v:=bv true) (XI fun u hu=>by cases hu),<- SB (t:=(x,y,z))];show _ ↔ (x,y,z)∈((G4 (Dg (Dd false) ws) []).map (·.1)).map DA
 rw[Cq];have:=XG (x:=x) (y:=y) (z:=z) (Sy (es:=Dg (Dd false) ws) (D:=[]) (fun x hx=>by cases hx)).1;refine Iff.trans ?_ this;cases EN (G4 (Dg (Dd false) ws) []) (DU x y z) <;> simp[cond,PV.cellAt,PV.cells,PV.cH]
theorem XJ{t:T3}{z:PV}:∀{D:List Rc},t∉D.map (·.1)->FV z (D.map F0) (IL t)=z
 | [],_=>rfl
 |x::D,h=>by
  simp only[AW,AK,not_or]at h;show(bif JU (IL t) (IL x.1) then _ else FV z (D.map F0) (IL t))=_
  rw[Ke,Ai h.1];exact XJ h.2
theorem bS{t:T3}{k:Ky}{z:PV}:∀{D:List Rc},(D.map (·.1)).Nodup->(t,k)∈D->FV z (D.map F0) (IL t)=Qd (t,k)
 |x::D,hn,h=>by
  rw[AW,CP]at hn;show(bif JU (IL t) (IL x.1) then Qd x else FV z (D.map F0) (IL t))=_
  rw[Ke];rcases AK.1 h with rfl |h
  ·rw[Ac rfl];rfl
  ·rw[Ai (fun e=>hn.1 (by rw[<- e];exact BN h))];exact bS hn.2 h
theorem vq(r:Rc):rP (Qd r)=r.2.2.map iv:=by
 unfold Qd;split
 ·rename_i h;rw[h];rfl
 ·rfl
theorem jx(r:Rc):rC (Qd r)=r.2.1:=by unfold Qd;split <;> rfl
noncomputable def Jz(ws:List PV)(fl:Bool)(s t:T3):Option Ky:=@ite _ (E7 ws s) (Classical.propDecidable _) (GL (gE fl ws) s t) none
theorem N6{ws:List PV}{fl:Bool}{s t:T3}(h:E7 ws s):Jz ws fl s t=GL (gE fl ws) s t:=Ak h
theorem LI{ws:List PV}{fl:Bool}{s t:T3}(h:¬E7 ws s):Jz ws fl s t=none:=Aq h
def oI(o:Option Ky):List Int:=match o with |some k=>k.2 |none=>[]
def oC(o:Option Ky):Int:=match o with |some k=>k.1 |none=>0
abbrev jy(o:Option Ky):PV:=.D8 [.Db false 3 ((oI o).map iv),iv (oC o),bv o.isSome]
theorem nV{ws:List PV}(fl:Bool)(h:IF ws)(s t:T3)(z:PV)(hz:rP z=[]/\rC z=0):
  rP (FV z (L7 (Dg (Dd fl) ws) s) (IL t))=(oI (GL (gE fl ws) s t)).map iv/\rC (FV z (L7 (Dg (Dd fl) ws) s) (IL t))=oC (GL (gE fl ws) s t)/\EN (L7 (Dg (Dd fl) ws) s) (IL t)=(GL (gE fl ws) s t).isSome:=by
 have hG:=Mu s (GM (fl:=fl) h);have hs:s∈ZE (Dg (Dd fl) ws) s:=AL ..;have hnd:=(HZ hG hs).nd;rw[N4];unfold Tl;rw[Ll];by_cases hk:∃ k,(t,k)∈XA (gU (Dg (Dd fl) ws)) (ZE (Dg (Dd fl) ws) s) s
 ·obtain⟨k,hk⟩:=hk;have hm:GL (gE fl ws) s t=some k:=by
   rw[EO,<- QV];exact(Lk hG hs).1 hk
  rw[bS hnd hk,vq,jx,hm,Ac (BN hk)];exact⟨rfl,rfl,rfl⟩
 ·have hm:GL (gE fl ws) s t=none:=by
   cases hc:GL (gE fl ws) s t with
   |none=>rfl
   |some k=>
    rw[EO,<- QV]at hc;exact absurd ⟨k,(Lk hG hs).2 hc⟩ hk
  have ho:t∉(XA (gU (Dg (Dd fl) ws)) (ZE (Dg (Dd fl) ws) s) s).map (·.1):=fun hh=>by
   obtain⟨x,hx,rfl⟩:=AY.1 hh;exact hk ⟨x.2,hx⟩
  rw[XJ ho,hm,Ai ho,hz.1,hz.2];exact⟨rfl,rfl,rfl⟩
theorem vr:rP zRv=[]/\rC zRv=0:=by constructor <;> kernel_rfl
theorem vt{ws:List PV}(h:IF ws)(x y z a b c:Int):qR (qP false (Dg (Dd false) ws) ((Dg (Dd false) ws).length:Int) 0 x y z a b c x y z [])=true:=by
 have:=EE (d:=Dd false) ws;have:=h.SO;simp only[qR,Aa,Ab];exact⟨⟨⟨⟨trivial,by omega⟩,by omega⟩,by omega⟩,NY h.G6⟩
theorem jz(f:Bool)(ws:List PV)(x y z a b c:Int)(fl:Bool)(h:IF ws)(hN:Ei Ee ws):DC Try.prog R62 60 12 [.Db f 49 ws,DU x y z,DU a b c,bv fl] =
  some (jy (Jz ws fl (x,y,z) (a,b,c))):=by
 have hf:=h.SO;have hk:=EE (d:=Dd fl) ws;rw[aaL,Ac (show ws.length<=1000 by omega),DX.2 hN,vt h,E5,E5];simp only[A_,Aj];by_cases hs:E7 ws (x,y,z)
 ·have hp:Mv (false,nP false (Dg (Dd fl) ws) 1 1 x y z a b c x y z (mD ws) [] x y z 0)=true:=by
   simp only[Mv,Aa,Ab,DB];exact⟨⟨⟨trivial,trivial,trivial,trivial,trivial,trivial,trivial⟩,GM h⟩,by omega⟩
  rw[Jy.2 hs,hp,N6 hs];obtain⟨g1,g2,g3⟩:=nV fl h (x,y,z) (a,b,c) zRv vr;simp only[BZ,Ap,Aj];rw[show DU a b c=IL (a,b,c) from rfl,g1,g2,g3]
 ·have hg:Tm (mD ws) x y z=false:=by
   cases hh:Tm (mD ws) x y z with
   |true=>exact absurd (Jy.1 hh) hs
   |false=>rfl
  rw[hg,LI hs];rfl
noncomputable def Uj:List PV->Option (DT PV)
 | [.Db _ 49 ws,.agg [.val (.int .i64 x),.val (.int .i64 y),.val (.int .i64 z)],.agg [.val (.int .i64 a),.val (.int .i64 b),.val (.int .i64 c)],.val (.bool fl)]=>
  some (.br (dB (IF ws)&&EL Ee ws) (.leaf (jy (Jz ws fl (x,y,z) (a,b,c)))) .no)
 |_=>none
theorem Vl:Ei Ee []:=fun e h=>by cases h
theorem aaM:Hx.Df Try.prog 12:=(Cz jw (n:=60) (jz false [] 0 0 0 0 0 0 false ZD Vl)).1
theorem aaN(args:List PV)(d:DT PV)(r:PV)(h:Uj args=some d)(hr:d.run=some r):Ds Try.prog 12 args r:=by
 unfold Uj at h;split at h
 ·rename_i f ws x y z a b c fl;cases h;obtain⟨h1,rfl⟩:=DO hr;simp only[Aa,DB,DX]at h1;exact(Cz jw (n:=60) (jz f ws x y z a b c fl h1.1 h1.2)).2
 ·cases h
noncomputable def vu:C9:=R62.DH 12 Uj
theorem qV:C4 Try.prog vu.env:=jw.DH aaM aaN
theorem SW{P:Program}{k:FuncId}{args:List PV}{t:TypeId}{p q:PV}(h:Ds P k args (.D8 [.val (.slice none 0 0),p,q])):Ds P k args (.D8 [.Db false t [],p,q]):=by
 intro C hR Vs hs;refine Calls.mono (h C hR Vs hs) fun e w' hq=>?_
 obtain⟨V,h1,h2,h3⟩:=hq;refine⟨V,h1,h2,?_⟩;cases h3 with
 |D8 hz hh=>
  refine .D8 hz fun j c v g1 g2=>?_
  match j with
  |0=>
   have:=hh 0 _ v rfl g2;cases g1;cases this;exact .Db 0 0 (fun _ _=>undef) (Al _) (fun h=>by cases h) (fun h=>by simp at h) (fun x e j p h1 _=>by simp at h1) (fun x e j p h1 _=>by simp at h1) (fun e h1=>by cases h1)
  |j+1=>exact hh (j+1) c v g1 g2
def L8:S1:=⟨47,[(6,.ptr 1 1 0 0),(11,.Db 83),(12,Dm)],[.one 30 3 aS,.one 30 3 aS]⟩
abbrev ln(f:Bool)(es:List PV)(i x y z a b c:Int):LS:=([.l f es,.i i],[.i x,.i y,.i z,.i a,.i b,.i c])
noncomputable abbrev hRp(x y z a b c:Int):List Row:=(L8.put (ln false [] 0 x y z a b c)).2
noncomputable abbrev vv(x y z a b c:Int):PX×List PV×List Row:=(.exit 0,tm 47 [],hRp x y z a b c)
noncomputable abbrev vw(e:PV)(x y z a b c:Int):PX×List PV×List Row:=(.ret,tm 47 [(8,.Db false 3 (rP e)),(9,iv (rC e)),(10,bv true)],hRp x y z a b c)
noncomputable def jA:C9:=vu.DH 34 vi
theorem vx:C4 Try.prog jA.env:=qV.DH af3 af4
theorem qRp(f:Bool)(es:List PV)(i x y z a b c:Int):Dc Try.prog jA 60 13 (Dh Try.f13 3) [6,11,12] [8,9,10] (L8.put (ln f es i x y z a b c)).1 (L8.put (ln f es i x y z a b c)).2 =
 bif decide (i<(es.length:Int)) then bif F7 es i then bif rS (aE es i) then bif F7 es i then bif cond true (MS (gX (aE es i)) (gY (aE es i)) (gL (aE es i)) a b c) false then bif F7 es i then bif F7 es i then some (vw (aE es i) x y z a b c) else none else none
  else some (.normal,L8.put (ln f es (W (i+1)) x y z a b c)) else none else some (.normal,L8.put (ln f es (W (i+1)) x y z a b c)) else none else some (vv x y z a b c):=by kernel_rfl
def KC(t:T3)(e:PV):Bool:=rS e&&decide (DA e=t)
theorem nW{e:PV}{a b c:Int}:MS (gX e) (gY e) (gL e) a b c=decide (DA e=(a,b,c)):=by
 rw[Bool.eq_iff_iff];simp only[MS,Br,Aa,Av,Ab,CN,and_assoc]
def nX:LS->Bool
 |([.l _ es,.i i],[.i _,.i _,.i _,.i _,.i _,.i _])=>decide (0<=i)&&decide (i<=(es.length:Int))&&decide (es.length<=10000)
 |_=>false
noncomputable def fRp:LS->DT (PX×List PV×List Row)
 |([.l _ es,.i i],[.i x,.i y,.i z,.i a,.i b,.i c])=>.br ((es.drop i.toNat).any (KC (a,b,c))) (.leaf (vw (((es.drop i.toNat).find? (KC (a,b,c))).getD .any) x y z a b c)) (.leaf (vv x y z a b c))
 |_=>.no
def xt:LS->Nat
 |([.l _ es,.i i],_)=>((es.length:Int)-i).toNat
 |_=>0
theorem sRp:∀ s r,nX s=true->(fRp s).run=some r->r.1≠.normal/\(Dc Try.prog jA 60 13 (Dh Try.f13 3) [6,11,12] [8,9,10] (L8.put s).1 (L8.put s).2=some r \/
   ∃ s',Dc Try.prog jA 60 13 (Dh Try.f13 3) [6,11,12] [8,9,10] (L8.put s).1 (L8.put s).2=some (.normal,L8.put s')/\nX s'=true/\xt s'<xt s/\(fRp s').run=some r):=by
 intro t r hp hr;unfold nX at hp;split at hp
 ·rename_i f es i x y z a b c;simp only[Aa,Ab]at hp;obtain⟨⟨h2,h3⟩,h4⟩:=hp;have hr':=Gb hr;refine⟨by rw[hr'];cases(es.drop i.toNat).any (KC (a,b,c)) <;> simp,?_⟩;rw[show L8.put ([.l f es,.i i],[.i x,.i y,.i z,.i a,.i b,.i c])=L8.put (ln f es i x y z a b c) from rfl,qRp];by_cases hi:i<(es.length:Int)
  ·rw[Ac hi,D1 h2 hi,nW,Dx (by omega) (by omega)];simp only[Aj];rw[Dt h2 hi,List.any_cons,CQ]at hr';have hgo:(((es.drop (i+1).toNat).any (KC (a,b,c))=true->r=vw (((es.drop (i+1).toNat).find? (KC (a,b,c))).getD .any) x y z a b c)/\((es.drop (i+1).toNat).any (KC (a,b,c))=false->r=vv x y z a b c)) ->
     ∃ s',some (PX.normal,L8.put (ln f es (i+1) x y z a b c))=some (PX.normal,L8.put s')/\nX s'=true/\xt s'<xt ([.l f es,.i i],[.i x,.i y,.i z,.i a,.i b,.i c])/\(fRp s').run=some r:=fun hh=>by
    refine⟨ln f es (i+1) x y z a b c,rfl,by simp only[nX,Aa,Ab];exact⟨⟨by omega,by omega⟩,h4⟩,by simp only[xt];omega,?_⟩;show(DT.br ((es.drop (i+1).toNat).any (KC (a,b,c))) (.leaf _) (.leaf _)).run=some r
    cases hq:(es.drop (i+1).toNat).any (KC (a,b,c)) with
    |true=>rw[hh.1 hq];rfl
    |false=>rw[hh.2 hq];rfl
   have e0:KC (a,b,c) (es.getD i.toNat .any)=(rS (aE es i)&&decide (DA (aE es i)=(a,b,c))):=rfl;rw[e0]at hr';cases h1:rS (aE es i) with
   |false=>
    rw[h1]at hr';simp only[Cf,Bk]at hr';exact .inr (hgo ⟨fun hq=>by rw[hr',hq];rfl,fun hq=>by rw[hr',hq];rfl⟩)
   |true=>
    cases h5:decide (DA (aE es i)=(a,b,c)) with
    |false=>
     rw[h1,h5]at hr';simp only[BW,Bk]at hr';exact .inr (hgo ⟨fun hq=>by rw[hr',hq];rfl,fun hq=>by rw[hr',hq];rfl⟩)
    |true=>
     rw[h1,h5]at hr';simp only[BW,Bool.true_or,Aj]at hr';exact .inl (by rw[hr'];rfl)
  ·rw[Ai hi,AB (by omega)] at *;exact .inl (by rw[hr'];rfl)
 ·cases hp
noncomputable def R64:C9:=jA.Dr 13 3 [6,11,12] [false,false] L8 nX fRp
theorem bT:C4 Try.prog R64.env:=
 vx.Dr (n:=60) Try.func13 (show Try.f13.body=some (D3 Try.f13) by kernel_rfl) (show(loops (D3 Try.f13)).filter (fun b=>Ev b==3)=[Dh Try.f13 3] by kernel_rfl) [6,11,12] [8,9,10] [false,false] L8 xt sRp
theorem jB(f:Bool)(ws:List PV)(x y z a b c:Int)(fl:Bool):DC Try.prog R64 60 13 [.Db f 49 ws,DU x y z,DU a b c,bv fl] =
 bif dB (IF ws) then bif decide (DI x y z 0 (DL ws [])<0) then some (.D8 [.val (.slice none 0 0),iv 0,bv false]) else
  bif nX (ln false (Vf ws fl x y z) 0 x y z a b c) then bif ((Vf ws fl x y z).drop (0:Int).toNat).any (KC (a,b,c)) then
   some (.D8 [.Db false 3 (rP ((((Vf ws fl x y z).drop (0:Int).toNat).find? (KC (a,b,c))).getD .any)),iv (rC ((((Vf ws fl x y z).drop (0:Int).toNat).find? (KC (a,b,c))).getD .any)),bv true])
  else some (.D8 [.val (.slice none 0 0),iv 0,bv false]) else none else none:=by kernel_rfl
theorem jC{t:T3}{f:OF}:∀{l:List PV},LZ l f->((Fv l f).any (KC t)=(f t).isSome/\(∀ k,f t=some k->(Fv l f).find? (KC t)=some (Li t (some k)))):=by
 intro l hS;have key:∀ e:PV,KC t (Li (DA e) (f (DA e)))=((f (DA e)).isSome&&decide (DA e=t)):=fun e=>by
  unfold KC;rw[iX,bu]
 have h1:∀ l:List PV,(t∈l.map DA->∀ k,f t=some k->(Fv l f).find? (KC t)=some (Li t (some k))):=by
  intro l;induction l with
  |nil=>intro h;cases h
  |cons e l ih=>
   intro h k hk;show((Li (DA e) (f (DA e)))::Fv l f).find? (KC t)=_
   rw[CQ,key];by_cases he:DA e=t
   ·rw[he,hk,Ac rfl];rfl
   ·rw[Ai he,BG];rw[AW,AK]at h;exact ih (h.resolve_left fun e=>he e.symm) k hk
 refine⟨?_,fun k hk=>h1 l (hS t k hk) k hk⟩;cases hf:f t with
 |none=>
  rw[Option.isSome_none,List.any_eq_false];intro e he;obtain⟨u,_,rfl⟩:=AY.1 he;rw[key];simp only[Aa,Ab,not_and];intro h2 h3;rw[h3,hf]at h2;cases h2
 |some k=>
  rw[Cg,List.any_eq_true];have h2:=h1 l (hS t k hf) k hf;exact⟨_,B6 h2,List.find?_some h2⟩
theorem jD{ws:List PV}{fl:Bool}{x y z:Int}(h:IF ws)(hs:E7 ws (x,y,z)):LZ (DL ws []) (GL (gE fl ws) (x,y,z)):=fun v k hk=>by
 obtain⟨h1,h2⟩:=jd h;rw[EO]at hk;obtain⟨hw,_⟩:=hk;cases hw with
 |nil=>exact FW.2 hs
 |step hw he=>exact(XB fl h1 _ he).2
theorem vy(t:T3)(k:Ky):rP (Li t (some k))=k.2.map iv:=rfl
theorem vz(t:T3)(k:Ky):rC (Li t (some k))=k.1:=rfl
theorem nY(f:Bool)(ws:List PV)(x y z a b c:Int)(fl:Bool)(h:IF ws):Ds Try.prog 13 [.Db f 49 ws,DU x y z,DU a b c,bv fl] (jy (Jz ws fl (x,y,z) (a,b,c))):=by
 have hq:=jB f ws x y z a b c fl;rw[DB.2 h,Aj]at hq;cases hd:decide (DI x y z 0 (DL ws [])<0) with
 |true=>
  rw[hd,Aj]at hq;rw[Ab,Gu (by omega),FW]at hd;rw[LI hd];exact SW (Cz bT (n:=60) hq).2
 |false=>
  rw[hd,Ap]at hq;rw[AS,Gu (by omega),C7,FW]at hd;obtain⟨h1,h2⟩:=jd h;have e1:(Vf ws fl x y z).length=(DL ws []).length:=Fw;have hp:nX (ln false (Vf ws fl x y z) 0 x y z a b c)=true:=by
   simp only[nX,Aa,Ab];exact⟨⟨by omega,by omega⟩,by omega⟩
  obtain⟨g1,g2⟩:=jC (t:=(a,b,c)) (jD (fl:=fl) h hd);rw[hp,Aj,show(0:Int).toNat=0 from rfl,AH,g1]at hq;rw[N6 hd];cases hm:GL (gE fl ws) (x,y,z) (a,b,c) with
  |none=>
   rw[hm]at hq;exact SW (Cz bT (n:=60) hq).2
  |some k=>
   rw[g2 k hm,hm,Cg,Aj,Bv,vy,vz]at hq;exact(Cz bT (n:=60) hq).2
theorem vA:Hx.Df Try.prog 13:=(Cz bT (n:=60) ((jB false [] 0 0 0 0 0 0 false).trans (by rw[DB.2 ZD];rfl))).1
theorem vB(args:List PV)(d:DT PV)(r:PV)(h:Uj args=some d)(hr:d.run=some r):Ds Try.prog 13 args r:=by
 unfold Uj at h;split at h
 ·rename_i f ws x y z a b c fl;cases h;obtain⟨h1,rfl⟩:=DO hr;simp only[Aa,DB,DX]at h1;exact nY f ws x y z a b c fl h1.1
 ·cases h
def Fp:S1:=⟨116,[(4,.ptr 2 1 0 0),(7,.Db 49),(8,.mp 4),(9,.sl 5),(10,.ptr 6 1 0 0),(15,.ptr 8 1 0 0),(57,.Db 49),(58,Dm),(59,Dm),(74,.sl 11),(75,Dm),(76,Dm)],
 [.one 30 3 aS,.map 30 3,.one 30 3 aS,.map 30 4,.map 30 78,.many 78 5,.Gx 78 5 (.agg [Dm,Dm,Dm,.nil,Dm]),.dead,.Gx 49 8 aW,.one 30 3 aS,.one 30 3 aS,.many 116 6]⟩
abbrev JA(f:Bool)(us:List PV)(n k:Nat)(f2:Bool)(us2:List PV)(len i:Int)(n2 k2:Nat)(l2 j p0 p1 p2:Int)(Dq:List (PV×PV))(s0 s1 s2:Int)(D0 D:List (PV×PV))(nl:Bool)(es:List PV)(x y z:Int)(rc:Int)
 (wi:Int) (wf:Bool) (wl:List PV) (lv:Int) (cs nm:ByteArray) (st:Bool) (wt ds a0 a1 a2 b0 b1 b2:Int) (nl2:Bool) (ab:List PV):LS:=
 ([.l f us,.n n,.n k,.l f2 us2,.i len,.i i,.n n2,.n k2,.i l2,.i j],[.i p0,.i p1,.i p2,.m Dq,.i s0,.i s1,.i s2,.m D0,.m D,.l nl es,.i x,.i y,.i z,.i rc,
  .i wi,.l wf wl,.i lv,.s cs,.s nm,.b st,.i wt,.i ds,.i a0,.i a1,.i a2,.i b0,.i b1,.i b2,.l nl2 ab])
noncomputable abbrev qW(f:Bool)(us:List PV)(n k:Nat)(f2:Bool)(us2:List PV)(len i p0 p1 p2:Int)(Dq:List (PV×PV))(s0 s1 s2:Int)(D0 D:List (PV×PV))(nl:Bool)(es:List PV)(x y z:Int)(rc:Int)
 (wi:Int) (wf:Bool) (wl:List PV) (lv:Int) (cs nm:ByteArray) (st:Bool) (wt ds a0 a1 a2 b0 b1 b2:Int) (nl2:Bool) (ab:List PV):PX×List PV×List Row:=
 (.exit 4,tm 116 [(4,.ptr 2 1 0 0),(7,.Db f 49 us),(8,.mp 4),(9,.sl 5 n 0 k),(10,.ptr 6 1 0 0),(57,.Db f2 49 us2),(58,iv len),(59,iv i)],
  (Fp.put (JA f us n k f2 us2 len i 0 0 0 0 p0 p1 p2 Dq s0 s1 s2 D0 D nl es x y z rc wi wf wl lv cs nm st wt ds a0 a1 a2 b0 b1 b2 nl2 ab)).2)
noncomputable abbrev qZ(p0 p1 p2:Int)(Dq:List (PV×PV))(s0 s1 s2:Int)(D0 D:List (PV×PV))(nl:Bool)(es:List PV)(x y z:Int)(rc:Int)
 (wi:Int) (wf:Bool) (wl:List PV) (lv:Int) (cs nm:ByteArray) (st:Bool) (wt ds a0 a1 a2 b0 b1 b2:Int) (nl2:Bool) (ab:List PV) (j:Int):List Row:=
 (Fp.put (JA false [] 0 0 false [] 0 0 0 0 0 0 p0 p1 p2 Dq s0 s1 s2 D0 D nl es x y z rc wi wf wl lv cs nm st wt ds a0 a1 a2 b0 b1 b2 nl2 ab)).2++[bG (rE ab j),Dy]
theorem q5(f:Bool)(us:List PV)(n k:Nat)(f2:Bool)(us2:List PV)(len i:Int)(n2 k2:Nat)(l2 j p0 p1 p2:Int)(Dq:List (PV×PV))(s0 s1 s2:Int)(D0 D:List (PV×PV))(es:List PV)(x y z:Int)(rc:Int)
 (wi:Int) (wf:Bool) (wl:List PV) (lv:Int) (cs nm:ByteArray) (st:Bool) (wt ds a0 a1 a2 b0 b1 b2:Int) (nl2:Bool) (ab:List PV):
 Dc Try.prog vu 60 33 (Dh Try.f33 18) [4,7,8,9,10,15,57,58,59,74,75,76] [4,7,8,9,10,57,58,59] (Fp.put (JA f us n k f2 us2 len i n2 k2 l2 j p0 p1 p2 Dq s0 s1 s2 D0 D false es x y z rc wi wf wl lv cs nm st wt ds a0 a1 a2 b0 b1 b2 nl2 ab)).1 (Fp.put (JA f us n k f2 us2 len i n2 k2 l2 j p0 p1 p2 Dq s0 s1 s2 D0 D false es x y z rc wi wf wl lv cs nm st wt ds a0 a1 a2 b0 b1 b2 nl2 ab)).2 =
 bif decide (j<l2) then Sj ab n2 k2 j (HV ab n2 (bif MS (cI (rE ab j) 0) (cI (rE ab j) 1) (cI (rE ab j) 2) x y z then bif !EN D (DU (cI (rE ab j) 3) (cI (rE ab j) 4) (cI (rE ab j) 5)) then
  bif Hp (qZ p0 p1 p2 Dq s0 s1 s2 D0 D false es x y z rc wi wf wl lv cs nm st wt ds a0 a1 a2 b0 b1 b2 nl2 ab j) (qZ p0 p1 p2 Dq s0 s1 s2 D0 D false es x y z rc wi wf wl lv cs nm st wt ds a0 a1 a2 b0 b1 b2 nl2 ab j) then
  bif decide (wl.length<=100000) then bif (es.length==n)&&(decide (k<=n)&&decide ((n+1)*56<=140737488355328)) then
   some (.normal,Fp.put (JA f us (max n (k+1)) (k+1) f2 us2 len i n2 k2 l2 (W (j+1)) p0 p1 p2 Dq s0 s1 s2 D0 D false (es.take k++Hy (cI (rE ab j) 3) (cI (rE ab j) 4) (cI (rE ab j) 5) false [iv wi] (W (rc+Du wl))::es.drop (k+1)) x y z rc wi wf wl lv cs nm st wt ds a0 a1 a2 b0 b1 b2 nl2 ab))
  else none else none else none
  else some (.normal,Fp.put (JA f us n k f2 us2 len i n2 k2 l2 (W (j+1)) p0 p1 p2 Dq s0 s1 s2 D0 D false es x y z rc wi wf wl lv cs nm st wt ds a0 a1 a2 b0 b1 b2 nl2 ab))
  else some (.normal,Fp.put (JA f us n k f2 us2 len i n2 k2 l2 (W (j+1)) p0 p1 p2 Dq s0 s1 s2 D0 D false es x y z rc wi wf wl lv cs nm st wt ds a0 a1 a2 b0 b1 b2 nl2 ab))))
 else some (qW f us n k f2 us2 len i p0 p1 p2 Dq s0 s1 s2 D0 D false es x y z rc wi wf wl lv cs nm st wt ds a0 a1 a2 b0 b1 b2 nl2 ab):=by kernel_rfl
theorem vC(f:Bool)(us:List PV)(k:Nat)(f2:Bool)(us2:List PV)(len i j p0 p1 p2:Int)(Dq:List (PV×PV))(s0 s1 s2:Int)(D0 D:List (PV×PV))(es:List PV)(x y z:Int)(rc:Int)
 (wi:Int) (wf:Bool) (wl:List PV) (lv:Int) (cs nm:ByteArray) (st:Bool) (wt ds a0 a1 a2 b0 b1 b2:Int) (nl2:Bool) (ab:List PV) (hj:0<=j) (hj2:j<(ab.length:Int)) (hab:ab.length<=2) (hk:k<=es.length) (hes:es.length<=600000) (hwl:wl.length<=1000) (hrc:0<=rc) (hrc2:rc<=1000000000000000000):
 Dc Try.prog vu 60 33 (Dh Try.f33 18) [4,7,8,9,10,15,57,58,59,74,75,76] [4,7,8,9,10,57,58,59] (Fp.put (JA f us es.length k f2 us2 len i ab.length ab.length ab.length j p0 p1 p2 Dq s0 s1 s2 D0 D false es x y z rc wi wf wl lv cs nm st wt ds a0 a1 a2 b0 b1 b2 nl2 ab)).1 (Fp.put (JA f us es.length k f2 us2 len i ab.length ab.length ab.length j p0 p1 p2 Dq s0 s1 s2 D0 D false es x y z rc wi wf wl lv cs nm st wt ds a0 a1 a2 b0 b1 b2 nl2 ab)).2 =
 some (.normal,Fp.put (JA f us (JE x y z D ([]++[iv wi]) (rc+Du wl) (es,k) (aE ab j)).1.length (JE x y z D ([]++[iv wi]) (rc+Du wl) (es,k) (aE ab j)).2 f2 us2 len i ab.length ab.length ab.length (j+1) p0 p1 p2 Dq s0 s1 s2 D0 D false (JE x y z D ([]++[iv wi]) (rc+Du wl) (es,k) (aE ab j)).1 x y z rc wi wf wl lv cs nm st wt ds a0 a1 a2 b0 b1 b2 nl2 ab)):=by
 obtain⟨w1,w2⟩:=F9 hwl;rw[q5,Ac hj2,Aj,FD rfl hj hj2,DK rfl,Dx (n:=j+1) (by omega) (by omega),Dx (n:=rc+Du wl) (by omega) (by omega),ON,E5,
  Ac (show wl.length<=100000 by omega),show((es.length==es.length)&&(decide (k<=es.length)&&decide ((es.length+1)*56<=140737488355328)))=true by simp only[AP,BW,Aa,Ab];omega]
 simp only[Aj];unfold JE jk;cases h1:MS (cI (aE ab j) 0) (cI (aE ab j) 1) (cI (aE ab j) 2) x y z with
 |false=>rfl
 |true=>
  cases h2:EN D (DU (cI (aE ab j) 3) (cI (aE ab j) 4) (cI (aE ab j) 5)) with
  |true=>rfl
  |false=>
   have e1:=N2 (z:=vl (aE ab j) ([]++[iv wi]) (rc+Du wl)) hk;simp only[Aj,BT,A_,e1];rfl
def PR:LS->Bool
 |([.l _ _,.n n,.n k,.l _ _,.i _,.i _,.n n2,.n k2,.i l2,.i j],[.i _,.i _,.i _,.m _,.i _,.i _,.i _,.m _,.m _,.l nl es,.i _,.i _,.i _,.i rc,
  .i _,.l _ wl,.i _,.s _,.s _,.b _,.i _,.i _,.i _,.i _,.i _,.i _,.i _,.i _,.l _ ab])=>
  decide (n=es.length)&&decide (k<=es.length)&&decide (n2=ab.length)&&decide (k2=ab.length)&&decide (l2=(ab.length:Int))&&decide (0<=j)&&decide (j<=(ab.length:Int))&&decide (ab.length<=2)&&decide ((es.length:Int)<=500000+j)&&decide (wl.length<=1000)&&decide (0<=rc)&&decide (rc<=1000000000000000000) && !nl
 |_=>false
noncomputable def jE:LS->DT (PX×List PV×List Row)
 |([.l f us,.n _,.n k,.l f2 us2,.i len,.i i,.n _,.n _,.i _,.i j],[.i p0,.i p1,.i p2,.m Dq,.i s0,.i s1,.i s2,.m D0,.m D,.l _ es,.i x,.i y,.i z,.i rc,
  .i wi,.l wf wl,.i lv,.s cs,.s nm,.b st,.i wt,.i ds,.i a0,.i a1,.i a2,.i b0,.i b1,.i b2,.l nl2 ab])=>
  .leaf (qW f us (HH x y z D ([]++[iv wi]) (rc+Du wl) (es,k) (ab.drop j.toNat)).1.length (HH x y z D ([]++[iv wi]) (rc+Du wl) (es,k) (ab.drop j.toNat)).2 f2 us2 len i p0 p1 p2 Dq s0 s1 s2 D0 D false (HH x y z D ([]++[iv wi]) (rc+Du wl) (es,k) (ab.drop j.toNat)).1 x y z rc wi wf wl lv cs nm st wt ds a0 a1 a2 b0 b1 b2 nl2 ab)
 |_=>.no
def bU:LS->Nat
 |([.l _ _,.n _,.n _,.l _ _,.i _,.i _,.n _,.n _,.i l2,.i j],_)=>(l2-j).toNat
 |_=>0
theorem aaO:∀ s r,PR s=true->(jE s).run=some r->r.1≠.normal/\(Dc Try.prog vu 60 33 (Dh Try.f33 18) [4,7,8,9,10,15,57,58,59,74,75,76] [4,7,8,9,10,57,58,59] (Fp.put s).1 (Fp.put s).2=some r \/
   ∃ s',Dc Try.prog vu 60 33 (Dh Try.f33 18) [4,7,8,9,10,15,57,58,59,74,75,76] [4,7,8,9,10,57,58,59] (Fp.put s).1 (Fp.put s).2=some (.normal,Fp.put s')/\PR s'=true/\bU s'<bU s/\(jE s').run=some r):=by
 intro t r hp hr;unfold PR at hp;split at hp
 ·rename_i f us n k f2 us2 len i n2 k2 l2 j p0 p1 p2 Dq s0 s1 s2 D0 D nl es x y z rc wi wf wl lv cs nm st wt ds a0 a1 a2 b0 b1 b2 nl2 ab;simp only[Aa,Ab,Am]at hp;obtain⟨⟨⟨⟨⟨⟨⟨⟨⟨⟨⟨⟨rfl,h2⟩,rfl⟩,rfl⟩,rfl⟩,h6⟩,h7⟩,h8⟩,h9⟩,h10⟩,h11⟩,h12⟩,rfl⟩:=hp;have hr':=(Ah hr).symm;refine⟨by rw[hr'];simp,?_⟩;rw[show Fp.put ([.l f us,.n es.length,.n k,.l f2 us2,.i len,.i i,.n ab.length,.n ab.length,.i (ab.length:Int),.i j],[.i p0,.i p1,.i p2,.m Dq,.i s0,.i s1,.i s2,.m D0,.m D,.l false es,.i x,.i y,.i z,.i rc,
   .i wi,.l wf wl,.i lv,.s cs,.s nm,.b st,.i wt,.i ds,.i a0,.i a1,.i a2,.i b0,.i b1,.i b2,.l nl2 ab])=Fp.put (JA f us es.length k f2 us2 len i ab.length ab.length ab.length j p0 p1 p2 Dq s0 s1 s2 D0 D false es x y z rc wi wf wl lv cs nm st wt ds a0 a1 a2 b0 b1 b2 nl2 ab) from rfl]
  by_cases hi:j<(ab.length:Int)
  ·rw[vC (hj:=h6) (hj2:=hi) (hab:=h8) (hk:=h2) (hes:=by omega) (hwl:=h10) (hrc:=h11) (hrc2:=h12)];obtain⟨g1,g2,g3⟩:=Kc (x:=x) (y:=y) (z:=z) (D:=D) (ps:=[]++[iv wi]) (c:=rc+Du wl) (s:=(es,k)) (e:=aE ab j) h2;simp only at g1 g2 g3;refine .inr ⟨_,rfl,?_,?_,?_⟩
   ·simp only[PR,Aa,Ab,Am];exact⟨⟨⟨⟨⟨⟨⟨⟨⟨⟨⟨⟨trivial,g1⟩,trivial⟩,trivial⟩,trivial⟩,by omega⟩,by omega⟩,h8⟩,by omega⟩,h10⟩,h11⟩,h12⟩,trivial⟩
   ·simp only[bU];omega
   ·rw[hr',Dt h6 hi];rfl
  ·rw[q5,Ai hi];rw[AB (by omega)]at hr';exact .inl (by rw[hr'];rfl)
 ·cases hp
noncomputable def R66:C9:=vu.Dr 33 18 [4,7,8,9,10,15,57,58,59,74,75,76] [false,false,false,false,false,false,false,false,true,true,true,false] Fp PR jE
theorem aaQ:C4 Try.prog R66.env:=
 qV.Dr (n:=60) Try.func33 (show Try.f33.body=some (D3 Try.f33) by kernel_rfl) (show(loops (D3 Try.f33)).filter (fun b=>Ev b==18)=[Dh Try.f33 18] by kernel_rfl) [4,7,8,9,10,15,57,58,59,74,75,76] [4,7,8,9,10,57,58,59] [false,false,false,false,false,false,false,false,true,true,true,false] Fp bU aaO
def Hc:S1:=⟨116,[(4,.ptr 2 1 0 0),(7,.Db 49),(8,.mp 4),(9,.sl 5),(10,.ptr 6 1 0 0),(57,.Db 49),(58,Dm),(59,Dm)],
 [.one 30 3 aS,.map 30 3,.one 30 3 aS,.map 30 4,.map 30 78,.many 78 5,.Gx 78 5 (.agg [Dm,Dm,Dm,.nil,Dm]),.dead]⟩
abbrev PS(f:Bool)(us:List PV)(n k:Nat)(f2:Bool)(us2:List PV)(len i p0 p1 p2:Int)(Dq:List (PV×PV))(s0 s1 s2:Int)(D0 D:List (PV×PV))(nl:Bool)(es:List PV)(x y z:Int)(rc:Int):LS:=
 ([.l f us,.n n,.n k,.l f2 us2,.i len,.i i],[.i p0,.i p1,.i p2,.m Dq,.i s0,.i s1,.i s2,.m D0,.m D,.l nl es,.i x,.i y,.i z,.i rc])
noncomputable abbrev q6(f:Bool)(us:List PV)(n k:Nat)(p0 p1 p2:Int)(Dq:List (PV×PV))(s0 s1 s2:Int)(D0 D:List (PV×PV))(nl:Bool)(es:List PV)(x y z:Int)(rc:Int):PX×List PV×List Row:=
 (.exit 2,tm 116 [(4,.ptr 2 1 0 0),(7,.Db f 49 us),(8,.mp 4),(9,.sl 5 n 0 k)],(Hc.put (PS f us n k false [] 0 0 p0 p1 p2 Dq s0 s1 s2 D0 D nl es x y z rc)).2)
theorem aaR(f:Bool)(us:List PV)(n k:Nat)(f2:Bool)(us2:List PV)(len i p0 p1 p2:Int)(Dq:List (PV×PV))(s0 s1 s2:Int)(D0 D:List (PV×PV))(es:List PV)(x y z:Int)(rc:Int):
 Dc Try.prog R66 60 33 (Dh Try.f33 14) [4,7,8,9,10,57,58,59] [4,7,8,9] (Hc.put (PS f us n k f2 us2 len i p0 p1 p2 Dq s0 s1 s2 D0 D false es x y z rc)).1 (Hc.put (PS f us n k f2 us2 len i p0 p1 p2 Dq s0 s1 s2 D0 D false es x y z rc)).2 =
 bif decide (i<len) then bif F7 us2 i then bif PE (wL (us2.getD i.toNat .any)) then
  bif PR (JA f us n k f2 us2 len i 2 2 2 0 p0 p1 p2 Dq s0 s1 s2 D0 D false es x y z rc (wI (us2.getD i.toNat .any)) false (wL (us2.getD i.toNat .any)) (MQ (us2.getD i.toNat .any)) (cS (us2.getD i.toNat .any) 3) (cS (us2.getD i.toNat .any) 4) (IX (us2.getD i.toNat .any)) (cI (us2.getD i.toNat .any) 6) (cI (us2.getD i.toNat .any) 7)
    (gX (eF (us2.getD i.toNat .any))) (gY (eF (us2.getD i.toNat .any))) (gL (eF (us2.getD i.toNat .any))) (gX (eL (us2.getD i.toNat .any))) (gY (eL (us2.getD i.toNat .any))) (gL (eL (us2.getD i.toNat .any))) false (Tb (us2.getD i.toNat .any))) then
   some (.normal,Hc.put (PS f us (HH x y z D ([]++[iv (wI (us2.getD i.toNat .any))]) (rc+Du (wL (us2.getD i.toNat .any))) (es,k) ((Tb (us2.getD i.toNat .any)).drop (0:Int).toNat)).1.length (HH x y z D ([]++[iv (wI (us2.getD i.toNat .any))]) (rc+Du (wL (us2.getD i.toNat .any))) (es,k) ((Tb (us2.getD i.toNat .any)).drop (0:Int).toNat)).2 f2 us2 len (W (i+1)) p0 p1 p2 Dq s0 s1 s2 D0 D false
    (HH x y z D ([]++[iv (wI (us2.getD i.toNat .any))]) (rc+Du (wL (us2.getD i.toNat .any))) (es,k) ((Tb (us2.getD i.toNat .any)).drop (0:Int).toNat)).1 x y z rc)) else none else none else none
 else some (q6 f us n k p0 p1 p2 Dq s0 s1 s2 D0 D false es x y z rc):=by kernel_rfl
def PT:LS->Bool
 |([.l _ _,.n n,.n k,.l _ us2,.i len,.i i],[.i _,.i _,.i _,.m _,.i _,.i _,.i _,.m _,.m _,.l nl es,.i _,.i _,.i _,.i rc])=>
  decide (n=es.length)&&decide (k<=es.length)&&decide (len=(us2.length:Int))&&decide (0<=i)&&decide (i<=(us2.length:Int))&&decide (us2.length<=100)&&decide ((es.length:Int)<=400000+2*i)&&(us2.all G9)&&decide (0<=rc)&&decide (rc<=1000000000000000000) && !nl
 |_=>false
noncomputable def jF:LS->DT (PX×List PV×List Row)
 |([.l f us,.n _,.n k,.l _ us2,.i _,.i i],[.i p0,.i p1,.i p2,.m Dq,.i s0,.i s1,.i s2,.m D0,.m D,.l _ es,.i x,.i y,.i z,.i rc])=>
  .leaf (q6 f us (DS x y z D [] rc (es,k) (us2.drop i.toNat)).1.length (DS x y z D [] rc (es,k) (us2.drop i.toNat)).2 p0 p1 p2 Dq s0 s1 s2 D0 D false (DS x y z D [] rc (es,k) (us2.drop i.toNat)).1 x y z rc)
 |_=>.no
def bV:LS->Nat
 |([.l _ _,.n _,.n _,.l _ _,.i len,.i i],_)=>(len-i).toNat
 |_=>0
theorem aaS:∀ s r,PT s=true->(jF s).run=some r->r.1≠.normal/\(Dc Try.prog R66 60 33 (Dh Try.f33 14) [4,7,8,9,10,57,58,59] [4,7,8,9] (Hc.put s).1 (Hc.put s).2=some r \/
   ∃ s',Dc Try.prog R66 60 33 (Dh Try.f33 14) [4,7,8,9,10,57,58,59] [4,7,8,9] (Hc.put s).1 (Hc.put s).2=some (.normal,Hc.put s')/\PT s'=true/\bV s'<bV s/\(jF s').run=some r):=by
 intro t r hp hr;unfold PT at hp;split at hp
 ·rename_i f us n k f2 us2 len i p0 p1 p2 Dq s0 s1 s2 D0 D nl es x y z rc;simp only[Aa,Ab,Am]at hp;obtain⟨⟨⟨⟨⟨⟨⟨⟨⟨⟨rfl,h2⟩,rfl⟩,h4⟩,h5⟩,h6⟩,h7⟩,h8⟩,h9⟩,h10⟩,rfl⟩:=hp;have hr':=(Ah hr).symm;refine⟨by rw[hr'];simp,?_⟩;rw[show Hc.put ([.l f us,.n es.length,.n k,.l f2 us2,.i (us2.length:Int),.i i],[.i p0,.i p1,.i p2,.m Dq,.i s0,.i s1,.i s2,.m D0,.m D,.l false es,.i x,.i y,.i z,.i rc]) =
   Hc.put (PS f us es.length k f2 us2 us2.length i p0 p1 p2 Dq s0 s1 s2 D0 D false es x y z rc) from rfl,aaR]
  by_cases hi:i<(us2.length:Int)
  ·have hu:=Ao.1 h8 _ (J9 h4 hi);have hu0:¬(wL (us2.getD i.toNat .any)).length=0/\(wL (us2.getD i.toNat .any)).length<=1000:=by
    have:G9 (us2.getD i.toNat .any)=true:=hu;simp only[G9,Aa,Am,AM,Ab]at this;exact this
   rw[Dt h4 hi]at hr';generalize us2.getD i.toNat .any=e at *;have hp18:PR (JA f us es.length k f2 us2 us2.length i 2 2 2 0 p0 p1 p2 Dq s0 s1 s2 D0 D false es x y z rc (wI e) false (wL e) (MQ e) (cS e 3) (cS e 4) (IX e) (cI e 6) (cI e 7) (gX (eF e)) (gY (eF e)) (gL (eF e)) (gX (eL e)) (gY (eL e)) (gL (eL e)) false (Tb e))=true:=by
    simp only[PR,Aa,Ab,Am,As,AC];exact⟨⟨⟨⟨⟨⟨⟨⟨⟨⟨⟨⟨trivial,h2⟩,trivial⟩,trivial⟩,by decide⟩,by decide⟩,by decide⟩,by decide⟩,by omega⟩,hu0.2⟩,h9⟩,h10⟩,trivial⟩
   rw[Ac hi,D1 h4 hi,J5 hu0.1 (by omega),hp18,Dx (n:=i+1) (by omega) (by omega),show(0:Int).toNat=0 from rfl,AH];obtain⟨g1,g2,g3⟩:=Jv (x:=x) (y:=y) (z:=z) (D:=D) (ps:=[]) (rc:=rc) (s:=(es,k)) (e:=e) h2;simp only at g1 g2 g3;refine .inr ⟨PS f us (IN x y z D [] rc (es,k) e).1.length (IN x y z D [] rc (es,k) e).2 f2 us2 us2.length (i+1) p0 p1 p2 Dq s0 s1 s2 D0 D false (IN x y z D [] rc (es,k) e).1 x y z rc,rfl,?_,?_,?_⟩
   ·simp only[PT,Aa,Ab,Am];exact⟨⟨⟨⟨⟨⟨⟨⟨⟨⟨trivial,g1⟩,trivial⟩,by omega⟩,by omega⟩,h6⟩,by omega⟩,h8⟩,h9⟩,h10⟩,trivial⟩
   ·simp only[bV];omega
   ·rw[hr'];rfl
  ·rw[Ai hi];rw[AB (by omega)]at hr';exact .inl (by rw[hr'];rfl)
 ·cases hp
noncomputable def xu:C9:=R66.Kr Try.prog [false,false,false,false,false,true,false,false] 33 14 [4,7,8,9,10,57,58,59] [false,false,false,false,false,false,true,false] Hc PT jF
theorem aaT:C4 Try.prog xu.env:=
 aaQ.Kr (n:=60) Try.func33 (show Try.f33.body=some (D3 Try.f33) by kernel_rfl) (show(loops (D3 Try.f33)).filter (fun b=>Ev b==14)=[Dh Try.f33 14] by kernel_rfl) [false,false,false,false,false,true,false,false] [4,7,8,9,10,57,58,59] [4,7,8,9] [false,false,false,false,false,false,true,false] Hc bV aaS
def Fq:S1:=⟨116,[(4,.ptr 2 1 0 0),(7,.Db 49),(8,.mp 4),(9,.sl 5),(10,.ptr 6 1 0 0),(15,.ptr 8 1 0 0),(57,.Db 49),(58,Dm),(59,Dm),(74,.sl 11),(75,Dm),(76,Dm)],
 [.one 30 3 aS,.map 30 3,.one 30 3 aS,.map 30 4,.map 30 78,.many 78 5,.Gx 78 5 (.agg [Dm,Dm,Dm,.Db 3,Dm]),.dead,.Gx 49 8 aW,.one 30 3 aS,.one 30 3 aS,.many 116 6]⟩
abbrev JB(f:Bool)(us:List PV)(n k:Nat)(f2:Bool)(us2:List PV)(len i:Int)(n2 k2:Nat)(l2 j p0 p1 p2:Int)(Dq:List (PV×PV))(s0 s1 s2:Int)(D0 D:List (PV×PV))(nl:Bool)(es:List PV)(x y z:Int)(rf:Bool)(rp:List PV)(rc:Int)
 (wi:Int) (wf:Bool) (wl:List PV) (lv:Int) (cs nm:ByteArray) (st:Bool) (wt ds a0 a1 a2 b0 b1 b2:Int) (nl2:Bool) (ab:List PV):LS:=
 ([.l f us,.n n,.n k,.l f2 us2,.i len,.i i,.n n2,.n k2,.i l2,.i j],[.i p0,.i p1,.i p2,.m Dq,.i s0,.i s1,.i s2,.m D0,.m D,.l nl es,.i x,.i y,.i z,.l rf rp,.i rc,
  .i wi,.l wf wl,.i lv,.s cs,.s nm,.b st,.i wt,.i ds,.i a0,.i a1,.i a2,.i b0,.i b1,.i b2,.l nl2 ab])
noncomputable abbrev q7(f:Bool)(us:List PV)(n k:Nat)(f2:Bool)(us2:List PV)(len i p0 p1 p2:Int)(Dq:List (PV×PV))(s0 s1 s2:Int)(D0 D:List (PV×PV))(nl:Bool)(es:List PV)(x y z:Int)(rf:Bool)(rp:List PV)(rc:Int)
 (wi:Int) (wf:Bool) (wl:List PV) (lv:Int) (cs nm:ByteArray) (st:Bool) (wt ds a0 a1 a2 b0 b1 b2:Int) (nl2:Bool) (ab:List PV):PX×List PV×List Row:=
 (.exit 4,tm 116 [(4,.ptr 2 1 0 0),(7,.Db f 49 us),(8,.mp 4),(9,.sl 5 n 0 k),(10,.ptr 6 1 0 0),(57,.Db f2 49 us2),(58,iv len),(59,iv i)],
  (Fq.put (JB f us n k f2 us2 len i 0 0 0 0 p0 p1 p2 Dq s0 s1 s2 D0 D nl es x y z rf rp rc wi wf wl lv cs nm st wt ds a0 a1 a2 b0 b1 b2 nl2 ab)).2)
noncomputable abbrev q8(p0 p1 p2:Int)(Dq:List (PV×PV))(s0 s1 s2:Int)(D0 D:List (PV×PV))(nl:Bool)(es:List PV)(x y z:Int)(rf:Bool)(rp:List PV)(rc:Int)
 (wi:Int) (wf:Bool) (wl:List PV) (lv:Int) (cs nm:ByteArray) (st:Bool) (wt ds a0 a1 a2 b0 b1 b2:Int) (nl2:Bool) (ab:List PV) (j:Int):List Row:=
 (Fq.put (JB false [] 0 0 false [] 0 0 0 0 0 0 p0 p1 p2 Dq s0 s1 s2 D0 D nl es x y z rf rp rc wi wf wl lv cs nm st wt ds a0 a1 a2 b0 b1 b2 nl2 ab)).2++[bG (rE ab j),Dy]
theorem q9(f:Bool)(us:List PV)(n k:Nat)(f2:Bool)(us2:List PV)(len i:Int)(n2 k2:Nat)(l2 j p0 p1 p2:Int)(Dq:List (PV×PV))(s0 s1 s2:Int)(D0 D:List (PV×PV))(es:List PV)(x y z:Int)(rf:Bool)(rp:List PV)(rc:Int)
 (wi:Int) (wf:Bool) (wl:List PV) (lv:Int) (cs nm:ByteArray) (st:Bool) (wt ds a0 a1 a2 b0 b1 b2:Int) (nl2:Bool) (ab:List PV):
 Dc Try.prog xu 60 33 (Dh Try.f33 18) [4,7,8,9,10,15,57,58,59,74,75,76] [4,7,8,9,10,57,58,59] (Fq.put (JB f us n k f2 us2 len i n2 k2 l2 j p0 p1 p2 Dq s0 s1 s2 D0 D false es x y z rf rp rc wi wf wl lv cs nm st wt ds a0 a1 a2 b0 b1 b2 nl2 ab)).1 (Fq.put (JB f us n k f2 us2 len i n2 k2 l2 j p0 p1 p2 Dq s0 s1 s2 D0 D false es x y z rf rp rc wi wf wl lv cs nm st wt ds a0 a1 a2 b0 b1 b2 nl2 ab)).2 =
 bif decide (j<l2) then Sj ab n2 k2 j (HV ab n2 (bif MS (cI (rE ab j) 0) (cI (rE ab j) 1) (cI (rE ab j) 2) x y z then bif !EN D (DU (cI (rE ab j) 3) (cI (rE ab j) 4) (cI (rE ab j) 5)) then
  bif decide (0<rp.length) then bif decide ((0+rp.length)*8<=140737488355328) then bif Hp (q8 p0 p1 p2 Dq s0 s1 s2 D0 D false es x y z rf rp rc wi wf wl lv cs nm st wt ds a0 a1 a2 b0 b1 b2 nl2 ab j) (q8 p0 p1 p2 Dq s0 s1 s2 D0 D false es x y z rf rp rc wi wf wl lv cs nm st wt ds a0 a1 a2 b0 b1 b2 nl2 ab j) then
  bif vk rp wi then bif decide (wl.length<=100000) then bif (es.length==n)&&(decide (k<=n)&&decide ((n+1)*56<=140737488355328)) then
   some (.normal,Fq.put (JB f us (max n (k+1)) (k+1) f2 us2 len i n2 k2 l2 (W (j+1)) p0 p1 p2 Dq s0 s1 s2 D0 D false (es.take k++Hy (cI (rE ab j) 3) (cI (rE ab j) 4) (cI (rE ab j) 5) false (jh rp wi) (W (rc+Du wl))::es.drop (k+1)) x y z rf rp rc wi wf wl lv cs nm st wt ds a0 a1 a2 b0 b1 b2 nl2 ab))
  else none else none else none else none else none else none
  else some (.normal,Fq.put (JB f us n k f2 us2 len i n2 k2 l2 (W (j+1)) p0 p1 p2 Dq s0 s1 s2 D0 D false es x y z rf rp rc wi wf wl lv cs nm st wt ds a0 a1 a2 b0 b1 b2 nl2 ab))
  else some (.normal,Fq.put (JB f us n k f2 us2 len i n2 k2 l2 (W (j+1)) p0 p1 p2 Dq s0 s1 s2 D0 D false es x y z rf rp rc wi wf wl lv cs nm st wt ds a0 a1 a2 b0 b1 b2 nl2 ab))))
 else some (q7 f us n k f2 us2 len i p0 p1 p2 Dq s0 s1 s2 D0 D false es x y z rf rp rc wi wf wl lv cs nm st wt ds a0 a1 a2 b0 b1 b2 nl2 ab):=by kernel_rfl
theorem vD(f:Bool)(us:List PV)(k:Nat)(f2:Bool)(us2:List PV)(len i j p0 p1 p2:Int)(Dq:List (PV×PV))(s0 s1 s2:Int)(D0 D:List (PV×PV))(es:List PV)(x y z:Int)(rf:Bool)(rp:List PV)(rc:Int)
 (wi:Int) (wf:Bool) (wl:List PV) (lv:Int) (cs nm:ByteArray) (st:Bool) (wt ds a0 a1 a2 b0 b1 b2:Int) (nl2:Bool) (ab:List PV) (hj:0<=j) (hj2:j<(ab.length:Int)) (hab:ab.length<=2) (hk:k<=es.length) (hes:es.length<=600000) (hwl:wl.length<=1000) (hrc:0<=rc) (hrc2:rc<=1000000000000000000) (hr0:0<rp.length) (hr1:rp.length<=100000):
 Dc Try.prog xu 60 33 (Dh Try.f33 18) [4,7,8,9,10,15,57,58,59,74,75,76] [4,7,8,9,10,57,58,59] (Fq.put (JB f us es.length k f2 us2 len i ab.length ab.length ab.length j p0 p1 p2 Dq s0 s1 s2 D0 D false es x y z rf rp rc wi wf wl lv cs nm st wt ds a0 a1 a2 b0 b1 b2 nl2 ab)).1 (Fq.put (JB f us es.length k f2 us2 len i ab.length ab.length ab.length j p0 p1 p2 Dq s0 s1 s2 D0 D false es x y z rf rp rc wi wf wl lv cs nm st wt ds a0 a1 a2 b0 b1 b2 nl2 ab)).2 =
 some (.normal,Fq.put (JB f us (JE x y z D (rp++[iv wi]) (rc+Du wl) (es,k) (aE ab j)).1.length (JE x y z D (rp++[iv wi]) (rc+Du wl) (es,k) (aE ab j)).2 f2 us2 len i ab.length ab.length ab.length (j+1) p0 p1 p2 Dq s0 s1 s2 D0 D false (JE x y z D (rp++[iv wi]) (rc+Du wl) (es,k) (aE ab j)).1 x y z rf rp rc wi wf wl lv cs nm st wt ds a0 a1 a2 b0 b1 b2 nl2 ab)):=by
 obtain⟨w1,w2⟩:=F9 hwl;rw[q9,Ac hj2,Aj,FD rfl hj hj2,DK rfl,Dx (n:=j+1) (by omega) (by omega),Dx (n:=rc+Du wl) (by omega) (by omega),ON,E5,Ac hr0,Ac (show(0+rp.length)*8<=140737488355328 by omega),bH (wi:=wi) (show rp.length<=1000000 by omega),XC,
  Ac (show wl.length<=100000 by omega),show((es.length==es.length)&&(decide (k<=es.length)&&decide ((es.length+1)*56<=140737488355328)))=true by simp only[AP,BW,Aa,Ab];omega]
 simp only[Aj];unfold JE jk;cases h1:MS (cI (aE ab j) 0) (cI (aE ab j) 1) (cI (aE ab j) 2) x y z with
 |false=>rfl
 |true=>
  cases h2:EN D (DU (cI (aE ab j) 3) (cI (aE ab j) 4) (cI (aE ab j) 5)) with
  |true=>rfl
  |false=>
   have e1:=N2 (z:=vl (aE ab j) (rp++[iv wi]) (rc+Du wl)) hk;simp only[Aj,BT,A_,e1];rfl
def PU:LS->Bool
 |([.l _ _,.n n,.n k,.l _ _,.i _,.i _,.n n2,.n k2,.i l2,.i j],[.i _,.i _,.i _,.m _,.i _,.i _,.i _,.m _,.m _,.l nl es,.i _,.i _,.i _,.l _ rp,.i rc,
  .i _,.l _ wl,.i _,.s _,.s _,.b _,.i _,.i _,.i _,.i _,.i _,.i _,.i _,.i _,.l _ ab])=>
  decide (n=es.length)&&decide (k<=es.length)&&decide (n2=ab.length)&&decide (k2=ab.length)&&decide (l2=(ab.length:Int))&&decide (0<=j)&&decide (j<=(ab.length:Int))&&decide (ab.length<=2)&&decide ((es.length:Int)<=500000+j)&&decide (wl.length<=1000)&&decide (0<=rc)&&decide (rc<=1000000000000000000) && !nl&&decide (0<rp.length)&&decide (rp.length<=100000)
 |_=>false
noncomputable def jG:LS->DT (PX×List PV×List Row)
 |([.l f us,.n _,.n k,.l f2 us2,.i len,.i i,.n _,.n _,.i _,.i j],[.i p0,.i p1,.i p2,.m Dq,.i s0,.i s1,.i s2,.m D0,.m D,.l _ es,.i x,.i y,.i z,.l rf rp,.i rc,
  .i wi,.l wf wl,.i lv,.s cs,.s nm,.b st,.i wt,.i ds,.i a0,.i a1,.i a2,.i b0,.i b1,.i b2,.l nl2 ab])=>
  .leaf (q7 f us (HH x y z D (rp++[iv wi]) (rc+Du wl) (es,k) (ab.drop j.toNat)).1.length (HH x y z D (rp++[iv wi]) (rc+Du wl) (es,k) (ab.drop j.toNat)).2 f2 us2 len i p0 p1 p2 Dq s0 s1 s2 D0 D false (HH x y z D (rp++[iv wi]) (rc+Du wl) (es,k) (ab.drop j.toNat)).1 x y z rf rp rc wi wf wl lv cs nm st wt ds a0 a1 a2 b0 b1 b2 nl2 ab)
 |_=>.no
def bW:LS->Nat
 |([.l _ _,.n _,.n _,.l _ _,.i _,.i _,.n _,.n _,.i l2,.i j],_)=>(l2-j).toNat
 |_=>0
theorem aaU:∀ s r,PU s=true->(jG s).run=some r->r.1≠.normal/\(Dc Try.prog xu 60 33 (Dh Try.f33 18) [4,7,8,9,10,15,57,58,59,74,75,76] [4,7,8,9,10,57,58,59] (Fq.put s).1 (Fq.put s).2=some r \/
   ∃ s',Dc Try.prog xu 60 33 (Dh Try.f33 18) [4,7,8,9,10,15,57,58,59,74,75,76] [4,7,8,9,10,57,58,59] (Fq.put s).1 (Fq.put s).2=some (.normal,Fq.put s')/\PU s'=true/\bW s'<bW s/\(jG s').run=some r):=by
 intro t r hp hr;unfold PU at hp;split at hp
 ·rename_i f us n k f2 us2 len i n2 k2 l2 j p0 p1 p2 Dq s0 s1 s2 D0 D nl es x y z rf rp rc wi wf wl lv cs nm st wt ds a0 a1 a2 b0 b1 b2 nl2 ab;simp only[Aa,Ab,Am]at hp;obtain⟨⟨⟨⟨⟨⟨⟨⟨⟨⟨⟨⟨⟨⟨rfl,h2⟩,rfl⟩,rfl⟩,rfl⟩,h6⟩,h7⟩,h8⟩,h9⟩,h10⟩,h11⟩,h12⟩,rfl⟩,h14⟩,h15⟩:=hp;have hr':=(Ah hr).symm;refine⟨by rw[hr'];simp,?_⟩;rw[show Fq.put ([.l f us,.n es.length,.n k,.l f2 us2,.i len,.i i,.n ab.length,.n ab.length,.i (ab.length:Int),.i j],[.i p0,.i p1,.i p2,.m Dq,.i s0,.i s1,.i s2,.m D0,.m D,.l false es,.i x,.i y,.i z,.l rf rp,.i rc,
   .i wi,.l wf wl,.i lv,.s cs,.s nm,.b st,.i wt,.i ds,.i a0,.i a1,.i a2,.i b0,.i b1,.i b2,.l nl2 ab])=Fq.put (JB f us es.length k f2 us2 len i ab.length ab.length ab.length j p0 p1 p2 Dq s0 s1 s2 D0 D false es x y z rf rp rc wi wf wl lv cs nm st wt ds a0 a1 a2 b0 b1 b2 nl2 ab) from rfl]
  by_cases hi:j<(ab.length:Int)
  ·rw[vD (hj:=h6) (hj2:=hi) (hab:=h8) (hk:=h2) (hes:=by omega) (hwl:=h10) (hrc:=h11) (hrc2:=h12) (hr0:=h14) (hr1:=h15)];obtain⟨g1,g2,g3⟩:=Kc (x:=x) (y:=y) (z:=z) (D:=D) (ps:=rp++[iv wi]) (c:=rc+Du wl) (s:=(es,k)) (e:=aE ab j) h2;simp only at g1 g2 g3;refine .inr ⟨_,rfl,?_,?_,?_⟩
   ·simp only[PU,Aa,Ab,Am];exact⟨⟨⟨⟨⟨⟨⟨⟨⟨⟨⟨⟨⟨⟨trivial,g1⟩,trivial⟩,trivial⟩,trivial⟩,by omega⟩,by omega⟩,h8⟩,by omega⟩,h10⟩,h11⟩,h12⟩,trivial⟩,h14⟩,h15⟩
   ·simp only[bW];omega
   ·rw[hr',Dt h6 hi];rfl
  ·rw[q9,Ai hi];rw[AB (by omega)]at hr';exact .inl (by rw[hr'];rfl)
 ·cases hp
noncomputable def R68:C9:=xu.Dr 33 18 [4,7,8,9,10,15,57,58,59,74,75,76] [false,false,false,false,false,false,false,false,true,true,true,false] Fq PU jG
theorem aaW:C4 Try.prog R68.env:=
 aaT.Dr (n:=60) Try.func33 (show Try.f33.body=some (D3 Try.f33) by kernel_rfl) (show(loops (D3 Try.f33)).filter (fun b=>Ev b==18)=[Dh Try.f33 18] by kernel_rfl) [4,7,8,9,10,15,57,58,59,74,75,76] [4,7,8,9,10,57,58,59] [false,false,false,false,false,false,false,false,true,true,true,false] Fq bW aaU
def He:S1:=⟨116,[(4,.ptr 2 1 0 0),(7,.Db 49),(8,.mp 4),(9,.sl 5),(10,.ptr 6 1 0 0),(57,.Db 49),(58,Dm),(59,Dm)],
 [.one 30 3 aS,.map 30 3,.one 30 3 aS,.map 30 4,.map 30 78,.many 78 5,.Gx 78 5 (.agg [Dm,Dm,Dm,.Db 3,Dm]),.dead]⟩
abbrev PW(f:Bool)(us:List PV)(n k:Nat)(f2:Bool)(us2:List PV)(len i p0 p1 p2:Int)(Dq:List (PV×PV))(s0 s1 s2:Int)(D0 D:List (PV×PV))(nl:Bool)(es:List PV)(x y z:Int)(rf:Bool)(rp:List PV)(rc:Int):LS:=
 ([.l f us,.n n,.n k,.l f2 us2,.i len,.i i],[.i p0,.i p1,.i p2,.m Dq,.i s0,.i s1,.i s2,.m D0,.m D,.l nl es,.i x,.i y,.i z,.l rf rp,.i rc])
noncomputable abbrev ra(f:Bool)(us:List PV)(n k:Nat)(p0 p1 p2:Int)(Dq:List (PV×PV))(s0 s1 s2:Int)(D0 D:List (PV×PV))(nl:Bool)(es:List PV)(x y z:Int)(rf:Bool)(rp:List PV)(rc:Int):PX×List PV×List Row:=
 (.exit 2,tm 116 [(4,.ptr 2 1 0 0),(7,.Db f 49 us),(8,.mp 4),(9,.sl 5 n 0 k)],(He.put (PW f us n k false [] 0 0 p0 p1 p2 Dq s0 s1 s2 D0 D nl es x y z rf rp rc)).2)
theorem aaX(f:Bool)(us:List PV)(n k:Nat)(f2:Bool)(us2:List PV)(len i p0 p1 p2:Int)(Dq:List (PV×PV))(s0 s1 s2:Int)(D0 D:List (PV×PV))(es:List PV)(x y z:Int)(rf:Bool)(rp:List PV)(rc:Int):
 Dc Try.prog R68 60 33 (Dh Try.f33 14) [4,7,8,9,10,57,58,59] [4,7,8,9] (He.put (PW f us n k f2 us2 len i p0 p1 p2 Dq s0 s1 s2 D0 D false es x y z rf rp rc)).1 (He.put (PW f us n k f2 us2 len i p0 p1 p2 Dq s0 s1 s2 D0 D false es x y z rf rp rc)).2 =
 bif decide (i<len) then bif F7 us2 i then bif PE (wL (us2.getD i.toNat .any)) then
  bif PU (JB f us n k f2 us2 len i 2 2 2 0 p0 p1 p2 Dq s0 s1 s2 D0 D false es x y z rf rp rc (wI (us2.getD i.toNat .any)) false (wL (us2.getD i.toNat .any)) (MQ (us2.getD i.toNat .any)) (cS (us2.getD i.toNat .any) 3) (cS (us2.getD i.toNat .any) 4) (IX (us2.getD i.toNat .any)) (cI (us2.getD i.toNat .any) 6) (cI (us2.getD i.toNat .any) 7)
    (gX (eF (us2.getD i.toNat .any))) (gY (eF (us2.getD i.toNat .any))) (gL (eF (us2.getD i.toNat .any))) (gX (eL (us2.getD i.toNat .any))) (gY (eL (us2.getD i.toNat .any))) (gL (eL (us2.getD i.toNat .any))) false (Tb (us2.getD i.toNat .any))) then
   some (.normal,He.put (PW f us (HH x y z D (rp++[iv (wI (us2.getD i.toNat .any))]) (rc+Du (wL (us2.getD i.toNat .any))) (es,k) ((Tb (us2.getD i.toNat .any)).drop (0:Int).toNat)).1.length (HH x y z D (rp++[iv (wI (us2.getD i.toNat .any))]) (rc+Du (wL (us2.getD i.toNat .any))) (es,k) ((Tb (us2.getD i.toNat .any)).drop (0:Int).toNat)).2 f2 us2 len (W (i+1)) p0 p1 p2 Dq s0 s1 s2 D0 D false
    (HH x y z D (rp++[iv (wI (us2.getD i.toNat .any))]) (rc+Du (wL (us2.getD i.toNat .any))) (es,k) ((Tb (us2.getD i.toNat .any)).drop (0:Int).toNat)).1 x y z rf rp rc)) else none else none else none
 else some (ra f us n k p0 p1 p2 Dq s0 s1 s2 D0 D false es x y z rf rp rc):=by kernel_rfl
def PY:LS->Bool
 |([.l _ _,.n n,.n k,.l _ us2,.i len,.i i],[.i _,.i _,.i _,.m _,.i _,.i _,.i _,.m _,.m _,.l nl es,.i _,.i _,.i _,.l _ rp,.i rc])=>
  decide (n=es.length)&&decide (k<=es.length)&&decide (len=(us2.length:Int))&&decide (0<=i)&&decide (i<=(us2.length:Int))&&decide (us2.length<=100)&&decide ((es.length:Int)<=400000+2*i)&&(us2.all G9)&&decide (0<=rc)&&decide (rc<=1000000000000000000) && !nl&&decide (0<rp.length)&&decide (rp.length<=100000)
 |_=>false
noncomputable def jH:LS->DT (PX×List PV×List Row)
 |([.l f us,.n _,.n k,.l _ us2,.i _,.i i],[.i p0,.i p1,.i p2,.m Dq,.i s0,.i s1,.i s2,.m D0,.m D,.l _ es,.i x,.i y,.i z,.l rf rp,.i rc])=>
  .leaf (ra f us (DS x y z D rp rc (es,k) (us2.drop i.toNat)).1.length (DS x y z D rp rc (es,k) (us2.drop i.toNat)).2 p0 p1 p2 Dq s0 s1 s2 D0 D false (DS x y z D rp rc (es,k) (us2.drop i.toNat)).1 x y z rf rp rc)
 |_=>.no
def bX:LS->Nat
 |([.l _ _,.n _,.n _,.l _ _,.i len,.i i],_)=>(len-i).toNat
 |_=>0
theorem aaY:∀ s r,PY s=true->(jH s).run=some r->r.1≠.normal/\(Dc Try.prog R68 60 33 (Dh Try.f33 14) [4,7,8,9,10,57,58,59] [4,7,8,9] (He.put s).1 (He.put s).2=some r \/
   ∃ s',Dc Try.prog R68 60 33 (Dh Try.f33 14) [4,7,8,9,10,57,58,59] [4,7,8,9] (He.put s).1 (He.put s).2=some (.normal,He.put s')/\PY s'=true/\bX s'<bX s/\(jH s').run=some r):=by
 intro t r hp hr;unfold PY at hp;split at hp
 ·rename_i f us n k f2 us2 len i p0 p1 p2 Dq s0 s1 s2 D0 D nl es x y z rf rp rc;simp only[Aa,Ab,Am]at hp;obtain⟨⟨⟨⟨⟨⟨⟨⟨⟨⟨⟨⟨rfl,h2⟩,rfl⟩,h4⟩,h5⟩,h6⟩,h7⟩,h8⟩,h9⟩,h10⟩,rfl⟩,h14⟩,h15⟩:=hp;have hr':=(Ah hr).symm;refine⟨by rw[hr'];simp,?_⟩;rw[show He.put ([.l f us,.n es.length,.n k,.l f2 us2,.i (us2.length:Int),.i i],[.i p0,.i p1,.i p2,.m Dq,.i s0,.i s1,.i s2,.m D0,.m D,.l false es,.i x,.i y,.i z,.l rf rp,.i rc]) =
   He.put (PW f us es.length k f2 us2 us2.length i p0 p1 p2 Dq s0 s1 s2 D0 D false es x y z rf rp rc) from rfl,aaX]
  by_cases hi:i<(us2.length:Int)
  ·have hu:=Ao.1 h8 _ (J9 h4 hi);have hu0:¬(wL (us2.getD i.toNat .any)).length=0/\(wL (us2.getD i.toNat .any)).length<=1000:=by
    have:G9 (us2.getD i.toNat .any)=true:=hu;simp only[G9,Aa,Am,AM,Ab]at this;exact this
   rw[Dt h4 hi]at hr';generalize us2.getD i.toNat .any=e at *;have hp18:PU (JB f us es.length k f2 us2 us2.length i 2 2 2 0 p0 p1 p2 Dq s0 s1 s2 D0 D false es x y z rf rp rc (wI e) false (wL e) (MQ e) (cS e 3) (cS e 4) (IX e) (cI e 6) (cI e 7) (gX (eF e)) (gY (eF e)) (gL (eF e)) (gX (eL e)) (gY (eL e)) (gL (eL e)) false (Tb e))=true:=by
    simp only[PU,Aa,Ab,Am,As,AC];exact⟨⟨⟨⟨⟨⟨⟨⟨⟨⟨⟨⟨⟨⟨trivial,h2⟩,trivial⟩,trivial⟩,by decide⟩,by decide⟩,by decide⟩,by decide⟩,by omega⟩,hu0.2⟩,h9⟩,h10⟩,trivial⟩,h14⟩,h15⟩
   rw[Ac hi,D1 h4 hi,J5 hu0.1 (by omega),hp18,Dx (n:=i+1) (by omega) (by omega),show(0:Int).toNat=0 from rfl,AH];obtain⟨g1,g2,g3⟩:=Jv (x:=x) (y:=y) (z:=z) (D:=D) (ps:=rp) (rc:=rc) (s:=(es,k)) (e:=e) h2;simp only at g1 g2 g3;refine .inr ⟨PW f us (IN x y z D rp rc (es,k) e).1.length (IN x y z D rp rc (es,k) e).2 f2 us2 us2.length (i+1) p0 p1 p2 Dq s0 s1 s2 D0 D false (IN x y z D rp rc (es,k) e).1 x y z rf rp rc,rfl,?_,?_,?_⟩
   ·simp only[PY,Aa,Ab,Am];exact⟨⟨⟨⟨⟨⟨⟨⟨⟨⟨⟨⟨trivial,g1⟩,trivial⟩,by omega⟩,by omega⟩,h6⟩,by omega⟩,h8⟩,h9⟩,h10⟩,trivial⟩,h14⟩,h15⟩
   ·simp only[bX];omega
   ·rw[hr'];rfl
  ·rw[Ai hi];rw[AB (by omega)]at hr';exact .inl (by rw[hr'];rfl)
 ·cases hp
noncomputable def re:C9:=R68.Dr 33 14 [4,7,8,9,10,57,58,59] [false,false,false,false,false,false,true,false] He PY jH
theorem ri:C4 Try.prog re.env:=
 aaW.Dr (n:=60) Try.func33 (show Try.f33.body=some (D3 Try.f33) by kernel_rfl) (show(loops (D3 Try.f33)).filter (fun b=>Ev b==14)=[Dh Try.f33 14] by kernel_rfl) [4,7,8,9,10,57,58,59] [4,7,8,9] [false,false,false,false,false,false,true,false] He bX aaY
def Qe:S1:=⟨116,[(4,.ptr 2 1 0 0),(7,.Db 49),(8,.mp 4),(9,.sl 5)],
 [.one 30 3 aS,.map 30 3,.one 30 3 aS,.map 30 4,.map 30 78,.many 78 5]⟩
abbrev ea(f:Bool)(us:List PV)(n k:Nat)(p0 p1 p2:Int)(Dq:List (PV×PV))(s0 s1 s2:Int)(D0 D:List (PV×PV))(nl:Bool)(es:List PV):LS:=
 ([.l f us,.n n,.n k],[.i p0,.i p1,.i p2,.m Dq,.i s0,.i s1,.i s2,.m D0,.m D,.l nl es])
noncomputable abbrev xw(p0 p1 p2:Int)(Dq:List (PV×PV))(s0 s1 s2:Int)(D0 D:List (PV×PV)):PX×List PV×List Row:=
 (.ret,tm 116 [(6,.mp 4)],(Qe.put (ea false [] 0 0 p0 p1 p2 Dq s0 s1 s2 D0 D true [])).2.take 5++[Dy])
theorem q6C(f:Bool)(us:List PV)(n k:Nat)(p0 p1 p2:Int)(Dq:List (PV×PV))(s0 s1 s2:Int)(D0 D:List (PV×PV))(es:List PV):
 Dc Try.prog re 60 33 (Dh Try.f33 6) [4,7,8,9] [6] (Qe.put (ea f us n k p0 p1 p2 Dq s0 s1 s2 D0 D false es)).1 (Qe.put (ea f us n k p0 p1 p2 Dq s0 s1 s2 D0 D false es)).2 =
 HV es n (bif decide (n=es.length)&&decide (k<=es.length)&&decide (k<=1000000)&&(es.take k).all Kb then
  bif !decide ((k:Int) > 0) then some (xw p0 p1 p2 Dq s0 s1 s2 D0 D) else
  HV es n (bif decide (n=es.length)&&decide (k<=es.length)&&decide (es.length<=1000000)&&EL Uf es then
   bif EN D (DU (gX (Dp es k)) (gY (Dp es k)) (gL (Dp es k))) then some (.normal,Qe.put (ea f us n (MT es k).length p0 p1 p2 Dq s0 s1 s2 D0 D false (N3 es k))) else
   bif PY (PW f us n (MT es k).length f us us.length 0 p0 p1 p2 Dq s0 s1 s2 D0 (EV D (DU (gX (Dp es k)) (gY (Dp es k)) (gL (Dp es k))) (HG (Dp es k))) false (N3 es k) (gX (Dp es k)) (gY (Dp es k)) (gL (Dp es k)) false (rP (Dp es k)) (rC (Dp es k))) then
    some (.normal,Qe.put (ea f us (OT us D es k).1.length (OT us D es k).2 p0 p1 p2 Dq s0 s1 s2 D0 (EV D (DU (gX (Dp es k)) (gY (Dp es k)) (gL (Dp es k))) (HG (Dp es k))) false (OT us D es k).1)) else none
  else none) else none):=by kernel_rfl
def bZ:S1:=⟨116,[(4,.ptr 2 1 0 0),(7,.Db 49),(8,.mp 4),(9,.sl 5)],
 [.one 30 3 aS,.map 30 3,.one 30 3 aS,.map 30 4,.map 30 78,.Gx 78 5 (.agg [Dm,Dm,Dm,.nil,Dm])]⟩
abbrev nZ(f:Bool)(us:List PV)(n k:Nat)(p0 p1 p2:Int)(Dq:List (PV×PV))(s0 s1 s2:Int)(D0 D:List (PV×PV))(x y z c:Int):LS:=
 ([.l f us,.n n,.n k],[.i p0,.i p1,.i p2,.m Dq,.i s0,.i s1,.i s2,.m D0,.m D,.i x,.i y,.i z,.i c])
theorem agc(f:Bool)(us:List PV)(p0 p1 p2:Int)(Dq:List (PV×PV))(s0 s1 s2:Int)(D0:List (PV×PV))(x y z c:Int):
 Dc Try.prog re 60 33 (Dh Try.f33 6) [4,7,8,9] [6] (bZ.put (nZ f us 1 1 p0 p1 p2 Dq s0 s1 s2 D0 [] x y z c)).1 (bZ.put (nZ f us 1 1 p0 p1 p2 Dq s0 s1 s2 D0 [] x y z c)).2 =
 bif dB (x=x/\y=y/\z=z/\c=c) then
  bif PT (PS f us 1 0 f us us.length 0 p0 p1 p2 Dq s0 s1 s2 D0 [(DU x y z,DJ x y z c)] false [Ja] x y z c) then
   some (.normal,Qe.put (ea f us (DS x y z [(DU x y z,DJ x y z c)] [] c ([Ja],0) (us.drop (0:Int).toNat)).1.length (DS x y z [(DU x y z,DJ x y z c)] [] c ([Ja],0) (us.drop (0:Int).toNat)).2 p0 p1 p2 Dq s0 s1 s2 D0 [(DU x y z,DJ x y z c)] false (DS x y z [(DU x y z,DJ x y z c)] [] c ([Ja],0) (us.drop (0:Int).toNat)).1)) else none
 else none:=by kernel_rfl
def N7(s:Bool×LS):List PV×List Row:=match s.1 with |true=>Qe.put s.2 |false=>bZ.put s.2
def jI(S:List PV)(H:List Row):Option (Bool×LS):=
 match Qe.get S H with
 |some s=>some (true,s)
 |none=>match bZ.get S H with |some s=>some (false,s) |none=>none
theorem eb(S:List PV)(H:List Row)(s:Bool×LS)(h:jI S H=some s):S=(N7 s).1/\H=(N7 s).2:=by
 unfold jI at h;split at h
 ·rename_i q hq;cases h;exact S1.FG _ _ _ hq
 ·split at h
  ·rename_i q hq;cases h;exact S1.FG _ _ _ hq
  ·cases h
noncomputable def Mw:Bool×LS->Bool
 |(true,([.l _ us,.n n,.n k],[.i _,.i _,.i _,.m _,.i s0,.i s1,.i s2,.m _,.m D,.l nl es]))=>decide (n=es.length) && !nl&&dB (P6 us (s0,s1,s2) D es k)
 |(false,([.l _ us,.n n,.n k],[.i _,.i _,.i _,.m _,.i s0,.i s1,.i s2,.m _,.m D,.i x,.i y,.i z,.i c]))=>dB (n=1/\k=1/\D=[]/\x=s0/\y=s1/\z=s2/\c=0)&&us.all G9&&decide (us.length<=100)
 |_=>false
noncomputable def jJ:Bool×LS->DT (PX×List PV×List Row)
 |(true,([.l _ us,.n _,.n k],[.i p0,.i p1,.i p2,.m Dq,.i s0,.i s1,.i s2,.m D0,.m D,.l _ es]))=>.leaf (xw p0 p1 p2 Dq s0 s1 s2 D0 (KB us (s0,s1,s2) D es k))
 |(false,([.l _ us,.n _,.n _],[.i p0,.i p1,.i p2,.m Dq,.i s0,.i s1,.i s2,.m D0,.m _,.i _,.i _,.i _,.i _]))=>.leaf (xw p0 p1 p2 Dq s0 s1 s2 D0 (L7 us (s0,s1,s2)))
 |_=>.no
noncomputable def jK:Bool×LS->Nat
 |(true,([.l _ us,.n _,.n k],[.i _,.i _,.i _,.m _,.i s0,.i s1,.i s2,.m _,.m D,.l _ es]))=>Ui us (s0,s1,s2) D es k
 |(false,([.l _ us,.n _,.n _],[.i _,.i _,.i _,.m _,.i s0,.i s1,.i s2,.m _,.m _,.i _,.i _,.i _,.i _]))=>muA us (s0,s1,s2)
 |_=>0
theorem aaZ:∀ s r,Mw s=true->(jJ s).run=some r->r.1≠.normal/\(Dc Try.prog re 60 33 (Dh Try.f33 6) [4,7,8,9] [6] (N7 s).1 (N7 s).2=some r \/
  ∃ s',Dc Try.prog re 60 33 (Dh Try.f33 6) [4,7,8,9] [6] (N7 s).1 (N7 s).2=some (.normal,N7 s')/\Mw s'=true/\jK s'<jK s/\(jJ s').run=some r):=by
 intro t r hp hr;unfold Mw at hp;split at hp
 ·rename_i f us n k p0 p1 p2 Dq s0 s1 s2 D0 D nl es;simp only[Aa,Ab,Am,DB]at hp;obtain⟨⟨rfl,rfl⟩,h⟩:=hp;have hr':=(Ah hr).symm;refine⟨by rw[hr'];simp,?_⟩;show(Dc Try.prog re 60 33 (Dh Try.f33 6) [4,7,8,9] [6] (Qe.put (ea f us es.length k p0 p1 p2 Dq s0 s1 s2 D0 D false es)).1 (Qe.put (ea f us es.length k p0 p1 p2 Dq s0 s1 s2 D0 D false es)).2=some r \/
   ∃ s',Dc Try.prog re 60 33 (Dh Try.f33 6) [4,7,8,9] [6] (Qe.put (ea f us es.length k p0 p1 p2 Dq s0 s1 s2 D0 D false es)).1 (Qe.put (ea f us es.length k p0 p1 p2 Dq s0 s1 s2 D0 D false es)).2=some (.normal,N7 s')/\_/\_/\_)
  obtain⟨c1,c2⟩:=h.vp;have hk:=h.hk;have hsh:(es.take k).all Kb=true:=by
   rw[Ao];intro e he;have hb:=h.dij.bN (Kd e) (BN he);unfold Kb;rw[Ab];have:(Dj (rP e)).length=(rP e).length:=EG _;simp only[Kd,AV]at hb;omega
  rw[q6C,DK rfl,DK rfl,Ac (show es.length=es.length from rfl),Ac hk,Ac (show k<=1000000 by omega),hsh,Ac (show es.length<=1000000 by omega),DX.2 h.norm];simp only[A_,Aj];by_cases h0:0<k
  ·rw[Ac (show(k:Int) > 0 by omega),BZ,Ap];have hlen:(N3 es k).length=es.length:=IA hk;cases hm:EN D (DU (gX (Dp es k)) (gY (Dp es k)) (gL (Dp es k))) with
   |true=>
    obtain⟨g1,g2,g3⟩:=h.known h0 hm;refine .inr ⟨(true,ea f us es.length (MT es k).length p0 p1 p2 Dq s0 s1 s2 D0 D false (N3 es k)),rfl,?_,g2,?_⟩
    ·simp only[Mw,Aa,Ab,Am,DB];exact⟨⟨hlen.symm,trivial⟩,g1⟩
    ·rw[hr'];show some (xw _ _ _ _ _ _ _ _ (KB us (s0,s1,s2) D (N3 es k) (MT es k).length))=_;rw[g3]
   |false=>
    obtain⟨g1,g2,g3,v1,v2,v3,v4⟩:=h.take' h0 hm;have hle:(MT es k).length<=(N3 es k).length:=by
     rw[hlen];have:=EE (d:=IK (gX (Dp es k)) (gY (Dp es k)) (gL (Dp es k))) (es.take k);rw[Az]at this;show(Dg _ (es.take k)).length<=_
     omega
    have hp14:PY (PW f us es.length (MT es k).length f us us.length 0 p0 p1 p2 Dq s0 s1 s2 D0 (EV D (DU (gX (Dp es k)) (gY (Dp es k)) (gL (Dp es k))) (HG (Dp es k))) false (N3 es k) (gX (Dp es k)) (gY (Dp es k)) (gL (Dp es k)) false (rP (Dp es k)) (rC (Dp es k)))=true:=by
     simp only[PY,Aa,Ab,Am];exact⟨⟨⟨⟨⟨⟨⟨⟨⟨⟨⟨⟨hlen.symm,hle⟩,trivial⟩,by omega⟩,by omega⟩,h.SO⟩,by rw[hlen];omega⟩,h.use⟩,v1⟩,v2⟩,trivial⟩,v3⟩,v4⟩
    rw[Ap,hp14,Aj];refine .inr ⟨(true,ea f us (OT us D es k).1.length (OT us D es k).2 p0 p1 p2 Dq s0 s1 s2 D0 (EV D (DU (gX (Dp es k)) (gY (Dp es k)) (gL (Dp es k))) (HG (Dp es k))) false (OT us D es k).1),rfl,?_,g2,?_⟩
    ·simp only[Mw,Aa,Ab,Am,DB];exact⟨⟨trivial,trivial⟩,g1⟩
    ·rw[hr'];show some (xw _ _ _ _ _ _ _ _ (KB us (s0,s1,s2) _ (OT us D es k).1 (OT us D es k).2))=_;rw[g3]
  ·have hk0:k=0:=by omega
   subst hk0;rw[Ai (show ¬((0:Nat):Int) > 0 by omega),BT,Aj];refine .inl ?_;rw[hr',h.nil]
 ·rename_i f us n k p0 p1 p2 Dq s0 s1 s2 D0 D x y z c;simp only[Aa,Ab,DB]at hp;obtain⟨⟨⟨rfl,rfl,rfl,rfl,rfl,rfl,rfl⟩,hu⟩,hf⟩:=hp;have hr':=(Ah hr).symm;refine⟨by rw[hr'];simp,?_⟩;obtain⟨g1,g2,g3⟩:=P6.first (x:=x) (y:=y) (z:=z) hu hf
  have hq:=agc f us p0 p1 p2 Dq x y z D0 x y z 0;have hp14:PT (PS f us 1 0 f us us.length 0 p0 p1 p2 Dq x y z D0 [(DU x y z,DJ x y z 0)] false [Ja] x y z 0)=true:=by
   simp only[PT,Aa,Ab,Am,As,AC];exact⟨⟨⟨⟨⟨⟨⟨⟨⟨⟨by first |exact True.intro |omega,by first |exact True.intro |omega⟩,trivial⟩,by first |exact True.intro |omega⟩,by first |exact True.intro |omega⟩,hf⟩,by first |exact True.intro |omega⟩,hu⟩,by first |exact True.intro |omega⟩,by first |exact True.intro |omega⟩,trivial⟩
  rw[DB.2 (⟨rfl,rfl,rfl,rfl⟩:x=x/\y=y/\z=z/\(0:Int)=0),hp14,Aj,Aj,show(0:Int).toNat=0 from rfl,AH]at hq;refine .inr ⟨(true,ea f us (DS x y z [(DU x y z,DJ x y z 0)] [] 0 ([Ja],0) us).1.length (DS x y z [(DU x y z,DJ x y z 0)] [] 0 ([Ja],0) us).2 p0 p1 p2 Dq x y z D0 [(DU x y z,DJ x y z 0)] false (DS x y z [(DU x y z,DJ x y z 0)] [] 0 ([Ja],0) us).1),hq,?_,g2,?_⟩
  ·simp only[Mw,Aa,Ab,Am,DB];exact⟨⟨trivial,trivial⟩,g1⟩
  ·rw[hr'];show some (xw _ _ _ _ _ _ _ _ (KB us (x,y,z) _ _ _))=_;rw[g3,<- N4]
 ·cases hp
noncomputable def R70:C9:=re.Lc 33 6 [4,7,8,9] (JS [] jI Mw jJ)
theorem aa1:C4 Try.prog R70.env:=
 ri.Lc Try.func33 (show Try.f33.body=some (D3 Try.f33) by kernel_rfl) (show(loops (D3 Try.f33)).filter (fun b=>Ev b==6)=[Dh Try.f33 6] by kernel_rfl)
  fun hs ro S H d x S' H'=>aH (n:=60) ri [4,7,8,9] [6] N7 eb jK aaZ hs ro S H d x S' H'
def OY:S1:=⟨27,[(3,.mp 3),(10,.Db 49),(11,Dm),(12,Dm)],[.one 30 3 aS,.map 30 3,.one 30 3 aS,.map 30 4]⟩
abbrev rj(f:Bool)(es:List PV)(len i:Int)(p0 p1 p2:Int)(Dq:List (PV×PV))(s0 s1 s2:Int)(D:List (PV×PV)):LS:=([.l f es,.i len,.i i],[.i p0,.i p1,.i p2,.m Dq,.i s0,.i s1,.i s2,.m D])
noncomputable abbrev xSC(p0 p1 p2:Int)(Dq:List (PV×PV))(s0 s1 s2:Int)(D:List (PV×PV)):PX×List PV×List Row:=(.exit 0,tm 27 [(3,.mp 3)],(OY.put (rj false [] 0 0 p0 p1 p2 Dq s0 s1 s2 D)).2)
theorem qSC(f:Bool)(es:List PV)(len i:Int)(p0 p1 p2:Int)(Dq:List (PV×PV))(s0 s1 s2:Int)(D:List (PV×PV)):Dc Try.prog R70 60 37 (Dh Try.f37 3) [3,10,11,12] [3] (OY.put (rj f es len i p0 p1 p2 Dq s0 s1 s2 D)).1 (OY.put (rj f es len i p0 p1 p2 Dq s0 s1 s2 D)).2 =
 bif decide (i<len) then bif decide (0<=i)&&decide (i<(es.length:Int)) then bif PE (wL (es.getD i.toNat .any)) then
  some (.normal,OY.put (rj f es len (W (i+1)) p0 p1 p2 Dq s0 s1 s2 (D9 D (es.getD i.toNat .any)))) else none else none else some (xSC p0 p1 p2 Dq s0 s1 s2 D):=by kernel_rfl
def rk:LS->Bool
 |([.l _ es,.i len,.i i],[.i _,.i _,.i _,.m _,.i _,.i _,.i _,.m _])=>decide (len=(es.length:Int))&&decide (0<=i)&&decide (i<=len)&&decide (es.length<=1000)&&(es.drop i.toNat).all fun e=>PE (wL e)
 |_=>false
noncomputable def fSC:LS->DT (PX×List PV×List Row)
 |([.l _ es,.i _,.i i],[.i p0,.i p1,.i p2,.m Dq,.i s0,.i s1,.i s2,.m D])=>.leaf (xSC p0 p1 p2 Dq s0 s1 s2 (G4 (es.drop i.toNat) D))
 |_=>.no
def mSC:LS->Nat
 |([.l _ _,.i len,.i i],_)=>(len-i).toNat
 |_=>0
theorem sSC:∀ s r,rk s=true->(fSC s).run=some r->r.1≠.normal/\(Dc Try.prog R70 60 37 (Dh Try.f37 3) [3,10,11,12] [3] (OY.put s).1 (OY.put s).2=some r \/
   ∃ s',Dc Try.prog R70 60 37 (Dh Try.f37 3) [3,10,11,12] [3] (OY.put s).1 (OY.put s).2=some (.normal,OY.put s')/\rk s'=true/\mSC s'<mSC s/\(fSC s').run=some r):=by
 intro t r hp hr;unfold rk at hp;split at hp
 ·rename_i f es len i p0 p1 p2 Dq s0 s1 s2 D;simp only[Aa,Ab]at hp;obtain⟨⟨⟨⟨rfl,h2⟩,h3⟩,h4⟩,h5⟩:=hp;have hr':=(Ah hr).symm;refine⟨by rw[hr'];simp,?_⟩;rw[show OY.put ([.l f es,.i (es.length:Int),.i i],[.i p0,.i p1,.i p2,.m Dq,.i s0,.i s1,.i s2,.m D])=OY.put (rj f es (es.length:Int) i p0 p1 p2 Dq s0 s1 s2 D) from rfl,qSC];by_cases hi:i<(es.length:Int)
  ·rw[Dt h2 hi,Cu,Aa]at h5;rw[Ac hi,Ac h2,h5.1,Dx (by omega) (by omega)];refine .inr ⟨rj f es es.length (i+1) p0 p1 p2 Dq s0 s1 s2 (D9 D (es.getD i.toNat .any)),rfl,by simp only[rk,Aa,Ab];exact⟨⟨⟨⟨trivial,by omega⟩,by omega⟩,h4⟩,h5.2⟩,by simp only[mSC];omega,?_⟩;rw[hr',Dt h2 hi];rfl
  ·rw[Ai hi,AB (by omega)] at *;exact .inl (by rw[hr'];rfl)
 ·cases hp
noncomputable def xx:C9:=R70.Dr 37 3 [3,10,11,12] [false,false,false,false] OY rk fSC
theorem aa2:C4 Try.prog xx.env:=
 aa1.Dr (n:=60) Try.func37 (show Try.f37.body=some (D3 Try.f37) by kernel_rfl) (show(loops (D3 Try.f37)).filter (fun b=>Ev b==3)=[Dh Try.f37 3] by kernel_rfl) [3,10,11,12] [3] [false,false,false,false] OY mSC sSC

theorem aa3:(HU (Dh Try.f16 3)).isSome=true:=by kernel_rfl
noncomputable def n7:ML:=(HU (Dh Try.f16 3)).get aa3
theorem vE:HU (Dh Try.f16 3)=some n7:=(Option.some_get aa3).symm
theorem n8:n7.out=0:=by kernel_rfl
theorem vF:n7.it=15:=by kernel_rfl
theorem jO:n7.d1=16:=by kernel_rfl
theorem rl:n7.q=17:=by kernel_rfl
abbrev sC:List PV:=tm 26 [(7,.mp 1),(15,.mp 6)]
abbrev hC(p0 p1 p2 s0 s1 s2:Int)(D0 D Dq:List (PV×PV))(s:lC):List Row:=[GP p0 p1 p2,DD k0 30 3 Dq,GP s0 s1 s2,DD k0 30 4 D0,DD k0 30 78 D,Dy,Dz (.mp 4) s]
theorem qC1(p0 p1 p2 s0 s1 s2:Int)(D0 D Dq:List (PV×PV))(bm s:Nat)(seen:Array Nat)(ck:Nat)(x y z a b d:Int)(ps:List PV)(c:Int):
  W7 Try.prog xx 60 16 n7 [7,15] sC (hC p0 p1 p2 s0 s1 s2 D0 D Dq (.at bm s seen ck)) (DU x y z) (Hy a b d false ps c) =
 some (sC,hC p0 p1 p2 s0 s1 s2 D0 D (EV Dq (DU x y z) (iv c)) (.at bm s seen ck)):=by kernel_rfl
theorem qC2(p0 p1 p2 s0 s1 s2:Int)(D0 D Dq:List (PV×PV))(bm s:Nat)(seen:Array Nat)(ck:Nat)(x y z a b d:Int)(c:Int):
  W7 Try.prog xx 60 16 n7 [7,15] sC (hC p0 p1 p2 s0 s1 s2 D0 D Dq (.at bm s seen ck)) (DU x y z) (DJ a b d c) =
 some (sC,hC p0 p1 p2 s0 s1 s2 D0 D (EV Dq (DU x y z) (iv c)) (.at bm s seen ck)):=by kernel_rfl
def Nb(u:PV×PV):PV×PV:=(u.1,iv (rC u.2))
abbrev MW(r:Rc):PV×PV:=(IL r.1,iv r.2.1)
theorem Vm(r:Rc):Nb (F0 r)=MW r:=by
 unfold Nb F0;rw[jx]
def ZF(D:List (PV×PV)):Prop:=(D.map ES).map F0=D/\((D.map ES).map (·.1)).Nodup/\D.length<=5000
abbrev OkC(D:List (PV×PV))(j:Nat)(kv:PV×PV):Prop:=D[j]? = some kv
abbrev aa4(p0 p1 p2 s0 s1 s2:Int)(D0 D:List (PV×PV))(vis:List (Nat×(PV×PV))):List PV×List Row:=
 (sC,hC p0 p1 p2 s0 s1 s2 D0 D (vis.map fun x=>Nb x.2) .some)
theorem XL{k v:PV}:∀{D:List (PV×PV)},EN D k=false->EV D k v=D++[(k,v)]
 | [],_=>rfl
 |(a,w)::D,h=>by
  have h':(JU k a||EN D k)=false:=h;rw[BJ]at h';show(bif JU k a then _ else (a,w)::EV D k v)=_
  rw[h'.1,Ap,XL h'.2];rfl
theorem XM{t:T3}:∀{L:List Rc},EN (L.map MW) (IL t)=decide (t∈L.map (·.1))
 | []=>by simp[EN]
 |x::L=>by
  show(JU (IL t) (IL x.1)||EN (L.map MW) (IL t))=_
  rw[Ke,XM];by_cases h:t=x.1
  ·rw[Ac h,Ac (show t∈(x::L).map (·.1) by rw[h];simp)];rfl
  ·rw[Ai h,Bk,B2];simp only[AW,AK,h,Dv]
theorem age{p0 p1 p2 s0 s1 s2:Int}{D0 D:List (PV×PV)}(hD:ZF D):
  TV Try.prog xx 60 16 n7 [7,15] 6 4 D.length (OkC D) (aa4 p0 p1 p2 s0 s1 s2 D0 D) where
 ne:=by decide
 hd:=fun vis=>by rw[jO,rl];exact⟨show 16<26 by decide,show 17<26 by decide⟩
 hS:=fun vis=>by rw[vF];rfl
 hi:=fun vis=>rfl
 hm:=fun vis=>⟨_,_,rfl,rfl,rfl⟩
 Ia:=fun vis C bm s hH hR hρ=>by
  have hrow:C.H[4]? = some (DD k0 30 78 D):=by rw[hH];rfl
  obtain⟨es,ck,h1,h2,h3,h4⟩:=((hR.Ih 4 bm _ ⟨k0,.map 30 78 D⟩ hρ hrow rfl rfl).map 30 78 D rfl).mem;refine⟨es,by rw[h1,h3],h2,fun j e he=>?_⟩;have hj:j<D.length:=by rw[<- h2];exact(At.1 he).1
  obtain⟨g1,g2,g3⟩:=h4 j D[j].1 D[j].2 e (by rw[Ae hj]) he;exact⟨g1,D[j],Ae hj,g2,g3⟩
 step:=fun vis j kv bm s seen ck hok hkv hn hj hlt Tj=>by
  obtain⟨hD1,hD2,hD3⟩:=hD
  -- the entries visited,as stops with costs
  have hdec:∀ x∈vis,x.2=F0 (ES x.2):=fun x hx=>by
   have h1:=Ag (hok x hx);rw[<- hD1]at h1;obtain⟨r,_,hr⟩:=AY.1 h1;rw[<- hr,SS]
  have hkd:kv=F0 (ES kv):=by
   have h1:=Ag hkv;rw[<- hD1]at h1;obtain⟨r,_,hr⟩:=AY.1 h1;rw[<- hr,SS]
  have hvm:(vis.map fun x=>Nb x.2)=(vis.map fun x=>ES x.2).map MW:=by
   rw[Cq];apply Bt
   intro x hx;show Nb x.2=MW (ES x.2)
   rw[<- Vm,<- hdec x hx]
  have hnew:(ES kv).1∉((vis.map fun x=>ES x.2).map (·.1)):=fun hh=>by
   rw[Cq]at hh;obtain⟨x,hx,hxe⟩:=AY.1 hh;have hxe':(ES x.2).1=(ES kv).1:=hxe;have e1:((D.map ES).map (·.1))[x.1]? = some (ES x.2).1:=by rw[An,An,hok x hx];rfl
   have e2:((D.map ES).map (·.1))[j]? = some (ES kv).1:=by rw[An,An,hkv];rfl
   rw[hxe',<- e2]at e1;have hx1:x.1<((D.map ES).map (·.1)).length:=by rw[AV,AV];exact hlt x hx
   have:=(C6 hx1 hD2).1 e1;exact hj (by rw[<- this];exact BN hx)
  have hput:EV (vis.map fun x=>Nb x.2) (IL (ES kv).1) (iv (ES kv).2.1)=(vis++[(j,kv)]).map fun x=>Nb x.2:=by
   rw[hvm,XL (by rw[XM,Ai hnew]),<- hvm,Bx];show _++[MW (ES kv)]=_++[Nb kv]
   rw[<- Vm,<- hkd]
  show W7 Try.prog xx 60 16 n7 [7,15] sC (hC p0 p1 p2 s0 s1 s2 D0 D (vis.map fun x=>Nb x.2) (.at bm s seen ck)) kv.1 kv.2 =
   some (sC,hC p0 p1 p2 s0 s1 s2 D0 D ((vis++[(j,kv)]).map fun x=>Nb x.2) (.at bm s seen ck))
  rw[<- hput];generalize ES kv=r at hkd;subst hkd;show W7 _ _ _ _ _ _ _ _ (IL r.1) (Qd r)=_
  unfold Qd;split
  ·exact qC2 ..
  ·exact qC1 ..
def shC:S1:=⟨26,[(7,.mp 1),(15,.mp 6)],[.one 30 3 aS,.map 30 3,.one 30 3 aS,.map 30 4,.map 30 78,.dead,.Z8 4]⟩
noncomputable def pC:LS->Bool
 |([],[.i _,.i _,.i _,.m Dq,.i _,.i _,.i _,.m _,.m D,.n N])=>Dq.isEmpty&&decide (N=D.length)&&dB (ZF D)
 |_=>false
noncomputable abbrev xC(p0 p1 p2 s0 s1 s2:Int)(D0 D:List (PV×PV)):PX×List PV×List Row:=
 (.exit 0,tm 26 [(7,.mp 1)],[GP p0 p1 p2,Qf 30 3 (D.map Nb),GP s0 s1 s2,DD k0 30 4 D0,DD k0 30 78 D,Dy,Dz (.mp 4) .some])
noncomputable def fC:LS->DT (PX×List PV×List Row)
 |([],[.i p0,.i p1,.i p2,.m _,.i s0,.i s1,.i s2,.m D0,.m D,.n _])=>.leaf (xC p0 p1 p2 s0 s1 s2 D0 D)
 |_=>.no
theorem eg{s t:T3}(h:s≠t):(IL s).cells≠(IL t).cells:=fun e=>by
 have:JU (IL s) (IL t)=JU (IL t) (IL t):=by unfold JU;rw[e]
 rw[Ke,Ke,Ac rfl,Ab]at this;exact h this
theorem jP:∀{L:List Rc},(L.map (·.1)).Nodup->(L.map MW).Pairwise fun x y=>x.1.cells≠y.1.cells
 | [],_=>.nil
 |r::L,h=>by
  rw[AW,CP]at h;rw[AW,List.pairwise_cons];refine⟨fun y hy=>?_,jP h.2⟩;obtain⟨q,hq,rfl⟩:=AY.1 hy;exact eg fun e=>h.1 (by rw[e];exact BN hq)
theorem ZF.Nb{D:List (PV×PV)}(h:ZF D):D.map Nb=(D.map ES).map MW:=by
 conv=>lhs;rw[<- h.1]
 rw[Cq];exact Bt fun r _=>Vm r
theorem jQ{D:List (PV×PV)}{vis:List (Nat×(PV×PV))}(hok:∀ x∈vis,OkC D x.1 x.2)(hp:(vis.map (·.1)).Perm (List.range D.length)):(vis.map fun x=>Nb x.2).Perm (D.map Nb):=by
 have h1:(vis.map fun x=>Nb x.2)=(vis.map (·.1)).map fun j=>Nb (D.getD j (.any,.any)):=by
  rw[Cq];apply Bt
  intro x hx;show Nb x.2=Nb (D.getD x.1 (.any,.any))
  rw[Ay,hok x hx];rfl
 rw[h1];refine(hp.map _).trans ?_;have h2:(List.range D.length).map (fun j=>Nb (D.getD j (.any,.any)))=D.map Nb:=by
  apply Bf
  intro i;rw[An,An];by_cases hi:i<D.length
  ·rw[Be hi,Ae hi];simp[List.getD_eq_getElem?_getD,List.getElem?_eq_getElem hi]
  ·rw[AF (by simpa using hi),AF (by omega)];rfl
 rw[h2]
theorem wkC{p0 p1 p2 s0 s1 s2:Int}{D0 D:List (PV×PV)}{vis:List (Nat×(PV×PV))}(hD:ZF D)(hok:∀ x∈vis,OkC D x.1 x.2)(hp:(vis.map (·.1)).Perm (List.range D.length)):
  Wk Try.prog sC (hC p0 p1 p2 s0 s1 s2 D0 D (vis.map fun x=>Nb x.2) .some) (xC p0 p1 p2 s0 s1 s2 D0 D).2.1 (xC p0 p1 p2 s0 s1 s2 D0 D).2.2:=by
 have hpw:(D.map Nb).Pairwise fun x y=>x.1.cells≠y.1.cells:=by rw[hD.Nb];exact jP hD.2.1
 have h1:=Wk.GV (P:=Try.prog) (S:=sC) (H:=hC p0 p1 p2 s0 s1 s2 D0 D (vis.map fun x=>Nb x.2) .some) (i:=1) (K:=30) (E:=3) (D:=D.map Nb) (D':=vis.map fun x=>Nb x.2) (k:=k0) rfl (jQ hok hp) hpw (DD k0 30 3 (vis.map fun x=>Nb x.2)) rfl;refine h1.trans ?_;refine(Wk.Kx (some [7])).trans ?_;exact .refl
noncomputable def R72:C9:=xx.Dr 16 3 [7,15] [false,false,false,false,false,false,false] shC pC fC
theorem aa5:C4 Try.prog R72.env:=by
 refine aa2.pr (n:=60) Try.func16 (show Try.f16.body=some (D3 Try.f16) by kernel_rfl) (show(loops (D3 Try.f16)).filter (fun b=>Ev b==3)=[Dh Try.f16 3] by kernel_rfl) vE [7,15] [7] [false,false,false,false,false,false,false] shC fun s r hp hr=>?_
 unfold pC at hp;split at hp
 ·rename_i p0 p1 p2 Dq s0 s1 s2 D0 D N;simp only[Aa,Ab,List.isEmpty_iff,DB]at hp;obtain⟨⟨rfl,rfl⟩,hD⟩:=hp;have hr':=(Ah hr).symm;subst hr';refine⟨by rw[n8],6,4,D.length,OkC D,aa4 p0 p1 p2 s0 s1 s2 D0 D,age hD,rfl,rfl,fun vis hok hpm=>?_⟩;rw[jO,rl];exact wkC hD hok hpm
 ·cases hp
end Go.Hr
