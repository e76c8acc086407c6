import Derived.Test.YtggmhenfkidjbaaPart10
namespace Go.Hr
open Go.Hx Go.Hg Go.Hn Go.Proofs
theorem shut_cs {ls:List PV} {fl:Bool} {e:PV} (he:e ∈ Gn ls) (h:(fl&&Lc e)=false):CT fl e=false:=by
 have hl:=H6 (csW_mem he);unfold CT;rw[h,Bool.or_false,AQ];omega
theorem edge1 {ls:List PV} {fl:Bool} {e:PV} (he:e ∈ Gn ls) (h:(fl&&Lc e)=false):(EN (eF e),EN (eL e),wI e,Df (wL e)) ∈ gE fl (Gn ls):=
 gE_mem.2 ⟨e,he,shut_cs he h,AJ ..⟩
theorem mget_no {k z:PV}:∀ {D:List (PV × PV)},DA D k=false->EG z D k=z
 | [],_=>rfl
 | (a,w)::D,h=>by
  have h:(ID k a||DA D k)=false:=h;rw[BL] at h;show (bif ID k a then w else EG z D k)=z
  rw[h.1,At,mget_no h.2]
theorem KH {ws:List PV} (h:KB ws) (fl:Bool) (s t:T3):DA ((Fq ws fl s).map GK) (FG t)=(D7 ws fl s t).isSome/\Ic ((Fq ws fl s).map GK) (FG t)=oC (D7 ws fl s t):=by
 cases hk:D7 ws fl s t with
 | some k =>
  have hm:=(F4 h).2 hk;refine⟨?_,?_⟩
  ·rw[Nm,Ac (Bp (f:=(·.1)) hm)];rfl
  ·show ((EG (iv 0) _ (FG t)).cellAt 0).Dn=k.1
   rw[mget_cst (w:=k.1) (p:=k.2) (costL_nd h) hm];rfl
 | none =>
  have hn:DA ((Fq ws fl s).map GK) (FG t)=false:=by
   rw[Nm,Aj];intro hx;obtain⟨r,hr,rfl⟩:=AW.1 hx;have:=(F4 (v:=r.1) (k:=r.2) h).1 hr;rw[hk] at this;cases this
  exact⟨hn,by show ((EG (iv 0) _ (FG t)).cellAt 0).Dn=0;rw[mget_no hn];rfl⟩
theorem cost_bd {ws:List PV} (h:KB ws) (fl:Bool) (s t:T3):0<=oC (D7 ws fl s t)/\oC (D7 ws fl s t)<=3037000499000*1000:=by
 cases hk:D7 ws fl s t with
 | none=>exact⟨BS 0,by decide⟩
 | some k =>
  have hs:=(GM.1 hk).1;have hG:=I8 s (FH (fl:=fl) h);have hc:=(F4 h).2 hk;have hm:=pathO_min hk;rw[<- JG] at hm;have h0:=hm.1.cost hG.Kz;rw[HZ hs] at hc;have hD:=KZ hG (AJ (a:=s) ..);have h1:=(hD.bD _ hc).2;have h2:=hD.cap;have h3:=gU_len (CU (CT fl) ws);have h4:=Eb (d:=CT fl) ws;have h5:=h.few;have h6:(sgU (CU (CT fl) ws) s).length=1+(gU (CU (CT fl) ws)).length:=by simp[Nat.add_comm]
  refine⟨h0,?_⟩;show k.1<=_
  have h7:((dijA (gU (CU (CT fl) ws)) (sgU (CU (CT fl) ws) s) s).length:Int)<=1000:=by omega
  have h8:k.1<=kU*((dijA (gU (CU (CT fl) ws)) (sgU (CU (CT fl) ws) s) s).length:Int):=h1;refine Int.le_trans h8 ?_;exact Int.mul_le_mul_of_nonneg_left h7 (by decide)
theorem len_bd {ls:List PV} {e:PV} (he:e ∈ Gn ls):0<=Df (wL e)/\Df (wL e)<=3037000499000:=by
 have hl:=H6 (csW_mem he);exact GX (by omega)
theorem edge_step {ws:List PV} (h:KB ws) {fl:Bool} {s u v:T3} {id w:Int} (he:(u,v,id,w) ∈ gE fl ws) {k:Ky} (hk:D7 ws fl s u=some k):∃ k',D7 ws fl s v=some k'/\k'.1<=k.1+w:=by
 obtain⟨hs,hm⟩:=GM.1 hk;have hw:=Mc.step hm.1 he;obtain⟨k',h'⟩:=min_ex h hw;exact⟨k',GM.2 ⟨hs,h'⟩,kLe_cost (h'.2 _ hw)⟩
theorem edge_both {ls:List PV} {fl:Bool} {s u v:T3} {id w:Int} (h0:0<=w) (he:(u,v,id,w) ∈ gE fl (Gn ls)) (he':(v,u,id,w) ∈ gE fl (Gn ls)):
  (D7 (Gn ls) fl s u).isSome=(D7 (Gn ls) fl s v).isSome/\oC (D7 (Gn ls) fl s u)<=oC (D7 (Gn ls) fl s v)+w/\oC (D7 (Gn ls) fl s v)<=oC (D7 (Gn ls) fl s u)+w:=by
 have hW:=csW_ok ls;cases hu:D7 (Gn ls) fl s u with
 | some k =>
  obtain⟨k',h1,h2⟩:=edge_step hW he hu;obtain⟨k2,h3,h4⟩:=edge_step hW he' h1;rw[hu] at h3;cases h3;rw[h1];exact⟨rfl,h4,h2⟩
 | none =>
  cases hv:D7 (Gn ls) fl s v with
  | none=>exact⟨rfl,by show (0:Int)<=0+w;omega,by show (0:Int)<=0+w;omega⟩
  | some k =>
   obtain⟨k',h1,_⟩:=edge_step hW he' hv;rw[hu] at h1;cases h1
theorem le_ok {ls:List PV} {fl:Bool} {s:T3} {e:PV} (he:e ∈ Gn ls):OkLe ((Fq (Gn ls) fl s).map GK) fl e:=by
 have hW:=csW_ok ls;have hl:=H6 (csW_mem he);by_cases hs:(fl&&Lc e)=true
 ·exact .inl hs
 ·have hs:(fl&&Lc e)=false:=by simpa using hs
  have h1:=edge1 he hs;have h2:=gE_sym _ _ _ _ h1;have hb:=len_bd he;obtain⟨c1,c2,c3⟩:=edge_both (s:=s) hb.1 h1 h2;obtain⟨m1,m2⟩:=KH hW fl s (EN (eF e));obtain⟨n1,n2⟩:=KH hW fl s (EN (eL e));have a1:=cost_bd hW fl s (EN (eF e));have a2:=cost_bd hW fl s (EN (eL e));change DA _ (eF e)=_ at m1
  change Ic _ (eF e)=_ at m2
  change DA _ (eL e)=_ at n1
  change Ic _ (eL e)=_ at n2
  refine .inr ⟨Kw (by omega) (by omega),Ac (by omega),by rw[m1,n1,c1],?_,?_⟩
  ·rw[m2,n2,Dc (by omega) (by omega)];omega
  ·rw[m2,n2,Dc (by omega) (by omega)];omega
structure JI (T:List (PV × PV)):Prop where
 key:Ma T
 val:∀ u ∈ T,u.2=bv true
theorem JI.put {T:List (PV × PV)} (h:JI T) (x y z:Int):JI (Ej T (Dy x y z) (bv true)):=⟨h.key.put x y z _,fun u hu=>by
 rcases Ku hu with hu | rfl
 ·exact h.val u hu
 ·rfl⟩
theorem JI.t2 {T D:List (PV × PV)} (h:JI T) (x y z:Int) (b e:PV):JI (IC D T (Dy x y z) b e):=by
 unfold IC;cases DA D (eF e)&&Mj D (Dy x y z) b e
 ·exact h
 ·exact h.put x y z
abbrev keyT (T:List (PV × PV)) (t:T3):Prop:=t ∈ T.map fun u=>EN u.1
theorem t2_mono {T D:List (PV × PV)} (h:JI T) {x y z:Int} {b e:PV} {t:T3} (ht:keyT T t):keyT (IC D T (Dy x y z) b e) t:=by
 unfold IC;cases DA D (eF e)&&Mj D (Dy x y z) b e
 ·exact ht
 ·exact (IZ h.key).2 (.inl ht)
theorem JI.step {T D:List (PV × PV)} {fl:Bool} (h:JI T) (e:PV):JI (LH D fl T e):=by
 unfold LH;cases fl&&Lc e
 ·exact (h.t2 _ _ _ _ _).t2 _ _ _ _ _
 ·exact h
theorem step_mono {T D:List (PV × PV)} {fl:Bool} (h:JI T) (e:PV) {t:T3} (ht:keyT T t):keyT (LH D fl T e) t:=by
 unfold LH;cases fl&&Lc e
 ·exact t2_mono (h.t2 _ _ _ _ _) (t2_mono h ht)
 ·exact ht
theorem fin_ok {D:List (PV × PV)} {fl:Bool}:∀ {vs:List PV} {T:List (PV × PV)},JI T->JI (tFin D fl T vs)
 | [],_,h=>h
 | e::vs,_,h=>fin_ok (vs:=vs) (h.step e)
theorem fin_mono {D:List (PV × PV)} {fl:Bool} {t:T3}:∀ {vs:List PV} {T:List (PV × PV)},JI T->keyT T t->keyT (tFin D fl T vs) t
 | [],_,_,ht=>ht
 | e::vs,_,h,ht=>fin_mono (vs:=vs) (h.step e) (step_mono h e ht)
theorem fin_has {D:List (PV × PV)} {fl:Bool} {t:T3} {e:PV} (hs:∀ T,JI T->keyT (LH D fl T e) t):∀ {vs:List PV} {T:List (PV × PV)},JI T->e ∈ vs->keyT (tFin D fl T vs) t
 | x::vs,T,h,he=>by
  rcases AK.1 he with rfl | he
  ·exact fin_mono (vs:=vs) (h.step _) (hs T h)
  ·exact fin_has hs (vs:=vs) (h.step x) he
theorem tgt_of {T:List (PV × PV)} (h:JI T) {t:T3} (ht:keyT T t):tgtB T (FG t)=true:=by
 have hm:DA T (FG t)=true:=(mhas_key h.key).2 ht;show ((EG (.val (.bool false)) T (FG t)).cellAt 0).getB=true
 rw[mget_has h.val,hm];rfl
theorem last_way {ls:List PV} {fl:Bool} {s t:T3} {k:Ky} (hk:D7 (Gn ls) fl s t=some k) (hne:t ≠ s):∃ u id w,(u,t,id,w) ∈ gE fl (Gn ls)/\∃ k',D7 (Gn ls) fl s u=some k'/\k.1=k'.1+w:=by
 have hW:=csW_ok ls;obtain⟨hs,hm⟩:=GM.1 hk;obtain⟨hw,hl⟩:=hm;cases hw with
 | nil=>exact absurd rfl hne
 | @step u _ id w k0 h he =>
  obtain⟨ku,h1⟩:=min_ex hW h;have hu:D7 (Gn ls) fl s u=some ku:=GM.2 ⟨hs,h1⟩;have a1:=kLe_cost (h1.2 _ h);have a2:=kLe_cost (hl _ (Mc.step h1.1 he));refine⟨u,id,w,he,ku,hu,?_⟩;change k0.1+w<=ku.1+w at a2
  show k0.1+w=ku.1+w
  omega
theorem tight_all {ls:List PV} {fl:Bool} {s t:T3} {k:Ky} (hk:D7 (Gn ls) fl s t=some k):keyT (tFin ((Fq (Gn ls) fl s).map GK) fl [(FG s,bv true)] (Gn ls)) t:=by
 have hW:=csW_ok ls;have h0:JI [(FG s,bv true)]:=⟨fun x hx=>by rw[AF.1 hx];rfl,fun u hu=>by rw[AF.1 hu]⟩;by_cases hne:t=s
 ·subst hne;exact fin_mono h0 (AJ ..)
 ·obtain⟨u,id,w,he,k',hu,hc⟩:=last_way hk hne;obtain⟨e,he1,hsh,hx⟩:=gE_mem.1 he;have hst:(fl&&Lc e)=false:=by
   unfold CT at hsh;rw[BL] at hsh;exact hsh.2
  have hb:=len_bd he1;have b1:=cost_bd hW fl s u;obtain⟨m1,m2⟩:=KH hW fl s u;obtain⟨n1,n2⟩:=KH hW fl s t;rw[hu] at m1 m2 b1;rw[hk] at n1 n2;change 0<=k'.1/\k'.1<=_ at b1
  refine fin_has (e:=e) (fun T hT => ?_) h0 he1;unfold LH;rw[hst,At];simp only[eE,AK,BN,B6,Cq] at hx;rcases hx with ⟨rfl,rfl,rfl,rfl⟩ | ⟨rfl,rfl,rfl,rfl⟩
  ·-- from the first stop to the last
   change DA _ (eF e)=_ at m1
   change Ic _ (eF e)=_ at m2
   change Ic _ (eL e)=_ at n2
   have ht:(DA ((Fq (Gn ls) fl s).map GK) (eF e)&&Mj ((Fq (Gn ls) fl s).map GK) (eL e) (eF e) e)=true:=by
    rw[m1,Aa];refine⟨rfl,?_⟩;show (Ic _ (eL e)==W (Ic _ (eF e)+Df (wL e)))=true
    rw[m2,n2,Aw];show k.1=W (k'.1+Df (wL e))
    rw[Dc (by omega) (by omega)];exact hc
   unfold IC;rw[ht,Am];exact (IZ (hT.t2 _ _ _ _ _).key).2 (.inr rfl)
  ·change DA _ (eF e)=_ at n1
   change Ic _ (eL e)=_ at m2
   change Ic _ (eF e)=_ at n2
   refine t2_mono (hT.t2 _ _ _ _ _) ?_;have ht:(DA ((Fq (Gn ls) fl s).map GK) (eF e)&&Mj ((Fq (Gn ls) fl s).map GK) (eF e) (eL e) e)=true:=by
    rw[n1,Aa];refine⟨rfl,?_⟩;show (Ic _ (eF e)==W (Ic _ (eL e)+Df (wL e)))=true
    rw[m2,n2,Aw];show k.1=W (k'.1+Df (wL e))
    rw[Dc (by omega) (by omega)];exact hc
   unfold IC;rw[ht,Am];exact (IZ hT.key).2 (.inr rfl)
theorem path_self {ws:List PV} (h:KB ws) {fl:Bool} {s:T3} (hs:Eo ws s):D7 ws fl s s=some (0,[]):=by
 refine GM.2 ⟨hs,.nil,fun k' hw => ?_⟩;rw[<- JG] at hw;exact hw.Kz (I8 s (FH (fl:=fl) h)).Kz
theorem leastN (g:Bool) (ls:List PV) (p q r fr tt:Int) (fl:Bool):Dw Try.prog Y3e 60 5 [csV g ls p q r fr tt fl]=some (bv true):=by
 rw[qLeastW];cases hok:csOk ls with
 | false=>rfl
 | true =>
  have hW:=csW_ok ls;have hN:=csW_norm ls;have hs:=cs_stop hok fr;have h12:=csW_len ls;obtain⟨c1,c2⟩:=KH hW fl (EO ls fr) (EO ls fr);rw[path_self hW hs] at c1 c2;have p1:pLa (lLa true false (Gn ls) false (Gn ls) ((Gn ls).length:Int) 0 g ls p q r fr tt fl (EO ls fr).1 (EO ls fr).2.1 (EO ls fr).2.2 (EO ls tt).1 (EO ls tt).2.1 (EO ls tt).2.2 (leD ls fr fl) [(FG (EO ls fr),bv true)])=true:=by
   unfold pLa;rw[D3];exact⟨rfl,BS _,by omega,by omega,fun e he=>le_ok he⟩
  have p2:pLm (lLm true false (Gn ls) g ls p q r fr tt fl (EO ls fr).1 (EO ls fr).2.1 (EO ls fr).2.2 (EO ls tt).1 (EO ls tt).2.1 (EO ls tt).2.2 (leD ls fr fl) (leT ls fr fl) (leD ls fr fl).length)=true:=by
   unfold pLm;rw[D3];refine⟨rfl,okPt_of hW hN,fun kv hkv => ?_⟩;obtain⟨x,hx,rfl⟩:=AW.1 hkv;have hp:=(F4 (v:=x.1) (k:=x.2) hW).1 hx;have hb:=cost_bd hW fl (EO ls fr) x.1;rw[hp] at hb;have h0:JI (leT ls fr fl):=fin_ok ⟨fun y hy=>by rw[AF.1 hy];rfl,fun u hu=>by rw[AF.1 hu]⟩;exact⟨x.1.1,x.1.2.1,x.1.2.2,x.2.1,rfl,tgt_of h0 (tight_all hp),by show (D7 (Gn ls) fl (EO ls fr) x.1).isSome=true;rw[hp];rfl,by show oC (D7 (Gn ls) fl (EO ls fr) x.1)=x.2.1;rw[hp];rfl,hb.1⟩
  rw[okPt_of hW hN,c1,c2,p1,p2];rfl
theorem lawL (g:Bool) (ls:List PV) (p q r fr tt:Int) (fl:Bool):Hx.CV Try.prog 5/\Da Try.prog 5 [csV g ls p q r fr tt fl] (bv true):=CK okY3e (leastN g ls p q r fr tt fl)
end Go.Hr
