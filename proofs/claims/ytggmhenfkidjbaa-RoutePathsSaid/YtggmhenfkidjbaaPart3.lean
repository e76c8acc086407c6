import Derived.Test.YtggmhenfkidjbaaPart2
import Derived.LoopN
import Derived.Scope
import Derived.RangeFuncIn
import Derived.Test.YtggmhenfkidjbaaPart1
noncomputable section
namespace Go.Hx
variable{P:Program}{C:Ctx}
theorem NF{ops:Array Oper}{S S1:List PV}{o:Oper}{b:Bool}{a:Act}(hs:FV P C S a.tmps)(h:EG ops S o=some (b,S1)):
  FV P C S1 a.tmps/\Region.wanted o (yielded ops a.tmps)=b:=by
 unfold EG at h;unfold Region.wanted;split at h
 ·rename_i hg;cases h;rw[hg];exact⟨hs,rfl⟩
 ·rename_i j want hg;rw[hg];simp only;split at h
  ·rename_i hd;cases h;refine⟨hs,?_⟩;simp[yielded,hd]
  ·rename_i d hd;have hy:yielded ops a.tmps j=match a.tmps[d]? with |some (.bool b)=>some b |_=>none:=by simp[yielded,hd];rfl
   split at h
   ·rename_i hS;cases h;have hlt:S.length<=d:=by
     rcases Bv d S.length with h1 |h1
     ·rw[Ae h1]at hS;cases hS
     ·exact h1
    have:a.tmps[d]? = none:=Array.getElem?_eq_none (by rw[hs.1];exact hlt);refine⟨hs,?_⟩;rw[hy,this];rfl
   ·rename_i t hS;have hlt:d<a.tmps.size:=by rw[hs.1];exact(Ad.1 hS).1
    have h2:a.tmps[d]? = some a.tmps[d]:=AD hlt;have hv:=hs.2 d _ _ hS h2;generalize a.tmps[d]=V at h2 hv;cases hv;have key:∀ u,t=u->FV P C (S.set d (.val (.bool u))) a.tmps:=by
     intro u hu;subst hu;refine⟨by rw[Bi];exact hs.1,fun i p v g1 g2=>?_⟩;rw[Ax]at g1;split at g1
     ·rename_i e;subst e;split at g1
      ·cases g1;rw[h2]at g2;cases g2;exact .val
      ·cases g1
     ·exact hs.2 i p v g1 g2
    cases t with
    |true=>
     simp only at h;cases h;refine⟨key true rfl,?_⟩;rw[hy,h2];cases b <;> rfl
    |false=>
     simp only at h;cases h;refine⟨key false rfl,?_⟩;rw[hy,h2];cases want <;> rfl
   ·rename_i v hnb hS;cases h;have hlt:d<a.tmps.size:=by rw[hs.1];exact(Ad.1 hS).1
    have h2:a.tmps[d]? = some a.tmps[d]:=AD hlt;have hv:=hs.2 d _ _ hS h2;generalize a.tmps[d]=V at h2 hv;cases hv;refine⟨hs,?_⟩;rw[hy,h2];split
    ·rename_i b' e;cases e;exact absurd rfl (hnb b')
    ·rfl
   ·cases h
theorem JX{r:Option Nat}{P:Program}{E:Env}(hE:CG P E){ex:Ex}(hX:Ej P E ex){ro:Nat}{ops:Array Oper}:∀{l:List Oper} {S S':List PV} {H':List Row} {C:Ctx} {a:Act},
  LR (Mo P E ex ro) ops l S C.H=some (S',H')->C.ro=ro->RH P C->FV P C S a.tmps->∀ Q:Exit->Act->World->Prop,
  (∀ a' C',a'.defers=a.defers->C'.H=H'->Ext C C'->RH P C'->FV P C' S' a'.tmps->Q .normal a' C'.w)->wpListIn (Fr r) 0 P ops Q l a C.w
 | [],S,S',H',C,a,h,hro,hR,hs,Q,hQ=>by
  simp only[LR]at h;cases h;exact wpListIn_nil (hQ a C rfl rfl (.refl C) hR hs)
 |o::os,S,S',H',C,a,h,hro,hR,hs,Q,hQ=>by
  simp only[LR]at h;split at h
  ·rename_i S1 hg;obtain⟨hs1,hw⟩:=NF hs hg;split at h
   ·rename_i p H1 hstep;refine wpListIn_step fun K hK=>?_
    rw[hw,Ak rfl];refine Pq hE hX hR hro hs1 hstep fun v C' hc=>hK _ _ ?_
    have hH1:=hc.H;subst hH1;refine JX hE hX h (by rw[hc.ext.ro];exact hro) hc.rh ((hs1.mono hc.ext).put hc.rv) Q fun a' C2 hd hH2 hx hR2 hs2=>?_
    exact hQ a' C2 (by rw[hd];cases o.dst <;> rfl) hH2 (hc.ext.trans hx) hR2 hs2
   ·cases h
  ·rename_i S1 hg;obtain⟨hs1,hw⟩:=NF hs hg;refine wpListIn_step fun K hK=>?_
   rw[hw,Aq (by simp)];refine⟨fun _ _=>trivial,hK _ _ ?_⟩;refine JX hE hX h hro hR (hs1.put (v:=undef) .val) Q fun a' C2 hd hH2 hx hR2 hs2=>?_
   exact hQ a' C2 (by rw[hd];cases o.dst <;> rfl) hH2 hx hR2 hs2
  ·cases h
theorem UL{E:Env}(hE:CG P E){ex:Ex}(hX:Ej P E ex){ro id:Nat}{ops:Array Oper}{S S':List PV}{H H':List Row}(h:LR (Mo P E ex ro) ops ops.toList S H=some (S',H')):
  ET P (.region id ops false) ro S H .normal S' H':=by
 intro r C a hH hro hR hs hro2 Q hQ;subst hH;exact wpIn_region_list (JX hE hX h hro hR hs Q fun a' C' hd=>hQ a' C' (.of_eq hd))
theorem EI{S:List PV}{t:Array Value}(l:Option (List Tmp))(h:FV P C S t):FV P C (Fh l S) t:=by
 cases l with
 |none=>exact h
 |some l=>
  refine⟨by simp[Fh];exact h.1,fun i p v h1 h2=>?_⟩;simp only[Fh,An,Af]at h1;obtain⟨⟨q,j⟩,hq,rfl⟩:=h1;rw[BB]at hq;obtain⟨q',hq',he⟩:=Af.1 hq;cases he;split
  ·exact h.2 i _ v hq' h2
  ·exact .any
theorem WA{S:List PV}{t:Array Value}{h ro:Nat}(hh:h<=C.H.length)(hs:FV P C S t):FV P (C.cut h False ro) (Iv h S) t:=by
 refine⟨by simp[Iv];exact hs.1,fun i p v h1 h2=>?_⟩;simp only[Iv,An,Af]at h1;obtain⟨q,hq,rfl⟩:=h1;split
 ·rename_i hm;exact(hs.2 i q v hq h2).cut hh hm
 ·exact .any
theorem K8{r:Option Nat}{P:Program}{b:Code}{live:Option (List Tmp)}{ro:Nat}{body:List PV->List Row->Option (PX×List PV×List Row)}(hb:∀ S H x S' H',body S H=some (x,S',H')->ET P b ro S H x S' H'):
  ∀(m:Nat) {S:List PV} {H:List Row} {x:PX} {S':List PV} {H':List Row},Ny body live ro m S H=some (x,S',H')->∀(C:Ctx) (a:Act),C.H=H->C.ro=ro->RH P C->FV P C S a.tmps->FE r C.w->∀ Q:Exit->Act->World->Prop,
   (∀(a':Act) (C':Ctx),LU C.w a C'.w a'->C'.H=H'->Ext C C'->RH P C'->FV P C' S' a'.tmps->Q (uc x) a' C'.w)->Code.roundsIn (Fr r) 0 P b Q m a C.w
 |0,S,H,x,S',H',h=>by simp[Ny]at h
 |m+1,S,H,x,S',H',h=>by
  intro C a hH hro hR hs hro2 Q hQ;rw[roundsIn_succ];simp only[Ny]at h;split at h
  ·rename_i S1 H1 hb1;split at h
   ·rename_i hc;simp only[Aa,Ab]at hc;obtain⟨⟨⟨_,hle⟩,hok⟩,hroH⟩:=hc;refine hb _ _ _ _ _ hb1 r C a hH hro hR (EI live hs) hro2 _ fun a' C' hd hH' hx hR' hs'=>?_
    show Code.roundsIn (Fr r) 0 P b Q m a' C'.w
    subst hH;subst hH';have hRt:RH P (C'.cut C.H.length False C'.ro):=hR'.cut hle (by rw[hx.ro];exact hR.ro) hok;have hxt:Ext C (C'.cut C.H.length False C'.ro):=hx.cut (Al _) hle hR.ro;have:=K8 (r:=r) hb m h (C'.cut C.H.length False C'.ro) a' rfl (by show C'.ro=ro;rw[hx.ro];exact hro) hRt (WA hle (EI live hs')) (hro2.mono hxt) Q fun a2 C2 hd2 hH2 hx2 hR2 hs2=>hQ a2 C2 (LU.trans (C:=C'.cut C.H.length False C'.ro) hd hx.size hRt hx2 hd2) hH2 (hxt.trans hx2) hR2 hs2
    exact this
   ·refine hb _ _ _ _ _ hb1 r C a hH hro hR (EI live hs) hro2 _ fun a' C' hd hH' hx hR' hs'=>?_
    show Code.roundsIn (Fr r) 0 P b Q m a' C'.w
    exact K8 hb m h C' a' hH' (by rw[hx.ro];exact hro) hR' (EI live hs') (hro2.mono hx) Q fun a2 C2 hd2 hH2 hx2 hR2 hs2=>hQ a2 C2 (hd.trans hx.size hR' hx2 hd2) hH2 (hx.trans hx2) hR2 hs2
  ·rename_i rr hne;have hx:x≠.normal:=fun e=>by subst e;exact hne _ _ h
   refine hb _ _ _ _ _ h r C a hH hro hR (EI live hs) hro2 _ fun a' C' hd hH' hxt hR' hs'=>?_
   have hq:=hQ a' C' hd hH' hxt hR' hs';cases x with
   |normal=>exact absurd rfl hx
   |exit id=>exact hq
   |ret=>exact hq
theorem Gk{b:Frame}{a:Act}{k:List Item}{cs:List Frame}{w:World}{c:Code}:step P (lone (b.atR a (.code (.scope c)::k)) cs w)=.next (lone (b.atR a (.code c::.inScope c::k)) cs w):=
 step_lone_go (by simp[stepG,stepG.exec,Frame.atR])
theorem Tk{b:Frame}{a:Act}{k:List Item}{cs:List Frame}{w:World}{c:Code}:step P (lone (b.atR a (.inScope c::k)) cs w)=.next (lone (b.atR a k) cs w):=
 step_lone_go (by simp[stepG,stepG.exec,Frame.atR])
theorem LV{r:Option Nat}{Q:Exit->Act->World->Prop}{a:Act}{w:World}{c:Code}(h:c.wpIn (Fr r) 0 P (Exit.noGoto Q) a w):(Code.scope c).wpIn (Fr r) 0 P Q a w:=by
 intro b k cs hro hb hr;have h0:(lone (b.atR a (.code (.scope c)::k)) cs w).fenced P (Fr r):=fenced_calm hb hr rfl;obtain⟨e,a₁,w₁,hq,harr⟩:=h b (.inScope c::k) cs hro hb hr;cases e with
 |normal=>exact⟨.normal,a₁,w₁,hq,.head h0 Gk (StepsIn.trans harr (.one (fenced_calm hb hr rfl) Tk))⟩
 |exit id=>
  refine⟨.exit id,a₁,w₁,hq,fun k' hk=>.head h0 Gk (harr.1 k' (by simp[exitTo,hk])),fun h1 h2=>?_⟩;obtain⟨k₁,g1,g2⟩:=harr.2 h1 (by simp[exitTo,h2]);exact⟨k₁,g1,.head h0 Gk g2⟩
 |goto l=>exact hq.elim
 |ret=>exact⟨_,a₁,w₁,hq,.of_steps (.one h0 Gk) harr⟩
 |panic ch=>exact⟨_,a₁,w₁,hq,.of_steps (.one h0 Gk) harr⟩
 |outgrown=>exact⟨_,a₁,w₁,hq,.of_steps (.one h0 Gk) harr⟩
theorem WB{E:Env}(hE:CG P E){ex:Ex}(hX:Ej P E ex){ro:Nat}{f:FuncId}{g:Operand}{ps:Array Tmp}{HP body:Code}(hl:EB P f (.rangeFunc g ps HP body)){S S':List PV}{H H':List Row}{x:PX}
  (h:(match ev S g with
   |.fn (.func k) first cap=>
    match Iu P E ex ro k (first++[.Ih H.length]++cap) (H++[EX f S ps HP body]) with
    |some (_,H2)=>Wp S H.length H2
    |none=>none
   |_=>none)=some (x,S',H')):ET P (.rangeFunc g ps HP body) ro S H x S' H':=by
 intro r C a hH hro hR hs hro2 Q hQ;subst hH;split at h
 case h_2=>cases h
 rename_i k first cap hg
 split at h
 case h_2=>cases h
 rename_i p H2 hcall;have hgv:=hs.ev g;rw[hg]at hgv;generalize hG:a.eval g=G at hgv;cases hgv with
 | @fn _ _ _ F K q1 q2 q3 q4=>
 refine wpIn_rangeFunc fun fn _=>?_
 have lay:∃(l:Nat) (mark:List Deferred) (C1:Ctx),(Instr.enterLoop fn a.tmps ps HP body (Fr r).round).run P C.w=.ok (l,mark) C1.w/\C1.H=C.H++[EX f S ps HP body]/\Ext C C1/\RH P C1/\C1.ρ C.H.length=some l /\
   LU C.w a C1.w { a with defers:=mark++a.defers }:=by
  cases r with
  |none=>
   have hsm:I8 C.w (C.w.alloc (.deferred (some []))):=⟨rfl,rfl,rfl,by simp,fun b hb=>AY C.w _ hb⟩;have hRa:=hsm.rh hR;obtain⟨hx,hRb⟩:=Ri (C:=C.at (C.w.alloc (.deferred (some [])))) hRa (f:=f) (S:=S) (ps:=ps) (HP:=HP) (body:=body)
    (rec:={ state:=.ready,pending:=none,fn,tmps:=a.tmps,params:=ps,assign:=HP,body,defers:=C.w.heap.size }) rfl rfl rfl (hs.mono hsm.ext) rfl rfl (hl.sub (.Ol .here)) (hl.sub (.Om .here))
   refine⟨C.w.heap.size+1,[mk C.w.heap.size],_,run_enterLoop_outer fn a.tmps ps HP body,rfl,hsm.ext.trans hx,hRb,?_,[C.w.heap.size],by simp,rfl,fun q hq=>?_⟩
   ·simp[Ctx.bind,Ctx.more,Ctx.at]
   ·simp only[AI]at hq;subst hq;refine⟨Al _,?_⟩;have h0:=World.alloc_heap_new C.w (.deferred (some []));have h1:=AY (C.w.alloc (.deferred (some []))) (Obj.loop { state:=.ready,pending:=none,fn,tmps:=a.tmps,params:=ps,assign:=HP,body,defers:=C.w.heap.size }) (LU.lt h0);exact h1.trans h0
  |some l0=>
   obtain⟨rec0,hrec0⟩:=hro2 l0 rfl;obtain⟨hx,hRb⟩:=Ri (C:=C) hR (f:=f) (S:=S) (ps:=ps) (HP:=HP) (body:=body)
    (rec:={ state:=.ready,pending:=none,fn,tmps:=a.tmps,params:=ps,assign:=HP,body,defers:=rec0.defers }) rfl rfl rfl hs rfl rfl (hl.sub (.Ol .here)) (hl.sub (.Om .here))
   refine⟨C.w.heap.size,[],_,?_,rfl,hx,hRb,?_,.of_eq rfl⟩
   ·show(Instr.enterLoop fn a.tmps ps HP body (some l0)).run P C.w=_
    unfold Instr.enterLoop;simp only[Sem.run_bind,run_getLoop hrec0,Result.andThen,Sem.run_pure,run_newObj_alloc];rfl
   ·simp[Ctx.bind,Ctx.more]
 obtain⟨l,mark,C1,hlay,hH1,hx1,hR1,hρ1,hd1⟩:=lay;have hrow1:C1.H[C.H.length]? = some (EX f S ps HP body):=by rw[hH1];simp
 have hargs:Cs P C1 (first++[.Ih C.H.length]++cap) (F ++ #[.func (.yield l) #[] #[]]++K):=by
  have app:∀{l1 l2:List PV} {a1 a2:Array Value},Cs P C1 l1 a1->Cs P C1 l2 a2->Cs P C1 (l1++l2) (a1++a2):=by
   intro l1 l2 a1 a2 h1 h2;refine⟨by simp[h1.1,h2.1],fun j c v g1 g2=>?_⟩;rw[AO]at g1;rw[Array.getElem?_append,h1.1]at g2;split at g1
   ·rename_i hj;rw[Ak hj]at g2;exact h1.2 j c v g1 g2
   ·rename_i hj;rw[Aq hj]at g2;exact h2.2 _ c v g1 g2
  refine app (app ⟨q1,fun j c v g1 g2=>(q3 j c v g1 g2).mono hx1⟩ ⟨rfl,fun j c v g1 g2=>?_⟩) ⟨q2,fun j c v g1 g2=>(q4 j c v g1 g2).mono hx1⟩;cases j with
  |zero=>
   simp at g1 g2;subst g1;subst g2;exact .Ih (Ad.1 hrow1).1 ⟨_,_,hrow1,rfl,rfl⟩ hρ1
  |succ j=>simp at g1
 obtain⟨hent,hcl⟩:=Gj (ro:=ro) hE hX hR1 (by rw[hx1.ro];exact hro) hargs (by rw[hH1];exact hcall);refine⟨l,mark,C1.w,⟨.fn (.func k) K,F ++ #[.func (.yield l) #[] #[]]⟩,C1.w,k,F ++ #[.func (.yield l) #[] #[]]++K,C1.w,hlay,?_,fun _ _=>trivial,?_,fun h=>(by cases h),?_⟩
 ·simp only[resolve,hG,Deferred.ofValue,Sem.run_pure,BM,AV,Bs];rfl
 ·simp only[invoke];exact hent _
 ·refine(Rj (r:=r) (n:=0-1)).2 (Calls.mono hcl ?_)
  rintro e w' ⟨V,C2,rfl,rfl,hct⟩
  have hH2:=hct.H;subst hH2;obtain⟨⟨r2,st2,y1,y2,y3⟩,hρm⟩:=hct.ext.lp _ _ _ hrow1 rfl rfl;have hρ2:=hρm l hρ1;have hx2:=hx1.trans hct.ext;obtain⟨recq,hrecq,_⟩:=((hR1.Ii _ l _ _ hρ1 hrow1 rfl rfl).xr rfl).mem;obtain⟨recz,hrecz⟩:=hct.ext.loop l recq hrecq;obtain⟨⟨rec2,n1,n2,n3,n4,n5,n6⟩,_,_⟩:=(hct.rh.Ii _ l r2 _ hρ2 y1 y2 y3).po hrecz;have hro2':C2.ro<=C.H.length:=by rw[hx2.ro];exact hR.ro
  have fin:∀(H3:List Row) (info:FD),I9 C2.H C.H.length=some info->IY C2.H C.H.length .over=some H3->rec2.state≠.busy->∃ C3:Ctx,(Instr.endLoop l).run P C2.w=.ok rec2.pending C3.w/\Ext C C3/\RH P C3/\C3.H=H3/\FV P C3 S a.tmps/\LU C.w a C3.w { a with defers:=mark++a.defers }:=by
   intro H3 info hi hst hb;obtain⟨hx3,hR3⟩:=K7 (st:=.over) (rec':={ rec2 with state:=.exhausted }) hct.rh hst hρ2 hro2' n1 rfl rfl rfl rfl trivial;exact⟨_,run_endLoop n1 hb,hx2.trans hx3,hR3,rfl,hs.mono (hx2.trans hx3),(hd1.next hR1 hct.ext).next hct.rh hx3⟩
  have stq:∀(kk:Gf) (st:aj),I9 C2.H C.H.length=some ⟨kk,st⟩->st=st2:=by
   intro kk st hq;obtain⟨r3,w1,w2,w3⟩:=K6 hq;rw[y1]at w1;cases w1;rw[y2]at w2;cases w2;rfl
  unfold Wp at h;split at h
  ·rename_i kk H3 hq hst;cases h;have:=stq _ _ hq;subst this;obtain⟨C3,f1,f2,f3,f4,f5,f6⟩:=fin _ _ hq hst (by rw[n6.1];simp);refine⟨_,_,f1,?_⟩;rw[n6.2];exact hQ _ C3 f6 f4 f2 f3 f5
  ·rename_i kk H3 hq hst;cases h;have:=stq _ _ hq;subst this;obtain⟨C3,f1,f2,f3,f4,f5,f6⟩:=fin _ _ hq hst (by rw[n6.1];simp);refine⟨_,_,f1,?_⟩;rw[n6.2];exact wpIn_ret (hQ _ C3 f6 f4 f2 f3 f5)
  ·rename_i kk id H3 hq hst;cases h;have:=stq _ _ hq;subst this;obtain⟨C3,f1,f2,f3,f4,f5,f6⟩:=fin _ _ hq hst (by rw[n6.1];simp);refine⟨_,_,f1,?_⟩;rw[n6.2];exact wpIn_exit (hQ _ C3 f6 f4 f2 f3 f5)
  ·cases h
theorem WC(hR:RH P C){i h c:Nat}{r:Row}{e0:PV}{cs:List PV}(hi:i<C.H.length)(hro:C.ro<=i)(hr:C.row? i=some r)(hbv:r.bv=false)(he:r.es=[e0])(hcs:e0.cells=cs)(hc:cs[c]? = some (.val (.slice none 0 0)))
  {r0:Row} (h0:C.row? h=some r0) (hn0:r0.nl=true) (he0:r0.es=[]):
  I7 P C { C with H:=C.H.set i { r with es:=[.agg (cs.set c (.sl h 0 0 0))] } } (C.H.set i { r with es:=[.agg (cs.set c (.sl h 0 0 0))] }):=by
 have hl:({ r with es:=[.agg (cs.set c (.sl h 0 0 0))] }:Row).live=true:=by
  unfold Ctx.row? rowAt at hr;split at hr
  ·split at hr
   ·rename_i hlv;cases hr;exact hlv
   ·cases hr
  ·cases hr
 have hih:h≠i:=fun e=>by
  subst e;rw[hr]at h0;cases h0;rw[he]at he0;cases he0
 generalize hr2:({ r with es:=[.agg (cs.set c (.sl h 0 0 0))] }:Row)=r2 at hl;have e1:r2.es=[.agg (cs.set c (.sl h 0 0 0))]:=by rw[<- hr2]
 have e2:r2.s=r.s:=by rw[<- hr2]
 have e3:r2.t=r.t:=by rw[<- hr2]
 have e4:r2.nl=r.nl:=by rw[<- hr2]
 have e5:r2.bv=false:=by rw[<- hr2];exact hbv
 have e6:r2.fz=r.fz:=by rw[<- hr2]
 have hx:Ext C { C with H:=C.H.set i r2 }:=by
  refine⟨rfl,rfl,rfl,Al _,fun _ _ _=>rfl,fun _ c _ fr h=>⟨c,fr,h,rfl⟩,by simp,fun x r' hxl hr'=>?_,fun _ h=>.inl h,fun _ h=>.inl h,rfl,rfl,fun x hx=>⟨by show(C.H.set i r2)[x]? = _;rw[Ax,Aq (by omega)],rfl⟩,
   fun x r' info h1 h2 h3=>⟨⟨r',info.st,by show(C.H.set i r2)[x]? = _;rw[Ax,Aq (fun e=>UC hr h1 h3 e.symm)];exact h1,h2,h3⟩,fun _ h=>h⟩,fun _ rec h=>⟨rec,h⟩⟩
  have h1:rowAt (C.H.set i r2) x=some r':=hr';rw[Ep hi hl]at h1;split at h1
  ·rename_i e;subst e;cases h1;exact⟨r,hr,e2.symm,e3.symm,by rw[e1,he];simp,fun _=>⟨e4.symm,fun _ h=>h⟩⟩
  ·exact⟨r',h1,rfl,rfl,Al _,fun _=>⟨rfl,fun _ h=>h⟩⟩
 refine⟨rfl,hx,hR.inj,fun x b h=>?_,fun x b r' h1 h2=>?_,by simpa using hR.ro,hR.IU,hR.Kq,fun x b r' info h1 h2 h3 h4=>?_,hR.LQ.mono hx⟩
 ·by_cases hxi:x=i
  ·refine .inl ?_;show ∃ q,rowAt (C.H.set i r2) x=some q
   rw[Ep hi hl,Ak hxi];exact⟨_,rfl⟩
  ·rcases hR.Ly x b h with ⟨q,hq⟩ |⟨q,info,h1,h2,h3⟩
   ·exact .inl ⟨q,by show rowAt (C.H.set i r2) x=some q;rw[Ep hi hl,Aq hxi];exact hq⟩
   ·exact .inr ⟨q,info,by show(C.H.set i r2)[x]? = _;rw[Ax,Aq (fun e=>hxi e.symm)];exact h1,h2,h3⟩
 ·have h3:rowAt (C.H.set i r2) x=some r':=h2;rw[Ep hi hl]at h3;split at h3
  ·rename_i e;subst e;cases h3;have hB:=hR.GP x b r h1 hr;obtain⟨ca,fr,cv,m1,m2,m3,m4⟩:=hB.mem;have hlen:=hB.len e0 (by rw[he];simp);refine⟨by rw[e2,e3];exact hB.sz,⟨ca,fr,cv,by rw[e3];exact m1,fun q=>m2 (by rw[<- e6];exact q),by rw[e1,e2];rw[he]at m3;exact m3,fun k e j p q1 q2=>?_⟩,fun e q=>?_,fun q=>by rw[e5]at q;cases q⟩
   ·rw[e1]at q1;have hk:k=0:=by
     have:=(Ad.1 q1).1;simp at this;omega
    subst hk;simp only[AZ,A5]at q1;subst q1;simp only[PV.cells]at q2;rw[e2];by_cases hj:j=c
    ·subst hj;have hjl:j<cs.length:=(Ad.1 hc).1;rw[Cb hjl]at q2;cases q2;obtain⟨n1,n2⟩:=m4 0 e0 j (.val (.slice none 0 0)) (by rw[he];rfl) (by rw[hcs];exact hc);refine⟨n1,?_⟩;have hcv:cv 0 j=.slice none 0 0:=by
      generalize cv 0 j=v at n2;cases n2;rfl
     rw[hcv];have hrow:({ C with H:=C.H.set x r2 }:Ctx).row? h=some r0:=by
      show rowAt (C.H.set x r2) h=some r0
      rw[Ep hi hl,Aq hih];exact h0
     refine .sl ⟨_,_,rfl⟩ (by have:=EL h0;simpa using this) (fun r _=>AT _) fun r hr _=>⟨Al _,none,0,rfl,Al _,?_⟩
     rw[hrow]at hr;cases hr;unfold E4;rw[Ak hn0];exact⟨rfl,rfl⟩
    ·rw[B1 (fun e=>hj e.symm)]at q2;obtain⟨n1,n2⟩:=m4 0 e0 j p (by rw[he];rfl) (by rw[hcs];exact q2);exact⟨n1,n2.mono hx⟩
   ·rw[e1]at q;simp only[AI]at q;subst q;rw[e2,<- hlen,hcs];simp[PV.cells]
  ·exact(hR.GP x b r' h1 h3).mono hx rfl
 ·have hxi:x≠i:=fun e=>by
   subst e;have h2':(C.H.set x r2)[x]? = some r':=h2;rw[Ax,Ak rfl,Ak hi]at h2';cases h2';rw[hl]at h4;cases h4
  have h2':(C.H.set i r2)[x]? = some r':=h2;rw[Ax,Aq (fun e=>hxi e.symm)]at h2';exact(hR.Ii x b r' info h1 h2' h3 h4).mono hx rfl
theorem UM{ro h i c:Nat}{H H1:List Row}(hn:UI ro h H i c=some H1):∃ r e0 cs,ro<=i/\H[i]? = some r/\r.live=true/\r.bv=false/\r.es=[e0]/\e0.cells=cs/\cs[c]? = some (.val (.slice none 0 0))/\H1=H.set i { r with es:=[.agg (cs.set c (.sl h 0 0 0))] }:=by
 unfold UI at hn;split at hn
 ·rename_i r h1 h2;split at hn
  ·rename_i e0 h3 h4;split at hn
   ·rename_i cs h6;split at hn
    ·rename_i h5;cases hn;simp only[Aa,Am]at h3;exact⟨r,e0,cs,by simpa using h1,h2,h3.1.1,h3.1.2,h4,Wx h6,h5,rfl⟩
    ·cases hn
   ·cases hn
  ·cases hn
 ·cases hn
theorem Ia{P:Program}{c:Code}{ro:Nat}{S':List PV}{H':List Row}{x:PX}:∀(l:List (Tmp×TypeId×Nat)) (S:List PV) (H:List Row),ET P c ro (GS ro l S H).1 (GS ro l S H).2 x S' H'->ET P c ro S H x S' H'
 | [],_,_,h=>h
 |(d,t,s)::l,S,H,h=>by
  unfold GS at h;split at h
  ·split at h
   ·rename_i hd;split at h
    ·have h1:=Ia l _ _ h;intro r C a hH hro hR hs hro2 Q hQ;refine h1 r C a hH hro hR ?_ hro2 Q hQ;refine⟨by rw[Bi];exact hs.1,fun i p v g1 g2=>?_⟩;by_cases hi:i=d
     ·subst hi;rw[Cb (Ad.1 hd).1]at g1;cases g1;cases hs.2 i _ v hd g2;exact .C9 0 0 (fun _ _=>undef) (Al _) (fun h=>by cases h) (fun h=>by simp at h) (fun x e j p h1 _=>by simp at h1) (fun x e j p h1 _=>by simp at h1) (fun e h1=>by cases h1)
     ·rw[B1 (fun e=>hi e.symm)]at g1;exact hs.2 i p v g1 g2
    ·have h1:=Ia l _ _ h;intro r C a hH hro hR hs hro2 Q hQ;subst hH;have hx:=E9 hR { es:=[],s,t,bv:=true,nl:=true };refine h1 r (C.more { es:=[],s,t,bv:=true,nl:=true }) a rfl hro (Hb hR _) ?_ hro2 Q fun a' C' hdf hH' hx' hR' hs'=>hQ a' C' hdf hH' (hx.trans hx') hR' hs'
     refine⟨by rw[Bi];exact hs.1,fun i p v g1 g2=>?_⟩;by_cases hi:i=d
     ·subst hi;rw[Cb (Ad.1 hd).1]at g1;cases g1;cases hs.2 i _ v hd g2;have hrow:(C.more { es:=[],s,t,bv:=true,nl:=true }).row? C.H.length=some { es:=[],s,t,bv:=true,nl:=true }:=by
       show rowAt (C.H++_) C.H.length=_
       simp[rowAt]
      refine .sl ⟨_,_,rfl⟩ (by show C.H.length<(C.H++_).length;simp) (fun r _=>AT _) fun r hr _=>⟨Al _,none,0,rfl,Al _,?_⟩
      rw[hrow]at hr;cases hr;exact⟨rfl,rfl⟩
     ·rw[B1 (fun e=>hi e.symm)]at g1;exact(hs.2 i p v g1 g2).mono hx
   ·exact Ia l _ _ h
  ·split at h
   ·rename_i H1 hn;have h1:=Ia l _ _ h;obtain⟨r,e0,cs,g1,g2,g3,g4,g5,g7,g6,rfl⟩:=UM hn;intro rr C a hH hro hR hs hro2 Q hQ;subst hH;have hx:=E9 hR { es:=[],s,t,bv:=true,nl:=true };have hR1:=Hb hR { es:=[],s,t,bv:=true,nl:=true };have hi:=(Ad.1 g2).1;have hrow:(C.more { es:=[],s,t,bv:=true,nl:=true }).row? C.H.length=some { es:=[],s,t,bv:=true,nl:=true }:=by
     show rowAt (C.H++_) C.H.length=_
     simp[rowAt]
    have hrow2:(C.more { es:=[],s,t,bv:=true,nl:=true }).row? ((d-1000) / 100)=some r:=by
     show rowAt (C.H++_) _=_
     rw[D5 hi];unfold rowAt;rw[g2];simp[g3]
    have hT:=WC hR1 (by show _<(C.H++_).length;simp;omega) (by show C.ro<=_;rw[hro];exact g1) hrow2 g4 g5 g7 g6 hrow rfl rfl;have hset:(C.more { es:=[],s,t,bv:=true,nl:=true }).H.set ((d-1000) / 100) { r with es:=[.agg (cs.set ((d-1000) % 100) (.sl C.H.length 0 0 0))] }=C.H.set ((d-1000) / 100) { r with es:=[.agg (cs.set ((d-1000) % 100) (.sl C.H.length 0 0 0))] }++[{ es:=[],s,t,bv:=true,nl:=true }]:=by
     show(C.H++_).set _ _=_
     rw[List.set_append_left _ _ hi]
    rw[hset]at hT;have hx2:=hx.trans hT.ext;exact h1 rr _ a hT.H hro hT.rh (hs.mono hx2) hro2 Q fun a' C' hdf hH' hx' hR' hs'=>hQ a' C' hdf hH' (hx2.trans hx') hR' hs'
   ·exact Ia l _ _ h
def Ctx.Ek(C:Ctx)(m:Nat):Ctx:={ C with H:=C.H++List.replicate m Dt }
theorem Jp{H:List Row}{m i:Nat}{r:Row}(h:rowAt (H++List.replicate m Dt) i=some r):rowAt H i=some r:=by
 unfold rowAt at h ⊢;by_cases hi:i<H.length
 ·rwa [Aw hi]at h
 ·rw[Bn (by omega),BH]at h;split at h
  ·rename_i r0 he;split at he
   ·cases he;simp[Dt]at h
   ·cases he
  ·cases h
theorem Rm{H:List Row}{m i:Nat}{r:Row}(h:H[i]? = some r):(H++List.replicate m Dt)[i]? = some r:=by
 have hi:=(Ad.1 h).1;rw[Aw hi];exact h
theorem dm{H:List Row}{m i:Nat}{r:Row}(h:rowAt H i=some r):rowAt (H++List.replicate m Dt) i=some r:=by
 have hi:=EL h;unfold rowAt at h ⊢;rwa [Aw hi]
theorem gb{H:List Row}{m i:Nat}{r:Row}{info:FD}(h:(H++List.replicate m Dt)[i]? = some r)(hl:r.lp=some info):H[i]? = some r:=by
 by_cases hi:i<H.length
 ·rwa [Aw hi]at h
 ·rw[Bn (by omega),BH]at h;split at h
  ·cases h;simp[Dt]at hl
  ·cases h
theorem Gl(C:Ctx)(m:Nat)(hro:C.ro<=C.H.length):Ext C (C.Ek m) where
 os:=rfl
 tape:=rfl
 output:=rfl
 size:=Al _
 block _ _ _:=rfl
 shape b c e fr h:=⟨c,fr,h,rfl⟩
 len:=by simp[Ctx.Ek]
 rows i r' _ h:=⟨r',Jp h,rfl,rfl,Al _,fun _=>⟨rfl,fun _ h=>h⟩⟩
 fresh b h:=.inl h
 D8 b h:=.inl h
 fo:=rfl
 ro:=rfl
 low i hi:=⟨by simp only[Ctx.Ek];rw[Aw (by omega)],rfl⟩
 lp i r info h1 h2 h3:=⟨⟨r,info.st,Rm h1,h2,h3⟩,fun _ h=>h⟩
 loop b rec h:=⟨rec,h⟩
theorem NG(m:Nat)(h:RH P C):RH P (C.Ek m) where
 inj:=h.inj
 Ly i b hb:=by
  rcases h.Ly i b hb with ⟨r,hr⟩ |⟨r,info,h1,h2,h3⟩
  ·exact .inl ⟨r,dm hr⟩
  ·exact .inr ⟨r,info,Rm h1,h2,h3⟩
 GP i b r hb hr:=(h.GP i b r hb (Jp hr)).mono (Gl C m h.ro) rfl
 ro:=by have:=h.ro;simp only[Ctx.Ek,Ap];omega
 IU:=h.IU
 Kq:=h.Kq
 Ii i b r info hb h1 h2 h3:=(h.Ii i b r info hb (gb h1 h2) h2 h3).mono (Gl C m h.ro) rfl
 LQ:=h.LQ.mono (Gl C m h.ro)
theorem NH{h:Nat}(hh:h<=C.H.length)(hro:C.ro<=h)(hlp:(C.H.drop h).all (fun r=>r.lp.isNone)=true):Ext C ((C.cut h False C.ro).Ek (C.H.length-h)) where
 os:=rfl
 tape:=rfl
 output:=rfl
 size:=Al _
 block _ _ _:=rfl
 shape b c e fr h:=⟨c,fr,h,rfl⟩
 len:=by simp only[Ctx.Ek,Ctx.cut,Ap,Az,Cj];omega
 rows i r' _ hr:=by
  have hr1:(C.cut h False C.ro).row? i=some r':=Jp hr;have hi:=HT hr1;rw[HS hi]at hr1;exact⟨r',hr1,rfl,rfl,Al _,fun _=>⟨rfl,fun b hb=>by simp[Ctx.Ek,Ctx.cut,hi,hb]⟩⟩
 fresh b hb:=by
  obtain⟨i,hi⟩:=hb;simp only[Ctx.Ek,Ctx.cut]at hi;split at hi
  ·exact .inl ⟨i,hi⟩
  ·cases hi
 D8 b hb:=by
  obtain⟨i,hir,hi⟩:=hb;simp only[Ctx.Ek,Ctx.cut]at hi hir;split at hi
  ·exact .inl ⟨i,hir,hi⟩
  ·cases hi
 fo:=by funext b;simp[Ctx.Ek,Ctx.cut]
 ro:=rfl
 low i hi:=by
  refine⟨?_,by simp only[Ctx.Ek,Ctx.cut];rw[Ak (by omega)]⟩;simp only[Ctx.Ek,Ctx.cut];rw[Aw (by rw[Az];omega),Au,Ak (by omega)]
 lp i r info h1 h2 h3:=by
  have hi:i<h:=by
   rcases Bv i h with hi |hi
   ·exact hi
   ·have hm:r∈C.H.drop h:=by
     refine Ag (i:=i-h) ?_;rw[A8,show h+(i-h)=i by omega];exact h1
    have:=Ao.1 hlp r hm;rw[h2]at this;cases this
  refine⟨⟨r,info.st,?_,h2,h3⟩,fun b hb=>by simp[Ctx.Ek,Ctx.cut,hi,hb]⟩;simp only[Ctx.Ek,Ctx.cut];rw[Aw (by rw[Az];omega),Au,Ak hi];exact h1
 loop b rec h:=⟨rec,h⟩
theorem RV.IN(hR:RH P C){h ro:Nat}(hh:h<=C.H.length){p:PV}{V:Value}(hv:RV P C p V):mlt h (Hx.IN P C.H h p)=true->RV P (C.cut h False ro) (Hx.IN P C.H h p) V:=by
 unfold Hx.IN;split
 ·rename_i i n k len;split
  ·rename_i hi;have hi:=AN hi;split
   ·rename_i r hr;split
    ·rename_i hc;intro _;simp only[Aa,Am,Ay,Ao]at hc;obtain⟨⟨_,hn⟩,hall⟩:=hc;cases hv with
     |sl hV hi' hle h1=>
      obtain⟨hk,a,cap,rfl,hcap,hs⟩:=h1 r hr hn;have hl:(((r.es.drop k).take len).map (MG C.H h)).length=len:=by simp;omega
      have e1:(Value.slice a len cap)=.slice a (((r.es.drop k).take len).map (MG C.H h)).length cap:=by rw[hl]
      rw[e1];unfold E4 at hs;split at hs
      ·obtain⟨rfl,rfl⟩:=hs;have h0:len=0:=by omega
       subst h0;simp only[CV,Bs];exact .C9 0 0 (fun _ _=>undef) (by simp) (fun hf=>by cases hf) (fun h0=>by simp at h0) (fun x e j p hx=>by simp at hx) (fun x e j p hx=>by simp at hx) (fun e he=>by simp at he)
      ·obtain⟨b,hb,rfl,_⟩:=hs;have hB:=hR.GP i b r hb hr;obtain⟨c,fr,cv,m1,m2,m3,m4⟩:=hB.mem;have hget:∀(x:Nat) e,((r.es.drop k).take len)[x]? = some e->r.es[k+x]? = some e:=fun x e he=>by
        rw[Au]at he;split at he
        ·rw[A8]at he;exact he
        ·cases he
       have hcell:∀(x:Nat) e (j:Nat) p,(((r.es.drop k).take len).map (MG C.H h))[x]? = some e->e.cells[j]? = some p ->
         ∃ e0 p0,((r.es.drop k).take len)[x]? = some e0/\e0.cells[j]? = some p0/\p=Hx.frz C.H h p0:=fun x e j p hx hj=>by
        rw[An]at hx;obtain⟨e0,g1,rfl⟩:=Af.1 hx;have hj:(e0.cells.map (Hx.frz C.H h))[j]? = some p:=hj;rw[An]at hj;obtain⟨p0,g2,g3⟩:=Af.1 hj;exact⟨e0,p0,g1,g2,g3.symm⟩
       refine .C9 b (k*r.s) (fun x j=>cv (k+x) j) (by omega) (fun hf=>by cases hf) (fun _=>⟨rfl,?_,hB.lt⟩) (fun x e j p hx hj=>?_) (fun x e j p hx hj=>?_) (fun e he=>?_)
       ·rintro (⟨y,hy⟩ |hf |⟨hf,_⟩)
        ·simp only[Ctx.cut]at hy;split at hy
         ·have:=hR.inj _ _ _ hy hb;omega
         ·cases hy
        ·exact hR.IU _ _ hb hf
        ·exact hf
       ·obtain⟨e0,p0,g1,g2,_⟩:=hcell x e j p hx hj;obtain⟨q1,_⟩:=m4 (k+x) e0 j p0 (hget x e0 g1) g2;rw[show k*r.s+x*P.cellsOf r.t+j=(k+x)*r.s+j by rw[<- hB.sz,Bb]];show C.w.cell? _=_
        rw[Ij m1];exact q1
       ·obtain⟨e0,p0,g1,g2,rfl⟩:=hcell x e j p hx hj;exact((m4 (k+x) e0 j p0 (hget x e0 g1) g2).2).frz hR hh ((hall e0 (Ag g1)).1 p0 (Ag g2))
       ·obtain⟨e0,g1,rfl⟩:=AX.1 he;exact(hall e0 g1).2
    ·exact hv.frz hR hh
   ·exact hv.frz hR hh
  ·exact hv.frz hR hh
 ·exact hv.frz hR hh
theorem LF(hR:RH P C){h:Nat}(hh:h<=C.H.length)(hro:C.ro<=h){p:PV}{V:Value}(hv:RV P C p V):RV P ((C.cut h False C.ro).Ek (C.H.length-h)) (YD P C.H h p) V:=by
 have other:mlt h (IN P C.H h p)=true->RV P ((C.cut h False C.ro).Ek (C.H.length-h)) (IN P C.H h p) V:=fun hm=>(hv.IN hR hh hm).mono (Gl _ _ (by simp only[Ctx.cut,Az];omega))
 unfold YD;split
 ·rename_i i n k j;split
  ·rename_i hi;have hi:=AN hi;split
   ·rename_i r hr;split
    ·rename_i hc;simp only[Aa,Ay,Ab]at hc;obtain⟨⟨hbv,hn⟩,hk⟩:=hc;cases hv with
     |ptr hV hk' hi' hle hp=>
      obtain⟨b,hb,rfl⟩:=hp r hr hn;have hB:=hR.GP i b r hb hr;obtain⟨cv,e1,e2,e3⟩:=hB.elem (k:=k) (by omega);have hwt:=e2 hbv;refine .EF cv ?_ hB.lt (fun x q hq=>(e3 x q hq).1) (fun x q hq=>?_) hwt
      ·rintro (⟨i2,h2⟩ |hf)
       ·simp only[Ctx.Ek,Ctx.cut]at h2;split at h2
        ·have:=hR.inj _ _ _ h2 hb;omega
        ·cases h2
       ·simp only[Ctx.Ek,Ctx.cut,false_and,Cu]at hf;exact hR.IU i b hb hf
      ·exact(((e3 x q hq).2).cut hh (EW hwt h q (Ag hq))).mono (Gl _ _ (by simp only[Ctx.cut,Az];omega))
    ·split
     ·rename_i hc;simp only[Aa,Am,Ay,Ab,Ao]at hc;obtain⟨⟨⟨⟨_,hn⟩,hk⟩,hm⟩,hwt⟩:=hc;cases hv with
      |ptr hV hk' hi' hle hp=>
       obtain⟨b,hb,rfl⟩:=hp r hr hn;have hB:=hR.GP i b r hb hr;obtain⟨cv,e1,e2,e3⟩:=hB.elem (k:=k) (by omega);have hcell:∀(x:Nat) q,(MG C.H h (r.es.getD k .any)).cells[x]? = some q->∃ q0,(r.es.getD k .any).cells[x]? = some q0/\q=frz C.H h q0:=fun x q hq=>by
        have hq:((r.es.getD k .any).cells.map (frz C.H h))[x]? = some q:=hq;rw[An]at hq;obtain⟨q0,h1,h2⟩:=Af.1 hq;exact⟨q0,h1,h2.symm⟩
       refine .EF cv ?_ hB.lt (fun x q hq=>?_) (fun x q hq=>?_) hwt
       ·rintro (⟨i2,h2⟩ |hf)
        ·simp only[Ctx.Ek,Ctx.cut]at h2;split at h2
         ·have:=hR.inj _ _ _ h2 hb;omega
         ·cases h2
        ·simp only[Ctx.Ek,Ctx.cut,false_and,Cu]at hf;exact hR.IU i b hb hf
       ·obtain⟨q0,h1,_⟩:=hcell x q hq;exact(e3 x q0 h1).1
       ·obtain⟨q0,h1,rfl⟩:=hcell x q hq;exact(((e3 x q0 h1).2).frz hR hh (hm q0 (Ag h1))).mono (Gl _ _ (by simp only[Ctx.cut,Az];omega))
     ·exact .any
   ·exact .any
  ·rename_i hi;have hi:¬h<=i:=of_decide_eq_false hi;have:=other (by simp only[IN,frz,mlt,Ab];omega);simpa only[IN,frz] using this
 ·split
  ·rename_i hm;exact other hm
  ·exact .any
theorem Rn(P:Program)(H:List Row)(h:Nat)(r:Row):(F3 P H h r).live=r.live:=by
 unfold F3;cases hl:r.live with
 |false=>exact hl
 |true=>cases hb:r.bv <;> simp[hl]
theorem TO(P:Program)(H:List Row)(h:Nat)(r:Row):Oq r (F3 P H h r):=by
 unfold F3;cases hl:r.live with
 |false=>exact⟨rfl,rfl,rfl,rfl⟩
 |true=>cases hb:r.bv <;> simp[Oq]
def Ctx.deep(P:Program)(C:Ctx)(h:Nat):Ctx:={ (C.cut h False C.ro).Ek (C.H.length-h) with H:=(C.H.take h).map (F3 P C.H h)++List.replicate (C.H.length-h) Dt }
theorem Ro(P:Program)(C:Ctx)(h i:Nat):((C.H.take h).map (F3 P C.H h)++List.replicate (C.H.length-h) Dt)[i]? = ((C.cut h False C.ro).Ek (C.H.length-h)).H[i]?.map fun r=>if i<(C.H.take h).length then F3 P C.H h r else r:=by
 show _=(C.H.take h++List.replicate (C.H.length-h) Dt)[i]?.map _
 rw[AO,AO,AP];split
 ·rw[An]
 ·cases(List.replicate (C.H.length-h) Dt)[i-(C.H.take h).length]? <;> rfl
theorem Rp(P:Program)(C:Ctx)(h i:Nat):(C.deep P h).row? i=(((C.cut h False C.ro).Ek (C.H.length-h)).row? i).map fun r=>if i<(C.H.take h).length then F3 P C.H h r else r:=by
 show rowAt ((C.H.take h).map (F3 P C.H h)++List.replicate (C.H.length-h) Dt) i=(rowAt ((C.cut h False C.ro).Ek (C.H.length-h)).H i).map _
 unfold rowAt;rw[Ro];cases((C.cut h False C.ro).Ek (C.H.length-h)).H[i]? with
 |none=>rfl
 |some r=>
  have e:(if i<(C.H.take h).length then F3 P C.H h r else r).live=r.live:=by split <;> simp[Rn]
  show(if (if i<(C.H.take h).length then F3 P C.H h r else r).live=true then some (if i<(C.H.take h).length then F3 P C.H h r else r) else none)=Option.map _ (if r.live=true then some r else none)
  rw[e];by_cases hl:r.live=true
  ·rw[Ak hl,Ak hl];rfl
  ·rw[Aq hl,Aq hl];rfl
theorem Rq(P:Program)(C:Ctx)(h:Nat):VT ((C.cut h False C.ro).Ek (C.H.length-h)) (C.deep P h):=by
 have hdead:∀ r:Row,r.live=false->∀ i,(if i<(C.H.take h).length then F3 P C.H h r else r)=r:=fun r hr i=>by
  split
  ·unfold F3;rw[hr]
  ·rfl
 refine⟨rfl,rfl,rfl,rfl,?_,fun i r' hr=>?_,fun i r hr=>?_,fun i r hr hl=>?_,fun i r hr hl=>?_⟩
 ·show((C.H.take h).map _++_).length=(C.H.take h++_).length
  simp
 ·rw[Rp]at hr;obtain⟨r,a,rfl⟩:=Af.1 hr;refine⟨r,a,?_⟩;split
  ·exact TO _ _ _ r
  ·exact⟨rfl,rfl,rfl,rfl⟩
 ·refine⟨_,by rw[Rp,hr];rfl,?_⟩;dsimp only;split
  ·exact TO _ _ _ r
  ·exact⟨rfl,rfl,rfl,rfl⟩
 ·show((C.H.take h).map (F3 P C.H h)++List.replicate (C.H.length-h) Dt)[i]? = _
  rw[Ro,hr,AE,hdead r hl]
 ·have hr':((C.H.take h).map (F3 P C.H h)++List.replicate (C.H.length-h) Dt)[i]? = some r:=hr;rw[Ro]at hr';obtain⟨q,a,b⟩:=Af.1 hr';have hq:q.live=false:=by
   have:=congrArg Row.live b;rw[hl]at this;split at this
   ·rw[Rn]at this;exact this
   ·exact this
  rw[hdead q hq]at b;rw[a,b]
theorem mc{C C':Ctx}(h:VT C C')(h0:C.ro=0):Ext C C' where
 os:=by rw[h.w]
 tape:=by rw[h.w]
 output:=by rw[h.w]
 size:=by rw[h.w];exact Al _
 block b _ _:=by rw[h.w]
 shape b c e fr hh:=⟨c,fr,by rw[h.w];exact hh,rfl⟩
 len:=by rw[h.len];exact Al _
 rows i r' _ hr:=by
  obtain⟨r,a,b1,b2,b3,b4⟩:=h.row i r' hr;exact⟨r,a,b1,b4,by rw[b2];exact Al _,fun _=>⟨b3,fun b hb=>by rw[h.ρ];exact hb⟩⟩
 fresh b hb:=by obtain⟨i,hi⟩:=hb;exact .inl ⟨i,by rw[<- h.ρ];exact hi⟩
 D8 b hb:=by obtain⟨i,hir,hi⟩:=hb;exact .inl ⟨i,by rw[<- h.ro];exact hir,by rw[<- h.ρ];exact hi⟩
 fo:=h.fo
 ro:=h.ro
 low i hi:=by omega
 lp i r info h1 h2 h3:=⟨⟨r,info.st,h.lp i r h1 h3,h2,h3⟩,fun b hb=>by rw[h.ρ];exact hb⟩
 loop b rec hh:=⟨rec,by rw[h.w];exact hh⟩
theorem me{h:Nat}(hl:fV h (C.H.take h)=true):DF h ((C.TH (List.range h)).H.take h)=true:=by
 unfold DF;refine Ao.2 fun r hr=>?_
 obtain⟨i,hi⟩:=Bh hr;rw[Au]at hi;split at hi
 ·rename_i hih;have hi':(Ei (List.range h) C.H)[i]? = some r:=hi;rw[Gc]at hi';obtain⟨q,hq,rfl⟩:=Af.1 hi';rw[Ak (by simpa using hih)];have hlq:(match q.lp with |some info=>E5 h info.k.S0 |none=>true)=true:=Ao.1 hl q (by
   refine Ag (i:=i) ?_;rw[Au,Ak hih];exact hq)
  have hany:∀ n,E5 h (List.replicate n PV.any)=true:=fun n=>by
   induction n with
   |zero=>rfl
   |succ n ih=>rw[List.replicate_succ];simp only[E5,mlt,ih,Bg]
  rw[Aa];unfold DS;cases hlive:q.live with
  |false=>simp only;exact⟨by simp[hlive],hlq⟩
  |true=>
   refine⟨?_,hlq⟩;simp only[BX,Bt,Ao];intro e he;obtain⟨_,_,rfl⟩:=AX.1 he;exact hany _
 ·cases hi
theorem mf(hR:RH P C){h:Nat}(hh:h<=C.H.length)(hro:C.ro<=h)(hl:fV h (C.H.take h)=true):RH P (C.deep P h):=by
 have hRp:=fA hR (List.range h);have hlen:(C.TH (List.range h)).H.length=C.H.length:=EH _ _;have hR1:RH P (((C.TH (List.range h)).cut h False C.ro).Ek (C.H.length-h)):=NG _ (hRp.cut (by rw[hlen];exact hh) hro (me hl))
 have hs1:VT ((C.cut h False C.ro).Ek (C.H.length-h)) (((C.TH (List.range h)).cut h False C.ro).Ek (C.H.length-h)):=by
  have hp:=LA C (List.range h);have row_of:∀(D:Ctx) (_:D.ρ=C.ρ) (i:Nat),((D.cut h False C.ro).Ek (C.H.length-h)).row? i=if i<h then D.row? i else none:=fun D _ i=>by
   show rowAt (D.H.take h++_) i=_
   split
   ·rename_i hi;by_cases hid:i<D.H.length
    ·unfold Ctx.row? rowAt;rw[Aw (by rw[Az];omega),Au,Ak hi]
    ·have h1:D.row? i=none:=by unfold Ctx.row? rowAt;rw[AG (by omega)]
     rw[h1];cases hc:rowAt (D.H.take h++List.replicate (C.H.length-h) Dt) i with
     |none=>rfl
     |some q=>
      have:=Jp hc;have h2:=EL this;rw[Az]at h2;omega
   ·rename_i hi;cases hc:rowAt (D.H.take h++List.replicate (C.H.length-h) Dt) i with
    |none=>rfl
    |some q=>
     have:=Jp hc;have h2:=EL this;rw[Az]at h2;omega
  have get_of:∀(D:Ctx),D.H.length=C.H.length->∀(i:Nat),((D.cut h False C.ro).Ek (C.H.length-h)).H[i]? = if i<h then D.H[i]? else (List.replicate (C.H.length-h) Dt)[i-h]?:=fun D hD i=>by
   show(D.H.take h++_)[i]? = _
   have hl2:(D.H.take h).length=h:=by rw[Az];omega
   split
   ·rename_i hi;rw[Aw (by omega),Au,Ak hi]
   ·rename_i hi;rw[Bn (by omega),hl2]
  refine⟨rfl,rfl,rfl,rfl,?_,fun i r' hr=>?_,fun i r hr=>?_,fun i r hr hl=>?_,fun i r hr hl=>?_⟩
  ·show((C.TH (List.range h)).H.take h++_).length=(C.H.take h++_).length
   simp[hlen]
  ·rw[row_of (C.TH (List.range h)) rfl]at hr;rw[row_of C rfl];split at hr
   ·rename_i hi;rw[Ak hi];exact hp.row i r' hr
   ·cases hr
  ·rw[row_of C rfl]at hr;rw[row_of (C.TH (List.range h)) rfl];split at hr
   ·rename_i hi;rw[Ak hi];exact hp.row' i r hr
   ·cases hr
  ·rw[get_of C rfl]at hr;rw[get_of (C.TH (List.range h)) hlen];split at hr
   ·rename_i hi;rw[Ak hi];exact hp.lp i r hr hl
   ·rename_i hi;rw[Aq hi];exact hr
  ·rw[get_of (C.TH (List.range h)) hlen]at hr;rw[get_of C rfl];split at hr
   ·rename_i hi;rw[Ak hi];exact hp.lp' i r hr hl
   ·rename_i hi;rw[Aq hi];exact hr
 have hs2:=Rq P C h;have hs:VT (((C.TH (List.range h)).cut h False C.ro).Ek (C.H.length-h)) (C.deep P h):=by
  have a:=hs1.symm;refine⟨hs2.w.trans a.w,hs2.ρ.trans a.ρ,hs2.fo.trans a.fo,hs2.ro.trans a.ro,hs2.len.trans a.len,fun i r' hr=>?_,fun i r hr=>?_,fun i r hr hl=>hs2.lp i r (a.lp i r hr hl) hl,fun i r hr hl=>a.lp' i r (hs2.lp' i r hr hl) hl⟩
  ·obtain⟨r1,g1,k1,k2,k3,k4⟩:=hs2.row i r' hr;obtain⟨r2,g2,l1,l2,l3,l4⟩:=a.row i r1 g1;exact⟨r2,g2,l1.trans k1,l2.trans k2,l3.trans k3,l4.trans k4⟩
  ·obtain⟨r1,g1,k1,k2,k3,k4⟩:=a.row' i r hr;obtain⟨r2,g2,l1,l2,l3,l4⟩:=hs2.row' i r1 g1;exact⟨r2,g2,k1.trans l1,k2.trans l2,k3.trans l3,k4.trans l4⟩
 refine hR1.Ot hs fun i b r hb hr=>?_
 rw[Rp]at hr;obtain⟨r0,hr0,rfl⟩:=Af.1 hr;have hr1:(C.cut h False C.ro).row? i=some r0:=Jp hr0;have hi:=HT hr1;rw[HS hi]at hr1;have hb':C.ρ i=some b:=by
  have h1:(if i<h then C.ρ i else none)=some b:=hb;rwa [Ak hi]at h1
 have hB:=hR.GP i b r0 hb' hr1;rw[Ak (by rw[Az];omega)];obtain⟨c,fr,cv,m1,m2,m3,m4⟩:=hB.mem;have hlive:=Qz hr1;unfold F3;rw[hlive];dsimp only;cases hbv:r0.bv with
 |true=>
  dsimp only;refine⟨hB.sz,⟨c,fr,cv,m1,m2,m3,fun k e j p hk hj=>⟨(m4 k e j p hk hj).1,?_⟩⟩,hB.len,hB.typed⟩;exact((((m4 k e j p hk hj).2).cut hh (EW (hB.typed hbv e (Ag hk)) h p (Ag hj))).mono (Gl _ _ (by simp only[Ctx.cut,Az];omega))).Ot hs2
 |false=>
  dsimp only;refine⟨hB.sz,⟨c,fr,cv,m1,m2,by simpa using m3,fun k e j p hk hj=>?_⟩,fun e he=>?_,fun hbv2 e he=>?_⟩
  ·simp only[An,Af]at hk;obtain⟨e0,hk0,rfl⟩:=hk;simp only[TN,PV.cells,An,Af]at hj;obtain⟨p0,hj0,rfl⟩:=hj;exact⟨(m4 k e0 j p0 hk0 hj0).1,(LF hR hh hro (m4 k e0 j p0 hk0 hj0).2).Ot hs2⟩
  ·obtain⟨e0,he0,rfl⟩:=AX.1 he;simp only[TN,PV.cells,AP];exact hB.len e0 he0
  ·exact Ao.1 hbv2 e he
theorem dn{c:Code}{ro:Nat}{o:Option (Nat×Bool)}{S S':List PV}{H H':List Row}{x:PX}(h:ET P c ro (Ku P ro o S H).1 (Ku P ro o S H).2 x S' H'):ET P c ro S H x S' H':=by
 unfold Ku at h;split at h
 ·exact h
 ·rename_i n;split at h
  ·rename_i hc;simp only[Aa,Ab]at hc;obtain⟨⟨⟨h1,h2⟩,h3⟩,h4⟩:=hc;intro r C a hH hro hR hs hro2 Q hQ;subst hH;subst hro;have hx:=NH h2 h1 h4;have hR1:RH P ((C.cut n False C.ro).Ek (C.H.length-n)):=NG _ (hR.cut h2 h1 h3);refine h r ((C.cut n False C.ro).Ek (C.H.length-n)) a rfl rfl hR1 ?_ hro2 Q fun a' C' hdf hH' hx' hR' hs'=>hQ a' C' hdf hH' (hx.trans hx') hR' hs'
   refine⟨by rw[AP];exact hs.1,fun i p v g1 g2=>?_⟩;rw[An]at g1;obtain⟨q,hq,rfl⟩:=Af.1 g1;exact LF hR h2 h1 (hs.2 i q v hq g2)
  ·exact h
 ·rename_i n;split at h
  ·rename_i hc;simp only[Aa,Ab]at hc;obtain⟨⟨⟨h1,h2⟩,h3⟩,h4⟩:=hc;have h1:=Bp h1;intro r C a hH hro hR hs hro2 Q hQ;subst hH;subst hro;have hx:=(NH h2 (by omega) h4).trans (mc (Rq P C n) (show C.ro=0 from h1));have hR1:RH P (C.deep P n):=mf hR h2 (by omega) h3;refine h r (C.deep P n) a rfl rfl hR1 ?_ hro2 Q fun a' C' hdf hH' hx' hR' hs'=>hQ a' C' hdf hH' (hx.trans hx') hR' hs'
   refine⟨by rw[AP];exact hs.1,fun i p v g1 g2=>?_⟩;rw[An]at g1;obtain⟨q,hq,rfl⟩:=Af.1 g1;exact(LF hR h2 (by omega) (hs.2 i q v hq g2)).Ot (Rq P C n)
  ·exact h
theorem Pr{P:Program}{c:Code}{ro:Nat}{S':List PV}{H H':List Row}{x:PX}:∀(ks:List Nat) {S:List PV},ET P c ro (forget ks S) H x S' H'->ET P c ro S H x S' H'
 | [],_,h=>h
 |k::ks,S,h=>by
  have h:=Pr ks h;intro r C a hH hro hR hs hro2 Q hQ;refine h r C a hH hro hR ⟨by rw[Bi];exact hs.1,fun i p v g1 g2=>?_⟩ hro2 Q hQ;rw[Ax]at g1;split at g1
  ·split at g1
   ·cases g1;exact .any
   ·cases g1
  ·exact hs.2 i p v g1 g2
theorem Rr{P:Program}{E:Env}(hE:CG P E)
  (hdraw:∀{ex:Ex},Ej P E ex->∀{ro id:Nat} {ops:Array Oper} {S S':List PV} {H H':List Row},GF P ops.toList=true->LR (HK P E ex) ops ops.toList S H=some (S',H')->ET P (.region id ops true) ro S H .normal S' H')
  (hmix:∀{ex:Ex},Ej P E ex->∀{ro id:Nat} {ops:Array Oper} {S S':List PV} {H H':List Row} {W G:List (List Nat)},GF P ops.toList=true->K4 (UH P E ex ro W G (DO ops.toList []) ops.size) ops 0 ops.toList S H=some (S',H')->ET P (.region id ops true) ro S H .normal S' H')
  (hpiv:∀{ex:Ex},Ej P E ex->∀{ro id pv:Nat} {ops:Array Oper} {S S':List PV} {H H':List Row},GF P ops.toList=true->Nx (DO ops.toList []) ops.size pv=true->K4 (K5 P E ex ro pv) ops 0 ops.toList S H=some (S',H')->ET P (.region id ops true) ro S H .normal S' H')
  (hch:∀{ex:Ex},Ej P E ex->∀{ro id:Nat} {ops:Array Oper} {S S':List PV} {H H':List Row} {W:List (List Nat)} {sf:Bool},GF P ops.toList=true->Nw P sf (DO ops.toList []) ops.toList=true->K4 (KZ sf (Mq sf (DO ops.toList []) ops.toList) P E ex ro H.length W (DO ops.toList []) ops.size) ops 0 ops.toList S H=some (S',H')->ET P (.region id ops true) ro S H .normal S' H'):
  ∀ n,Ej P E (exec P E n)
 |0=>fun _ _ _ _ _ _ _ _ h=>by simp[exec]at h
 |n+1=>by
  have ih:=Rr hE hdraw hmix hpiv hch n;intro ro f c S H x S' H' h hl;cases c <;> simp only[exec]at h
  case skip=>cases h;intro r C a hH hro hR hs hro2 Q hQ;exact wpIn_skip (hQ a C (.of_eq rfl) hH (.refl C) hR hs)
  case label=>cases h;intro r C a hH hro hR hs hro2 Q hQ;exact wpIn_label (hQ a C (.of_eq rfl) hH (.refl C) hR hs)
  case region id ops draw=>
   refine Pr (E.di f id) (dn (o:=fW H.length (E.drop f id)) ?_);generalize Ku P ro (fW H.length (E.drop f id)) (forget (E.di f id) S) H=SH at h ⊢;obtain⟨S,H⟩:=SH;dsimp only at h ⊢;split at h
   ·rename_i hd;subst hd;split at h
    ·rename_i hok;split at h
     ·split at h
      ·rename_i hp;obtain⟨⟨S1,H1⟩,h1,he⟩:=Af.1 h;cases he;exact hch ih hok hp h1
      ·cases h
     ·split at h
      case h_1=>
       split at h
       ·rename_i hp;obtain⟨⟨S1,H1⟩,h1,he⟩:=Af.1 h;cases he;exact hpiv ih hok hp h1
       ·cases h
      case h_2=>
       split at h
       ·obtain⟨⟨S1,H1⟩,h1,he⟩:=Af.1 h;cases he;exact hmix ih hok h1
       ·obtain⟨⟨S1,H1⟩,h1,he⟩:=Af.1 h;cases he;exact hdraw ih hok h1
    ·cases h
   ·rename_i hd;have hd:draw=false:=by simpa using hd
    subst hd;obtain⟨⟨S1,H1⟩,h1,he⟩:=Af.1 h;cases he;exact UL hE ih h1
  case seq c1 c2=>
   intro r C a hH hro hR hs hro2 Q hQ;refine wpIn_seq ?_;split at h
   ·rename_i S1 H1 h1;refine ih ro f c1 S H _ _ _ h1 (hl.sub (.seq1 .here)) r C a hH hro hR hs hro2 _ fun a' C' hd hH' hx hR' hs'=>?_
    refine ih ro f c2 S1 H1 _ _ _ h (hl.sub (.V0 .here)) r C' a' hH' (by rw[hx.ro];exact hro) hR' hs' (hro2.mono hx) Q fun a2 C2 hd2 hH2 hx2 hR2 hs2=>hQ a2 C2 (hd.trans hx.size hR' hx2 hd2) hH2 (hx.trans hx2) hR2 hs2
   ·rename_i rr hne;have hx:x≠.normal:=fun e=>by subst e;exact hne _ _ h
    refine ih ro f c1 S H _ _ _ h (hl.sub (.seq1 .here)) r C a hH hro hR hs hro2 _ fun a' C' hd hH' hxt hR' hs'=>?_
    have hq:=hQ a' C' hd hH' hxt hR' hs';cases x with
    |normal=>exact absurd rfl hx
    |exit id=>exact hq
    |ret=>exact hq
  case cond c x1 y1=>
   intro r C a hH hro hR hs hro2 Q hQ;split at h
   ·rename_i t ht;have hv:=hs.ev c;rw[ht]at hv;generalize hV:a.eval c=V at hv;cases hv;cases t with
    |true=>exact wpIn_cond hV (ih ro f x1 S H _ _ _ h (hl.sub (.V1 .here)) r C a hH hro hR hs hro2 Q hQ)
    |false=>exact wpIn_cond hV (ih ro f y1 S H _ _ _ h (hl.sub (.V2 .here)) r C a hH hro hR hs hro2 Q hQ)
   ·cases h
  case block id b=>
   intro r C a hH hro hR hs hro2 Q hQ;refine wpIn_block ?_;split at h
   ·rename_i i S1 H1 h1;refine ih ro f b S H _ _ _ h1 (hl.sub (.block .here)) r C a hH hro hR hs hro2 _ fun a' C' hd hH' hxt hR' hs'=>?_
    show(if i=id then Q .normal a' C'.w else Q (.exit i) a' C'.w)
    split at h
    ·rename_i hi;cases h;rw[Ak hi];exact hQ a' C' hd hH' hxt hR' hs'
    ·rename_i hi;cases h;rw[Aq hi];exact hQ a' C' hd hH' hxt hR' hs'
   ·rename_i rr hne;refine ih ro f b S H _ _ _ h (hl.sub (.block .here)) r C a hH hro hR hs hro2 _ fun a' C' hd hH' hxt hR' hs'=>?_
    have hq:=hQ a' C' hd hH' hxt hR' hs';cases x with
    |normal=>exact hq
    |exit i=>exact absurd h (hne i _ _)
    |ret=>exact hq
  case loop b=>
   refine Ia (E.KX f (Ew b)) S H ?_;split at h
   ·rename_i r hr;cases h;intro r C a hH hro hR hs hro2 Q hQ;exact(hE.loh hl).1 ro _ _ x S' H' hr r C a hH hro hR (EI _ hs) hro2 Q hQ
   ·intro r C a hH hro hR hs hro2 Q hQ;exact wpIn_loop_rounds n (K8 (r:=r) (fun S H x S' H' hb=>ih ro f b S H x S' H' hb (hl.sub (.loop .here))) n h C a hH hro hR hs hro2 Q hQ)
  case scope b=>
   intro r C a hH hro hR hs hro2 Q hQ;refine LV ?_;refine ih ro f b S H _ _ _ h (hl.sub (.scope .here)) r C a hH hro hR hs hro2 _ fun a' C' hd hH' hxt hR' hs'=>?_
   have hq:=hQ a' C' hd hH' hxt hR' hs';cases x <;> exact hq
  case exit id=>cases h;intro r C a hH hro hR hs hro2 Q hQ;exact wpIn_exit (hQ a C (.of_eq rfl) hH (.refl C) hR hs)
  case ret=>cases h;intro r C a hH hro hR hs hro2 Q hQ;exact wpIn_ret (hQ a C (.of_eq rfl) hH (.refl C) hR hs)
  case rangeFunc g ps HP body=>intro r C a hH hro hR hs hro2 Q hQ;exact WB hE ih hl h r C a hH hro hR (EI _ hs) hro2 Q hQ
  all_goals cases h
def mg(P:Program)(E:Env)(ex:Ex)(ops:Array Oper)(S:List PV)(H:List Row)(o:Oper)(p:PV)(S':List PV)(H':List Row):Prop:=
 S'=D6 S o.dst p/\((EG ops S o=some (false,S)/\p=.val undef/\H'=H)\/(EG ops S o=some (true,S)/\HK P E ex S H o=some (p,H')))
theorem IZ{ops:Array Oper}{S S1:List PV}{o:Oper}{b:Bool}(h:EG ops S o=some (b,S1)):S1=S:=by
 unfold EG at h;split at h
 ·cases h;rfl
 ·split at h
  ·cases h;rfl
  ·rename_i d hd;split at h
   ·cases h;rfl
   ·rename_i t hS;obtain⟨hlt,hv⟩:=Ad.1 hS;cases t <;> (simp only at h;cases h;rw[<- hv];exact List.set_getElem_self hlt)
   ·cases h;rfl
   ·cases h
theorem trace{P:Program}{E:Env}{ex:Ex}{ops:Array Oper}:∀(l:List Oper) {S S':List PV} {H H':List Row},LR (HK P E ex) ops l S H=some (S',H') ->
  ∃(Sf:Nat->List PV) (Hf:Nat->List Row) (pf:Nat->PV),Sf 0=S/\Hf 0=H/\Sf l.length=S'/\Hf l.length=H'/\∀(j:Nat) o,l[j]? = some o->mg P E ex ops (Sf j) (Hf j) o (pf j) (Sf (j+1)) (Hf (j+1))
 | [],S,S',H,H',h=>by
  simp only[LR]at h;cases h;exact⟨fun _=>S,fun _=>H,fun _=>.any,rfl,rfl,rfl,rfl,fun j o hj=>by simp at hj⟩
 |o::os,S,S',H,H',h=>by
  simp only[LR]at h;have glue:∀(p:PV) (H1:List Row),mg P E ex ops S H o p (D6 S o.dst p) H1->LR (HK P E ex) ops os (D6 S o.dst p) H1=some (S',H') ->
    ∃(Sf:Nat->List PV) (Hf:Nat->List Row) (pf:Nat->PV),Sf 0=S/\Hf 0=H/\Sf (o::os).length=S'/\Hf (o::os).length=H'/\∀(j:Nat) o',(o::os)[j]? = some o'->mg P E ex ops (Sf j) (Hf j) o' (pf j) (Sf (j+1)) (Hf (j+1)):=by
   intro p H1 h1 h2;obtain⟨Sf,Hf,pf,a1,a2,a3,a4,a5⟩:=trace os h2;refine⟨fun j=>match j with |0=>S |j+1=>Sf j,fun j=>match j with |0=>H |j+1=>Hf j,fun j=>match j with |0=>p |j+1=>pf j,rfl,rfl,a3,a4,fun j o' hj=>?_⟩
   match j with
   |0=>
    simp at hj;subst hj;show mg P E ex ops S H o p (Sf 0) (Hf 0)
    rw[a1,a2];exact h1
   |j+1=>exact a5 j o' (by simpa using hj)
  split at h
  ·rename_i S1 hg;have:=IZ hg;subst this;split at h
   ·rename_i p H1 hs;exact glue p H1 ⟨rfl,.inr ⟨hg,hs⟩⟩ h
   ·cases h
  ·rename_i S1 hg;have:=IZ hg;subst this;exact glue (.val undef) H ⟨rfl,.inl ⟨hg,rfl,rfl⟩⟩ h
  ·cases h
theorem MI{E:Env}{ex:Ex}{S:List PV}{H H':List Row}{o:Oper}{p:PV}(h:HK P E ex S H o=some (p,H')):H'=H\/∃ r,H'=H++[r]:=by
 unfold HK at h;split at h
 ·cases h;exact .inl rfl
 ·split at h
  ·cases h;exact .inr ⟨_,rfl⟩
  ·split at h
   ·split at h
    ·split at h
     ·obtain⟨q,_,he⟩:=Af.1 h;cases he;exact .inl rfl
     ·cases h
    ·cases h
   ·cases h
inductive Reach(L:List Oper):Nat->Nat->Prop
 |one {j:Nat} {o:Oper} {e:Edge} (ho:L[j]? = some o) (he:e∈o.after) (hb:Region.binds .any e=true):Reach L j e.on
 |more {j i:Nat} {o:Oper} {e:Edge} (ho:L[j]? = some o) (he:e∈o.after) (hb:Region.binds .any e=true) (h:Reach L e.on i):Reach L j i
theorem Rs{acc:List Nat}{i:Nat}:∀(l:List Edge) (s:Nat),(l.foldl (fun s e=>if Region.binds .any e then s ||| 2 ^ e.on ||| acc.getD e.on 0 else s) s).testBit i=true ->
  s.testBit i=true\/∃ e,e∈l/\Region.binds .any e=true/\(e.on=i\/(acc.getD e.on 0).testBit i=true)
 | [],s,h=>.inl h
 |e::l,s,h=>by
  simp only[List.foldl_cons]at h;rcases Rs l _ h with h1 |⟨e',h1,h2,h3⟩
  ·split at h1
   ·rename_i hb;rw[Nat.testBit_or,Nat.testBit_or]at h1;simp only[A2]at h1;rcases h1 with (h1 |h1) |h1
    ·exact .inl h1
    ·refine .inr ⟨e,by simp,hb,.inl ?_⟩;rw[Nat.testBit_two_pow]at h1;simpa using h1
    ·exact .inr ⟨e,by simp,hb,.inr h1⟩
   ·exact .inl h1
  ·exact .inr ⟨e',by simp[h1],h2,h3⟩
theorem DG{L:List Oper}:∀(os:List Oper) (acc:List Nat),os=L.drop acc.length->(∀ j i,(acc.getD j 0).testBit i=true->Reach L j i)->∀ j i,((DO os acc).getD j 0).testBit i=true->Reach L j i
 | [],acc,_,h,j,i,hj=>h j i hj
 |o::os,acc,hd,h,j,i,hj=>by
  have ho:L[acc.length]? = some o:=by
   have:(L.drop acc.length)[0]? = some o:=by rw[<- hd];rfl
   rwa [A8,BA]at this
  refine DG os (acc++[fQ acc o]) ?_ (fun j i hb=>?_) j i hj
  ·rw[Ap,BW,<- List.drop_drop,<- hd];rfl
  ·rw[Av,AO]at hb;split at hb
   ·exact h j i (by rw[Av];exact hb)
   ·rename_i hjl;by_cases hje:j=acc.length
    ·subst hje;simp only[Dm,AZ,Bx]at hb;rcases Rs _ _ hb with h0 |⟨e,h1,h2,h3⟩
     ·simp at h0
     ·rcases h3 with rfl |h3
      ·exact .one ho (by simpa using h1) h2
      ·exact .more ho (by simpa using h1) h2 (h _ _ h3)
    ·rw[show j-acc.length=(j-acc.length-1)+1 by omega]at hb;simp at hb
theorem Reach.closed{L:List Oper}{D:Nat->Prop}(hD:∀ j o e,L[j]? = some o->D j->e∈o.after->Region.binds .any e=true->D e.on){j i:Nat}(h:Reach L j i):D j->D i:=by
 induction h with
 |one ho he hb=>intro hj;exact hD _ _ _ ho hj he hb
 |more ho he hb _ ih=>intro hj;exact ih (hD _ _ _ ho hj he hb)
theorem Reach.ready{L:List Oper}{D:Nat->Prop}(hD:∀ j o e,L[j]? = some o->D j->e∈o.after->Region.binds .any e=true->D e.on){j i:Nat}(h:Reach L j i)(hr:∀ o e,L[j]? = some o->e∈o.after->Region.binds .any e=true->D e.on):D i:=by
 cases h with
 |one ho he hb=>exact hr _ _ ho he hb
 |more ho he hb h=>exact h.closed hD (hr _ _ ho he hb)
def DR(L:List Oper)(S:List PV)(pf:Nat->PV)(D:Nat->Prop):Nat->Nat->Option PV
 |0,t=>S[t]?
 |j+1,t=>open Classical in if D j/\((L[j]?).bind (·.dst))=some t/\t<S.length then some (pf j) else DR L S pf D j t
theorem EZ{ops:Array Oper}{S S1:List PV}{o:Oper}{b:Bool}{a:Act}(hsz:a.tmps.size=S.length)
  (hs:∀ t∈o.looksAt ops,∀ p v,S[t]? = some p->a.tmps[t]? = some v->RV P C p v) (h:EG ops S o=some (b,S1)):Region.wanted o (yielded ops a.tmps)=b:=by
 unfold EG at h;unfold Region.wanted;split at h
 ·rename_i hg;cases h;rw[hg]
 ·rename_i j want hg;rw[hg];simp only;split at h
  ·rename_i hd;cases h;simp[yielded,hd]
  ·rename_i d hd;have hy:yielded ops a.tmps j=match a.tmps[d]? with |some (.bool b)=>some b |_=>none:=by simp[yielded,hd];rfl
   have hlook:d∈o.looksAt ops:=by simp[Oper.looksAt,hg,hd]
   split at h
   ·rename_i hS;cases h;have hlt:S.length<=d:=by
     rcases Bv d S.length with h1 |h1
     ·rw[Ae h1]at hS;cases hS
     ·exact h1
    have:a.tmps[d]? = none:=Array.getElem?_eq_none (by rw[hsz];exact hlt);rw[hy,this];rfl
   ·rename_i t hS;have hlt:d<a.tmps.size:=by rw[hsz];exact(Ad.1 hS).1
    have h2:a.tmps[d]? = some a.tmps[d]:=AD hlt;have hv:=hs d hlook _ _ hS h2;generalize a.tmps[d]=V at h2 hv;cases hv;cases t with
    |true=>simp only at h;cases h;rw[hy,h2];cases b <;> rfl
    |false=>simp only at h;cases h;rw[hy,h2];cases want <;> rfl
   ·rename_i v hnb hS;cases h;have hlt:d<a.tmps.size:=by rw[hsz];exact(Ad.1 hS).1
    have h2:a.tmps[d]? = some a.tmps[d]:=AD hlt;have hv:=hs d hlook _ _ hS h2;generalize a.tmps[d]=V at h2 hv;cases hv;rw[hy,h2];split
    ·rename_i b' e;cases e;exact absurd rfl (hnb b')
    ·rfl
   ·cases h
theorem K9{r:Option Nat}{E:Env}(hE:CG P E){ex:Ex}(hX:Ej P E ex){S:List PV}{H H1:List Row}{o:Oper}{p:PV}{a:Act}(hR:RH P C)(hro:C.ro<=H.length)(hHC:C.H.take H.length=H)(hH1:C.H.take H1.length=H1)
  (hfresh:∀ x,H.length<=x->x<H1.length->C.ρ x=none) (hs:∀ x∈o.op.operands,RV P C (ev S x) (a.eval x))
  (h:HK P E ex S H o=some (p,H1)) {next:Act->World->Prop} {Q:Exit->Act->World->Prop}
  (hn:∀ v C',C'.H=C.H->Ext C C'->RH P C'->RV P C' p v->(∀ x,(x<H.length\/H1.length<=x)->C'.ρ x=C.ρ x)->(∀ b,b<C.w.heap.size->C'.w.heap[b]? = C.w.heap[b]?)->next (a.put o.dst v) C'.w):o.wpIn (Fr r) 0 P a C.w next Q:=by
 have hle:H.length<=C.H.length:=by
  have:=congrArg List.length hHC;simp only[Az]at this;omega
 have hSub:Sub H C:=by
  intro i r hr;have hi:=EL hr;show rowAt C.H i=some r
  rw[<- hHC]at hr;unfold rowAt at hr ⊢;rw[Au,Ak hi]at hr;exact hr
 unfold HK at h;split at h
 ·rename_i q hq;cases h;obtain⟨v,g1,g2⟩:=JT hR hSub hs hq;exact D9 g1 (hn v C rfl (.refl C) hR g2 (fun _ _=>rfl) fun _ _=>rfl)
 ·split at h
  ·rename_i q r hq;cases h;have hlen1:(H++[r]).length=H.length+1:=by simp
   have hlt:H.length<C.H.length:=by
    have:=congrArg List.length hH1;simp only[Az,hlen1]at this;omega
   have hrow:C.row? H.length=some r:=by
    show rowAt C.H H.length=some r
    have h2:(C.H.take (H++[r]).length)[H.length]? = some r:=by rw[hH1];simp
    rw[Au,Ak (by rw[hlen1];omega)]at h2;unfold rowAt;rw[h2];simp[Jo hq]
   obtain⟨v,C',g1,g2⟩:=Ip (C:=C) (H:=H) (f:=ev S) (g:=a.eval) hR hlt (hfresh _ (Al _) (by rw[hlen1];omega)) hro hrow hs hq;exact D9 g1 (hn v C' g2.H g2.ext g2.rh g2.rv (fun x hx=>g2.ρ x (by rw[hlen1]at hx;omega)) g2.Pd)
  ·split at h
   ·rename_i c ho;split at h
    ·rename_i g hc;split at h
     ·rename_i k first cap hg
      obtain⟨q,hq,he⟩:=Af.1 h;cases he;rw[ho]at hs;have hgm:g∈(Op.call c).operands:=by simp[Op.operands,Call.operands,hc]
      have hgv:=hs g hgm;rw[hg]at hgv;generalize hG:a.eval g=G at hgv;cases hgv with
      |fn q1 q2 q3 q4=>
       have hargs:=NC (a:=a) (S:=S) (xs:=c.args) ⟨q1,q3⟩ ⟨q2,q4⟩ (fun x hx=>hs x (by simp[Op.operands,Call.operands,hc,hx]));obtain⟨e1,e2⟩:=Wz hE hX hR hHC hargs hq;exact ND ho hc hG e1 e2 fun e w' ⟨V,he,hsame,hrv⟩=>⟨V,he,hn V (C.at w') rfl hsame.ext (hsame.rh hR) hrv (fun _ _=>rfl) hsame.block⟩
     ·cases h
    ·cases h
   ·cases h
theorem gd(K:List Nat)(H:List Row)(i:Nat):(kill K H)[i]? = H[i]?.map fun r=>if K.contains i then IX r else r:=by
 simp only[kill,An,BB,AM,Ce];congr 1
 funext r
 simp only[Function.comp];cases K.contains i <;> rfl
theorem gf{K:List Nat}{H:List Row}(hag:∀ x,x<H.length->x∉K->C.H[x]? = H[x]?):Sub (kill K H) C:=by
 intro i r hr;unfold rowAt at hr;rw[gd]at hr;show rowAt C.H i=some r
 cases hh:H[i]? with
 |none=>rw[hh]at hr;cases hr
 |some q=>
  rw[hh]at hr;simp only[AE]at hr;cases hk:K.contains i with
  |true=>rw[hk]at hr;cases hr
  |false=>
   rw[hk]at hr;unfold rowAt;rw[hag i (Ad.1 hh).1 (by simpa using hk),hh];exact hr
theorem Rt{E:Env}{ex:Ex}{K:List Nat}{S:List PV}{H H':List Row}{o:Oper}{p:PV}(h:Mp P E ex K S H o=some (p,H')):H'=H\/∃ r,H'=H++[r]:=by
 unfold Mp at h;split at h
 ·exact MI h
 ·split at h
  ·cases h;exact .inl rfl
  ·obtain⟨x,_,he⟩:=Af.1 h;cases he;exact .inr ⟨_,rfl⟩
theorem WD{r:Option Nat}{E:Env}(hE:CG P E){ex:Ex}(hX:Ej P E ex){K:List Nat}{S:List PV}{H H1:List Row}{o:Oper}{p:PV}{a:Act}(hR:RH P C)(hro:C.ro<=H.length)
  (hle1:H1.length<=C.H.length) (hag:∀ x,x<H.length->x∉K->C.H[x]? = H[x]?) (hnew:∀ r,H1=H++[r]->C.H[H.length]? = some r)
  (hfresh:∀ x,H.length<=x->x<H1.length->C.ρ x=none) (hs:∀ x∈o.op.operands,RV P C (ev S x) (a.eval x))
  (h:Mp P E ex K S H o=some (p,H1)) {next:Act->World->Prop} {Q:Exit->Act->World->Prop}
  (hn:∀ v C',C'.H=C.H->Ext C C'->RH P C'->RV P C' p v->(∀ x,(x<H.length\/H1.length<=x)->C'.ρ x=C.ρ x)->(∀ b,b<C.w.heap.size->C'.w.heap[b]? = C.w.heap[b]?)->next (a.put o.dst v) C'.w):o.wpIn (Fr r) 0 P a C.w next Q:=by
 have hrows:=Rt h;unfold Mp at h;split at h
 ·have hle:H.length<=C.H.length:=by
   rcases hrows with rfl |⟨q,rfl⟩
   ·exact hle1
   ·simp at hle1;omega
  have hHC:C.H.take H.length=H:=by
   apply Bf
   intro x;rw[Au];split
   ·rename_i hx;exact hag x hx (by simp)
   ·rename_i hx;exact(AG (by omega)).symm
  have hH1:C.H.take H1.length=H1:=by
   rcases hrows with rfl |⟨q,rfl⟩
   ·exact hHC
   ·apply Bf
    intro x;rw[Au];simp only[Ap,BW];split
    ·rename_i hx;by_cases hx2:x<H.length
     ·rw[Aw hx2];exact hag x hx2 (by simp)
     ·obtain rfl:x=H.length:=by omega
      rw[hnew q rfl];simp
    ·rename_i hx;exact(AG (by simp;omega)).symm
  exact K9 hE hX hR hro hHC hH1 hfresh hs h hn
 ·split at h
  ·rename_i q hq;cases h;obtain⟨v,g1,g2⟩:=JT hR (gf hag) hs hq;exact D9 g1 (hn v C rfl (.refl C) hR g2 (fun _ _=>rfl) fun _ _=>rfl)
  ·obtain⟨⟨q,rr⟩,hq,he⟩:=Af.1 h;cases he;have hlen1:(H++[rr]).length=H.length+1:=by simp
   have hlt:H.length<C.H.length:=by rw[hlen1]at hle1;omega
   have hrow:C.row? H.length=some rr:=by
    show rowAt C.H H.length=some rr
    unfold rowAt;rw[hnew rr rfl];simp[Jo hq]
   obtain⟨v,C',g1,g2⟩:=Ip (C:=C) (H:=H) (f:=ev S) (g:=a.eval) hR hlt (hfresh _ (Al _) (by rw[hlen1];omega)) hro hrow hs hq;exact D9 g1 (hn v C' g2.H g2.ext g2.rh g2.rv (fun x hx=>g2.ρ x (by rw[hlen1]at hx;omega)) g2.Pd)
theorem Jq(hR:RH P C)(rs:List Row):Ext C { C with H:=C.H++rs }:=
 ⟨rfl,rfl,rfl,Al _,fun _ _ _=>rfl,fun _ c _ fr h=>⟨c,fr,h,rfl⟩,by simp,fun x r' hx h=>⟨r',by
  have h1:rowAt (C.H++rs) x=some r':=h;show rowAt C.H x=some r'
  unfold rowAt at h1 ⊢;rwa [Aw hx]at h1,rfl,rfl,Al _,fun _=>⟨rfl,fun _ h=>h⟩⟩,fun _ h=>.inl h,fun _ h=>.inl h,rfl,rfl,fun x hx=>⟨Aw (by have:=hR.ro;omega),rfl⟩,
  fun x r' info h1 h2 h3=>⟨⟨r',info.st,by rw[<- h1];exact Aw (Ad.1 h1).1,h2,h3⟩,fun _ h=>h⟩,fun _ rec h=>⟨rec,h⟩⟩
theorem WE(h:RH P C)(rs:List Row):RH P { C with H:=C.H++rs }:=by
 have KC:∀ i,i<C.H.length->rowAt (C.H++rs) i=rowAt C.H i:=fun i hi=>by unfold rowAt;rw[Aw hi]
 refine⟨h.inj,fun i b hi=>?_,fun i b r' h1 h2=>?_,by have:=h.ro;simp;omega,h.IU,h.Kq,fun i b r' info h1 h2 h3 h4=>?_,h.LQ.mono (Jq h rs)⟩
 ·rcases h.Ly i b hi with ⟨q,hq⟩ |⟨q,info,h1,h2,h3⟩
  ·exact .inl ⟨q,by show rowAt (C.H++rs) i=_;rw[KC i (h.KS hi)];exact hq⟩
  ·exact .inr ⟨q,info,by rw[<- h1];exact Aw (h.KS hi),h2,h3⟩
 ·have h3:rowAt (C.H++rs) i=some r':=h2;rw[KC i (h.KS h1)]at h3;exact(h.GP i b r' h1 h3).mono (Jq h rs) rfl
 ·have h2':(C.H++rs)[i]? = some r':=h2;rw[Aw (h.KS h1)]at h2';exact(h.Ii i b r' info h1 h2' h3 h4).mono (Jq h rs) rfl
theorem Iw{L:List Oper}{S:List PV}{pf:Nat->PV}{Sf:Nat->List PV}(h0:Sf 0=S)(hlen:∀ j,j<=L.length->(Sf j).length=S.length)(hstep:∀(j:Nat) o,L[j]? = some o->Sf (j+1)=D6 (Sf j) o.dst (pf j)):
  ∀ j,j<=L.length->∀ t,DR L S pf (fun _=>True) j t=(Sf j)[t]?
 |0,_,t=>by simp[DR,h0]
 |j+1,hj,t=>by
  have ho:L[j]? = some (L[j]'(by omega)):=Ae _;have ih:=Iw h0 hlen hstep j (by omega) t;have hl:=hlen j (by omega);rw[hstep j _ ho];simp only[DR,ho,Bl,CZ];generalize (L[j]'(by omega)).dst=d;cases d with
  |none=>simp[D6,ih]
  |some d=>
   simp only[D6,A5];rw[Ax];by_cases hd:d=t
   ·subst hd;simp only[CZ,BV,hl];split
    ·rfl
    ·rename_i hh;rw[ih];exact AG (by omega)
   ·simp[hd,ih]
theorem DP{L:List Oper}{S:List PV}{pf:Nat->PV}{D D':Nat->Prop}{t:Nat}:∀ n,(∀ j,j<n->((L[j]?).bind (·.dst))=some t->(D j ↔ D' j))->DR L S pf D n t=DR L S pf D' n t
 |0,_=>rfl
 |n+1,h=>by
  have ih:=DP (L:=L) (S:=S) (pf:=pf) n fun j hj hd=>h j (by omega) hd
  simp only[DR];by_cases hd:((L[n]?).bind (·.dst))=some t
  ·rw[ih];have:=h n (by omega) hd;by_cases hDn:D n
   ·simp[hDn,this.1 hDn]
   ·have hDn':¬D' n:=fun h'=>hDn (this.2 h')
    simp[hDn,hDn']
  ·simp[hd,ih]
theorem D7 {L : List Oper} {S : List PV} {pf : Nat → PV} {D : Nat → Prop} {t : Nat} (i : Nat) : ∀ n, i ≤ n → (∀ j, i ≤ j → j < n → ((L[j]?).bind (·.dst)) = some t → ¬ D j) → DR L S pf D n t = DR L S pf D i t
  | 0, hi, _ => by have : i = 0 := by omega
                   subst this; rfl
  | n + 1, hi, h => by
    by_cases he : i = n + 1
    · subst he; rfl
    · rw [← D7 i n (by omega) fun j h1 h2 hd => h j h1 (by omega) hd]
      simp only [DR]
      rw [Aq]
      rintro ⟨h1, h2, _⟩
      exact h n (by omega) (by omega) h2 h1
theorem countP_set{p q:Nat->Bool}{i:Nat}:∀{l:List Nat},l.Nodup->i∈l->p i=true->q i=false->(∀ j,j≠i->q j=p j)->l.countP q+1=l.countP p
 | [],_,h,_,_,_=>by cases h
 |x::l,hn,h,hp,hq,hne=>by
  obtain⟨hx,hl⟩:=Ca.1 hn;simp only[List.countP_cons];by_cases hxi:x=i
  ·subst hxi;have e:l.countP q=l.countP p:=List.countP_congr fun j hj=>by rw[hne j fun e=>hx (by rw[<- e];exact hj)]
   rw[e];simp[hp,hq]
  ·have:=countP_set hl ((AK.1 h).resolve_left fun e=>hxi e.symm) hp hq hne;rw[hne x hxi];omega
theorem YH{E:Env}(hE:CG P E){ex:Ex}(hX:Ej P E ex){ro id:Nat}{ops:Array Oper}{S S':List PV}{H H':List Row}(hok:GF P ops.toList=true)
  (h:LR (HK P E ex) ops ops.toList S H=some (S',H')):ET P (.region id ops true) ro S H .normal S' H':=by
 obtain⟨Sf,Hf,pf,e1,e2,e3,e4,hone⟩:=trace ops.toList h;generalize hL:ops.toList=L at *;have hget:∀ j,ops[j]? = L[j]?:=fun j=>by rw[<- hL,AL]
 have hsize:ops.size=L.length:=by rw[<- hL];simp
 simp only[GF,Aa]at hok;obtain⟨⟨hmix,_⟩,hall⟩:=hok
 have hchk:∀(j:Nat) o,L[j]? = some o->(∀ e,e∈o.after->Region.binds .any e=true->e.on<j)/\∀(i:Nat) q,L[i]? = some q->i<j->q.apart ops o=true\/Reach L j i:=by
  intro j o ho;have h1:=Ao.1 hall (o,j) (by rw[A6];simpa using ho);simp only[Aa]at h1;refine⟨fun e he hb=>?_,fun i q hq hij=>?_⟩
  ·have:=BN.1 h1.1 e he;simpa [hb] using this
  ·have h2:=Ao.1 h1.2 (q,i) (by rw[A6];simpa using hq);simp only[A2,Am,AQ]at h2;rcases h2 with (h2 |h2) |h2
   ·exact absurd hij h2
   ·refine .inl ?_;have:L.toArray=ops:=by rw[<- hL]
    rwa [this]at h2
   ·exact .inr (DG L [] (by simp) (fun j i hb=>by simp at hb) j i h2)
 have hlen:∀ j,j<=L.length->(Sf j).length=S.length:=by
  intro j;induction j with
  |zero=>intro _;rw[e1]
  |succ j ih=>
   intro hj;have ho:L[j]? = some (L[j]'(by omega)):=Ae _;rw[(hone j _ ho).1];have:=ih (by omega);cases(L[j]'(by omega)).dst <;> simp[D6,this]
 have hrows1:∀(j:Nat) o,L[j]? = some o->Hf (j+1)=Hf j\/∃ r,Hf (j+1)=Hf j++[r]:=by
  intro j o ho;rcases(hone j o ho).2 with ⟨_,_,h2⟩ |⟨_,h2⟩
  ·exact .inl h2
  ·exact MI h2
 have hpre:∀ d j,j+d<=L.length->∃ rs,Hf (j+d)=Hf j++rs:=by
  intro d;induction d with
  |zero=>intro j _;exact⟨[],by simp⟩
  |succ d ih=>
   intro j hj;obtain⟨rs,hr⟩:=ih j (by omega);have ho:L[j+d]? = some (L[j+d]'(by omega)):=Ae _;rcases hrows1 (j+d) _ ho with h2 |⟨r,h2⟩
   ·exact⟨rs,by rw[<- B3,h2,hr]⟩
   ·exact⟨rs++[r],by rw[<- B3,h2,hr,Bu]⟩
 have htake:∀ j,j<=L.length->H'.take (Hf j).length=Hf j:=by
  intro j hj;obtain⟨rs,hr⟩:=hpre (L.length-j) j (by omega);rw[show j+(L.length-j)=L.length by omega,e4]at hr;rw[hr,C4]
 have hmono:∀ j k,j<=k->k<=L.length->(Hf j).length<=(Hf k).length:=by
  intro j k hjk hk;obtain⟨rs,hr⟩:=hpre (k-j) j (by omega);rw[show j+(k-j)=k by omega]at hr;rw[hr];simp
 have hslots:=Iw (L:=L) (S:=S) (pf:=pf) e1 hlen fun j o ho=>(hone j o ho).1
 intro r C a hH hro hR hs _ Q hQ;refine wpIn_region_any hmix ?_;subst hH;obtain⟨rs,hrs⟩:=hpre L.length 0 (by omega);rw[AM,e4,e2]at hrs;have hx0:=Jq hR rs;have hR0:=WE hR rs;rw[<- hrs]at hx0 hR0;have hxd:Ext { C with H:=H' } ({ C with H:=H' }:Ctx).dr:=FW _
 let D:Array Bool->Nat->Prop:=fun listed j=>listed.getD j false=true
 let Inv:Array Bool->Act->World->Prop:=fun listed a1 w=>∃ C1:Ctx,C1.w=w/\C1.H=H'/\Ext C C1/\RH P C1/\a1.tmps.size=S.length/\a1.defers=a.defers /\
  (∀ j,j<L.length->¬D listed j->∀ x,(Hf j).length<=x->x<(Hf (j+1)).length->C1.ρ x=none) /\
  (∀ t p v,DR L S pf (D listed) L.length t=some p->a1.tmps[t]? = some v->RV P C1 p v)
 have final:∀ listed a1 w,(∀ j,j<L.length->D listed j)->Inv listed a1 w->Q .normal a1 w:=by
  rintro listed a1 w hd ⟨C1,rfl,h1,h2,h3,h4,h5,_,h7⟩
  refine hQ a1 C1 (.of_eq h5) h1 h2 h3 ⟨by rw[h4,<- e3,hlen _ (Al _)],fun t p v g1 g2=>h7 t p v ?_ g2⟩;rw[DP (D':=fun _=>True) _ fun j hj _=>⟨fun _=>trivial,fun _=>hd j hj⟩,hslots _ (Al _),e3];exact g1
 have hready:∀ listed,HeadInv .any ops ops.size listed->Region.ready .any ops listed=[]->∀ j,j<L.length->D listed j:=by
  intro listed hinv hnil j;induction j using Nat.strongRecOn with
  |_ j ih=>
   intro hj;by_cases hDj:D listed j
   ·exact hDj
   ·exfalso
    have ho:L[j]? = some (L[j]'hj):=Ae _;have hlj:j<listed.size:=by rw[hinv.size,hsize];exact hj
    have:j∈Region.ready .any ops listed:=mem_ready.2 ⟨getD_in hlj (by simpa [D] using hDj),L[j]'hj,by rw[hget];exact ho,fun e he hb=>by
     have hlt:=(hchk j _ ho).1 e he hb;exact ih e.on hlt (by omega)⟩
    rw[hnil]at this;cases this
 have main:∀ fuel listed a1 w,HeadInv .any ops ops.size listed->(List.range L.length).countP (fun j=>!listed.getD j false)<=fuel->Inv listed a1 w->wpAnyIn (Fr r) 0 P .any ops Q fuel listed a1 w:=by
  intro fuel;induction fuel with
  |zero=>
   intro listed a1 w hinv hc hI;have hd:∀ j,j<L.length->D listed j:=by
    intro j hj;by_cases hDj:D listed j
    ·exact hDj
    ·exfalso
     have:0<(List.range L.length).countP (fun j=>!listed.getD j false):=CI.2 ⟨j,Bo.2 hj,by simpa [D] using hDj⟩;omega
   refine⟨?_,final listed a1 w hd hI⟩;cases hr:Region.ready .any ops listed with
   |nil=>rfl
   |cons x xs=>
    exfalso
    have hx:x∈Region.ready .any ops listed:=by rw[hr];simp
    obtain⟨h1,o,ho,_⟩:=mem_ready.1 hx;have hxl:x<L.length:=by rw[hget]at ho;exact(Ad.1 ho).1
    have h9:listed.getD x false=true:=hd x hxl;rw[getD_both h1]at h9;cases h9
  |succ fuel ih=>
   intro listed a1 w hinv hc hI;refine⟨fun hnil=>final listed a1 w (hready listed hinv hnil) hI,fun i hi=>?_⟩;obtain⟨h1,o,ho,hedges⟩:=mem_ready.1 hi;have hoL:L[i]? = some o:=by rw[<- hget];exact ho
   have hiL:i<L.length:=(Ad.1 hoL).1;have hnD:¬D listed i:=by show ¬listed.getD i false=true;rw[getD_both h1];simp
   have hil:i<listed.size:=by rw[hinv.size,hsize];exact hiL
   have hclosed:∀ j o e,L[j]? = some o->D listed j->e∈o.after->Region.binds .any e=true->D listed e.on:=fun j o e hj hDj he hb=>hinv.closed j o (by rw[hget];exact hj) hDj e he hb
   have hpreds:∀ j,Reach L i j->D listed j:=fun j hr=>hr.ready hclosed fun o' e ho' he hb=>by
    have:o'=o:=Ah (ho'.symm.trans hoL);subst this;exact hedges e he hb
   have hsuccs:∀ j,Reach L j i->¬D listed j:=fun j hr hDj=>hnD (hr.closed hclosed hDj)
   have hinv':=hinv.set hi (by rw[hsize];exact hiL);have hcount:(List.range L.length).countP (fun j=>!(listed.setIfInBounds i true).getD j false)<=fuel:=by
    have:=countP_set (p:=fun j=>!listed.getD j false) (q:=fun j=>!(listed.setIfInBounds i true).getD j false) (i:=i) (Cw (n:=L.length)) (Bo.2 hiL)
     (by simp only[Am];exact getD_both h1) (by simp[hil]) (fun j hj=>by simp only[getD_set_ne false (fun e=>hj e.symm)])
    omega
   have hD':∀ j,D (listed.setIfInBounds i true) j ↔ D listed j\/j=i:=by
    intro j;by_cases hji:j=i
    ·subst hji;simp[D,hil]
    ·simp only[D,getD_set_ne false (fun e=>hji e.symm),hji,Cu]
   obtain⟨C1,rfl,c1,c2,c3,c4,c5,c6,c7⟩:=hI
   have hread:∀ t∈o.looksAt ops,∀ p v,(Sf i)[t]? = some p->a1.tmps[t]? = some v->RV P C1 p v:=by
    intro t ht p v g1 g2;refine c7 t p v ?_ g2;rw[D7 i L.length (by omega) fun j hij hjn hd=>?_,DP (D':=fun _=>True) i fun j hj hd=>⟨fun _=>trivial,fun _=>?_⟩,hslots i (by omega)]
    ·exact g1
    ·-- a writer before
     obtain⟨q,hq,hqd⟩:=AH.1 hd;rcases(hchk i o hoL).2 j q hq hj with hap |hr
     ·exact absurd ht ((Oper.apart_spec hap).1 t hqd)
     ·exact hpreds j hr
    ·-- a writer behind
     by_cases hji:j=i
     ·subst hji;exact hnD
     ·obtain⟨q,hq,hqd⟩:=AH.1 hd;rcases(hchk j q hq).2 i o hoL (by omega) with hap |hr
      ·exact absurd ht ((Oper.apart_spec hap).2.2 t hqd)
      ·exact hsuccs j hr
   have hopnd:∀ x∈o.op.operands,RV P C1 (ev (Sf i) x) (a1.eval x):=by
    intro x hx;cases x with
    |tmp t=>
     have ht:t∈o.looksAt ops:=by
      simp only[Oper.looksAt];exact BT _ (BZ.2 ⟨.tmp t,by simpa using hx,rfl⟩)
     show RV P C1 ((Sf i).getD t (.val undef)) (a1.tmps.getD t undef)
     have hl:=hlen i (by omega);by_cases htl:t<S.length
     ·have g1:(Sf i)[t]? = some ((Sf i)[t]'(by rw[hl];exact htl)):=Ae _;have g2:a1.tmps[t]? = some (a1.tmps[t]'(by rw[c4];exact htl)):=AD _;have:=hread t ht _ _ g1 g2;simpa [List.getD,Array.getD,htl,hl,c4] using this
     ·have g1:(Sf i).getD t (.val undef)=.val undef:=by simp[List.getD,List.getElem?_eq_none (show(Sf i).length<=t by rw[hl];exact Nat.le_of_not_lt htl)]
      have g2:a1.tmps.getD t undef=undef:=by simp[Array.getD,c4,htl]
      rw[g1,g2];exact .val
    |const v=>exact .val
    |global g=>exact .val
    |func f=>exact .fn rfl rfl (fun j c v h=>by simp at h) (fun j c v h=>by simp at h)
   have hwrite:∀(C2:Ctx) (v:Value),C2.H=H'->Ext C1 C2->RH P C2->RV P C2 (pf i) v->(∀ x,(x<(Hf i).length\/(Hf (i+1)).length<=x)->C2.ρ x=C1.ρ x) ->
     wpAnyIn (Fr r) 0 P .any ops Q fuel (listed.setIfInBounds i true) (a1.put o.dst v) C2.w:=by
    intro C2 v k1 k2 k3 k4 k5;refine ih _ _ _ hinv' hcount ⟨C2,rfl,k1,c2.trans k2,k3,?_,?_,fun j hj hDj x hx1 hx2=>?_,fun t p u g1 g2=>?_⟩
    ·cases o.dst <;> simp[Act.put,c4]
    ·cases o.dst <;> exact c5
    ·have hji:j≠i:=fun e=>hDj ((hD' j).2 (.inr e))
     have hDj':¬D listed j:=fun hh=>hDj ((hD' j).2 (.inl hh))
     rw[k5 x ?_]
     ·exact c6 j hj hDj' x hx1 hx2
     ·rcases Nat.lt_or_gt_of_ne hji with h2 |h2
      ·left
       have:=hmono (j+1) i (by omega) (by omega);omega
      ·right
       have:=hmono (i+1) j (by omega) (by omega);omega
    ·by_cases hdt:o.dst=some t
     ·-- its own slot
      have htl:t<S.length:=by
       have h9:=(At.1 g2).1;rw[hdt]at h9;simp only[Act.put,Ct,c4]at h9;exact h9
      have hself:DR L S pf (D (listed.setIfInBounds i true)) L.length t=some (pf i):=by
       rw[D7 (i+1) L.length (by omega) fun j hij hjn hd=>?_]
       ·simp only[DR];rw[Ak ⟨(hD' i).2 (.inr rfl),by simp[hoL,hdt],htl⟩]
       ·obtain⟨q,hq,hqd⟩:=AH.1 hd;intro hDj;rcases(hD' j).1 hDj with hDj |hji
        ·rcases(hchk j q hq).2 i o hoL (by omega) with hap |hr
         ·exact(Oper.apart_spec hap).2.1 t hdt hqd
         ·exact hsuccs j hr hDj
        ·omega
      rw[hself]at g1;cases g1;rw[hdt]at g2;simp only[Act.put]at g2;rw[AW,Ak rfl]at g2;split at g2
      ·cases g2;exact k4
      ·cases g2
     ·-- another's
      have hsame:DR L S pf (D (listed.setIfInBounds i true)) L.length t=DR L S pf (D listed) L.length t:=by
       refine DP _ fun j hj hd=>?_
       rw[hD' j];refine⟨fun hh=>hh.resolve_right fun e=>?_,fun hh=>.inl hh⟩;subst e;rw[hoL]at hd;exact hdt hd
      rw[hsame]at g1;have g3:a1.tmps[t]? = some u:=by
       cases hod:o.dst with
       |none=>rw[hod]at g2;exact g2
       |some d=>
        rw[hod]at g2 hdt;simp only[Act.put]at g2;rw[AW,Aq (fun e=>hdt (by rw[e]))]at g2;exact g2
      exact(c7 t p u g1 g3).mono k2
   unfold wpOpIn;simp only[ho];obtain⟨_,hcase⟩:=hone i o hoL;rcases hcase with ⟨hg,hp,hHe⟩ |⟨hg,hst⟩
   ·have hw:=EZ (by rw[c4,hlen i (by omega)]) hread hg;rw[hw,Aq (by simp)];exact⟨fun _ _=>trivial,hwrite C1 undef c1 (.refl C1) c3 (by rw[hp];exact .val) fun _ _=>rfl⟩
   ·have hw:=EZ (by rw[c4,hlen i (by omega)]) hread hg;rw[hw,Ak rfl];refine K9 hE hX c3 ?_ (by rw[c1];exact htake i (by omega)) (by rw[c1];exact htake (i+1) (by omega)) (fun x hx1 hx2=>c6 i hiL hnD x hx1 hx2) hopnd hst fun v C' k1 k2 k3 k4 k5 _=>hwrite C' v (by rw[k1,c1]) k2 k3 k4 k5
    rw[c2.ro];have h10:=hR.ro;have h11:=hmono 0 i (by omega) (by omega);rw[e2]at h11;omega
 refine main ops.size _ _ _ ⟨by simp,fun j oj _ hl=>(by rw[getD_replicate_false]at hl;cases hl),fun t h1 h2=>absurd h2 (by omega)⟩ ?_ ?_
 ·rw[hsize];exact Bc CB (by simp)
 ·refine⟨({ C with H:=H' }:Ctx).dr,rfl,rfl,hx0.trans hxd,Mk hR0,hs.1,rfl,fun j hj _ x hx1 _=>?_,fun t p v g1 g2=>?_⟩
  ·show C.ρ x=none
   refine hR.GC ?_;have:=hmono 0 j (by omega) (by omega);rw[e2]at this;omega
  ·have:DR L S pf (D (Array.replicate ops.size false)) L.length t=S[t]?:=by
    rw[D7 0 L.length (by omega) fun j _ _ _ hDj=>by
     simp only[D,getD_replicate_false]at hDj;cases hDj]
    rfl
   rw[this]at g1;exact((hs.2 t p v g1 g2).mono hx0).mono hxd
def EC(r r':Row):Prop:=r=r'\/(r.live=true/\r'.live=true/\Oq r r'/\r.lp=r'.lp)
theorem EC.refl(r:Row):EC r r:=.inl rfl
theorem EC.symm{r r':Row}(h:EC r r'):EC r' r:=by
 rcases h with h |⟨a,b,⟨c1,c2,c3,c4⟩,d⟩
 ·exact .inl h.symm
 ·exact .inr ⟨b,a,⟨c1.symm,c2.symm,c3.symm,c4.symm⟩,d.symm⟩
theorem EC.trans{r r' r'':Row}(h:EC r r')(k:EC r' r''):EC r r'':=by
 rcases h with rfl |⟨a,b,⟨c1,c2,c3,c4⟩,d⟩
 ·exact k
 ·rcases k with rfl |⟨a',b',⟨e1,e2,e3,e4⟩,d'⟩
  ·exact .inr ⟨a,b,⟨c1,c2,c3,c4⟩,d⟩
  ·exact .inr ⟨a,b',⟨c1.trans e1,c2.trans e2,c3.trans e3,c4.trans e4⟩,d.trans d'⟩
theorem EC.Ei{r r':Row}(h:EC r r'):DS r=DS r':=by
 rcases h with rfl |⟨a,b,c,d⟩
 ·rfl
 ·exact UD c a b d
theorem La{ro:Nat}{H H':List Row}{T:TypeId}{i n k j:Nat}{x:PV}(h:HA P ro H T (.ptr i n k j) x=some H'):
  ∃ r r2,rowAt H i=some r/\H'=H.set i r2/\EC r r2/\∀ Hd,rowAt Hd i=some r->HA P ro Hd T (.ptr i n k j) x=some (Hd.set i r2):=by
 simp only[HA]at h;split at h
 ·rename_i r hr;split at h
  ·rename_i hc;split at h
   ·rename_i r2 hr2;cases h;have hlive:r.live=true:=by
     unfold rowAt at hr;split at hr
     ·split at hr
      ·rename_i hl;cases hr;exact hl
      ·cases hr
     ·cases hr
    refine⟨r,r2,hr,rfl,?_,fun Hd hd=>by simp only[HA,hd];rw[Ak hc];simp only[hr2]⟩;unfold setCells at hr2;split at hr2
    ·cases hr2;exact .inr ⟨hlive,hlive,⟨rfl,by simp,rfl,rfl⟩,rfl⟩
    ·cases hr2
   ·cases h
  ·cases h
 ·cases h
def WG(P:Program)(E:Env)(ex:Ex)(ro:Nat)(R K G:List Nat)(S:List PV)(H:List Row)(o:Oper)(p:PV)(H':List Row)(w:List Nat):Prop:=
 (∃ T a x i n k j,o.op=.store T a x/\ev S a=.ptr i n k j/\HA P ro H T (.ptr i n k j) (ev S x)=some H'/\p=.val undef/\w=[i]) \/
 (Mp P E ex K S (Ei R H) o=some (p,Ei R H)/\H'=H/\w=[]) \/
 (∃ r,Mp P E ex K S (Ei R H) o=some (p,Ei R H++[r])/\H'=H++[r]/\w=[H.length]) \/
 (∃ f args H2,GY S o.op=some (f,args)/\args.all (Q8 H.length)=true/\ro<=H.length/\DF 0 (EN w H)=true/\Iu P E ex ro f args (EN w H)=some (p,H2)/\plain p=true /\
  DF 0 (EN w (H2.take H.length))=true/\Wq w H H2=true/\H'=Is w H H2) \/
 (∃ c i x y,Ph S o.op=some (c,i,x,y)/\Nu R y=true/\ES P ro H c x y=some (p,H')/\i∈G/\w=[i])
theorem YI{E:Env}{ex:Ex}{ro:Nat}{W R K G:List Nat}{S:List PV}{H H':List Row}{o:Oper}{p:PV}(h:Wr P E ex ro W R K G S H o=some (p,H')):
  ∃ w,WG P E ex ro R K G S H o p H' w/\∀ x,x∈w->x∈W/\x∉R:=by
 have hE:KY P E ex W R K S H o=some (p,H')->∃ w,WG P E ex ro R K G S H o p H' w/\∀ x,x∈w->x∈W/\x∉R:=by
  intro h;unfold KY at h;split at h
  ·rename_i q H1 hs;have hrows:=Rt hs;have hl:=EH R H;split at h
   ·rename_i hd;cases h;rcases hrows with rfl |⟨r,rfl⟩
    ·exact⟨[],.inr (.inl ⟨hs,rfl,rfl⟩),fun x hx=>by cases hx⟩
    ·rw[<- hl,CC]at hd;cases hd
   ·rename_i r hd;split at h
    ·rename_i hc;cases h;rcases hrows with rfl |⟨r',rfl⟩
     ·rw[<- hl,List.drop_length]at hd;cases hd
     ·rw[<- hl,CC]at hd;cases hd;simp only[Aa,Am,BJ,Ab,AQ]at hc;exact⟨[H.length],.inr (.inr (.inl ⟨r,hs,rfl,rfl⟩)),fun x hx=>by simp only[AI]at hx;subst hx;exact hc⟩
    ·cases h
   ·cases h
  ·cases h
 unfold Wr at h;split at h
 ·rename_i T a x ho;split at h
  ·rename_i i n k j ha;split at h
   ·rename_i hc;obtain⟨H2,h2,he⟩:=Af.1 h;cases he;simp only[Aa,Am,BJ,Ab,AQ]at hc;exact⟨[i],.inl ⟨T,a,x,i,n,k,j,ho,ha,h2,rfl,rfl⟩,fun y hy=>by simp only[AI]at hy;subst hy;exact hc⟩
   ·cases h
  ·cases h
 ·split at h
  ·rename_i f args hw;split at h
   ·exact hE h
   ·rename_i hne;split at h
    ·rename_i hc;simp only[Aa,Ab]at hc;obtain⟨⟨⟨hK,hargs⟩,hro⟩,hok⟩:=hc;split at h
     ·rename_i q H2 hcall;split at h
      ·rename_i hc2;cases h;simp only[Aa]at hc2;refine⟨TK E.pure f args,.inr (.inr (.inr (.inl ⟨f,args,H2,hw,hargs,hro,hok,hcall,hc2.1.1,hc2.1.2,hc2.2,rfl⟩))),fun x hx=>?_⟩;have:=Ao.1 hK x hx;simpa using this
      ·cases h
     ·cases h
    ·cases h
  ·split at h
   ·rename_i c i x y hg;split at h
    ·rename_i hc;simp only[Aa,Am,BJ,Ab,AQ]at hc;exact⟨[i],.inr (.inr (.inr (.inr ⟨c,i,x,y,hg,hc.2,h,hc.1.2,rfl⟩))),fun z hz=>by simp only[AI]at hz;subst hz;exact hc.1.1⟩
    ·cases h
   ·exact hE h
theorem WH{S:List PV}{op:Op}{c:Call}{i:Nat}{x y:PV}(h:Ph S op=some (c,i,x,y)):∃ X Y n len,op=.call c/\c.callee=.builtin .append/\c.args.toList=[X,Y]/\ev S X=.sl i n 0 len/\x=.sl i n 0 len/\y=ev S Y:=by
 unfold Ph at h;split at h
 ·rename_i c' _;split at h
  ·rename_i hc;split at h
   ·rename_i X Y ha;split at h
    ·rename_i i' n len hx;cases h;exact⟨X,Y,n,len,rfl,hc,ha,hx,rfl,rfl⟩
    ·cases h
   ·cases h
  ·cases h
 ·cases h
theorem YJ{H Hd:List Row}{y:PV}(h:∀ i n k l,y=.sl i n k l->rowAt Hd i=rowAt H i):Ks Hd y=Ks H y:=by
 cases y with
 |sl i n k l=>simp only[Ks];rw[h i n k l rfl]
 |_=>rfl
theorem dp{H Hd:List Row}{y:PV}(h:∀ i n k l,y=.sl i n k l->rowAt Hd i=rowAt H i)(T T2:TypeId):JV P T T2 Hd y=JV P T T2 H y:=by
 unfold JV;rw[YJ h]
theorem gh{T T2:TypeId}{H:List Row}{i n k l:Nat}(h:(JV P T T2 H (.sl i n k l)).isSome=true):∃ q,rowAt H i=some q:=by
 unfold JV at h;split at h
 ·cases hz:rowAt H i with
  |none=>simp[zsl,Ks,hz]at h
  |some q=>exact⟨q,rfl⟩
 ·unfold UB at h;split at h
  ·rename_i he;cases he
  ·cases h
 ·cases h
theorem NI{ro:Nat}{H H':List Row}{c:Call}{i n len:Nat}{y p:PV}(h:ES P ro H c (.sl i n 0 len) y=some (p,H')):
  ∃ r r2,rowAt H i=some r/\H'=H.set i r2/\(∃ T T2,(JV P T T2 H y).isSome=true)/\∀ Hd,rowAt Hd i=some r->(∀ T T2,JV P T T2 Hd y=JV P T T2 H y)->ES P ro Hd c (.sl i n 0 len) y=some (p,Hd.set i r2):=by
 unfold ES at h;split at h
 ·rename_i T T2 hT hT2;split at h
  ·rename_i e ty t news hu hsrc;split at h
   ·rename_i hc;split at h
    ·rename_i heq;cases heq;split at h
     ·rename_i r hr;split at h
      ·rename_i hc2;split at h
       ·rename_i hc3;cases h;refine⟨r,_,hr,rfl,⟨T,T2,by rw[hsrc];rfl⟩,fun Hd h1 h2=>?_⟩;unfold ES;simp only[hT,hT2,hu,h2,hsrc,h1];rw[Ak hc,Ak hc2,Ak hc3]
       ·cases h
      ·cases h
     ·cases h
    ·rename_i heq;cases heq
    ·rename_i heq;cases heq
    ·cases h
   ·cases h
  ·cases h
 ·cases h
theorem LG{K:List Nat}{H H2:List Row}(h:Wq K H H2=true){x:Nat}(hx:x∈K):∃ r r',H[x]? = some r/\H2[x]? = some r'/\EC r r':=by
 have:=Ao.1 h x hx;split at this
 ·rename_i r r' h1 h2;simp only[yy,Aa,Ay,Ba]at this;obtain⟨⟨⟨⟨⟨⟨⟨a1,a2⟩,a3⟩,a4⟩,a5⟩,a6⟩,a7⟩,a8⟩:=this;exact⟨r,r',h1,h2,.inr ⟨a1,a2,⟨a3,a4,a5,a6⟩,by rw[a7,a8]⟩⟩
 ·cases this
theorem WG.rows{E:Env}{ex:Ex}{ro:Nat}{R K G:List Nat}{S:List PV}{H H':List Row}{o:Oper}{p:PV}{w:List Nat}(h:WG P E ex ro R K G S H o p H' w):
  (∀ x,x<H.length->∃ r r',H[x]? = some r/\H'[x]? = some r'/\(x∈G\/EC r r')/\(x∉w->r'=r))/\H.length<=H'.length/\(∀ x,H.length<=x->x<H'.length->x=H.length/\x∈w)/\(∀ x,x∈w->x<H'.length):=by
 have same:∀ x,x<H.length->∃ r r',H[x]? = some r/\H[x]? = some r'/\(x∈G\/EC r r')/\(x∉w->r'=r):=fun x hx=>⟨H[x],H[x],Ae hx,Ae hx,.inr (.refl _),fun _=>rfl⟩
 rcases h with ⟨T,a,x,i,n,k,j,ho,ha,hs,rfl,rfl⟩ |⟨hs,rfl,rfl⟩ |⟨r,hs,rfl,rfl⟩ |⟨f,args,H2,hw,hargs,hro,hok,hcall,hp,hk,hsh,rfl⟩ |⟨c,i,x,y,hg,hsf,hap,hiG,rfl⟩
 ·obtain⟨r,r2,g1,rfl,g3,g4⟩:=La hs;have hi:i<H.length:=EL g1;refine⟨fun y hy=>?_,by simp,fun y h1 h2=>by simp at h2;omega,fun y hy=>by simp only[AI]at hy;subst hy;simpa using hi⟩;by_cases hyi:i=y
  ·subst hyi;have hri:H[i]? = some r:=by
    unfold rowAt at g1;split at g1
    ·rename_i r' hr';split at g1
     ·cases g1;exact hr'
     ·cases g1
    ·cases g1
   exact⟨r,r2,hri,by rw[Ax,Ak rfl,Ak hi],.inr g3,fun hn=>absurd (by simp) hn⟩
  ·exact⟨H[y],H[y],Ae hy,by rw[Ax,Aq hyi];exact Ae hy,.inr (.refl _),fun _=>rfl⟩
 ·exact⟨same,Al _,fun x h1 h2=>by omega,fun x hx=>by cases hx⟩
 ·refine⟨fun x hx=>⟨H[x],H[x],Ae hx,by rw[Aw hx];exact Ae hx,.inr (.refl _),fun _=>rfl⟩,by simp,fun x h1 h2=>by simp at h2;exact⟨by omega,by simp;omega⟩,fun x hx=>by simp at hx;subst hx;simp⟩
 ·refine⟨fun x hx=>?_,by rw[FP];exact Al _,fun x h1 h2=>by rw[FP]at h2;omega,fun x hx=>?_⟩
  ·have hH:H[x]? = some H[x]:=Ae hx;by_cases hxw:x∈w
   ·obtain⟨r,r',g1,g2,g3⟩:=LG hsh hxw;refine⟨r,r',g1,?_,.inr g3,fun hn=>absurd hxw hn⟩;rw[H8,g1];simp only[AE];rw[Ak (by simpa using hxw),Av,g2];rfl
   ·refine⟨H[x],H[x],hH,?_,.inr (.refl _),fun _=>rfl⟩;rw[H8,hH];simp only[AE];rw[Aq (by simpa using hxw)]
  ·obtain⟨r,r',g1,g2,g3⟩:=LG hsh hx;rw[FP];exact(Ad.1 g1).1
 ·obtain⟨X,Y,n,len,_,_,_,_,rfl,_⟩:=WH hg;obtain⟨r,r2,g1,rfl,_,g4⟩:=NI hap;have hi:i<H.length:=EL g1;refine⟨fun y hy=>?_,by simp,fun y h1 h2=>by simp at h2;omega,fun y hy=>by simp only[AI]at hy;subst hy;simpa using hi⟩;by_cases hyi:i=y
  ·subst hyi;exact⟨H[i],r2,Ae hi,by rw[Ax,Ak rfl,Ak hi],.inl hiG,fun hn=>absurd (by simp) hn⟩
  ·exact⟨H[y],H[y],Ae hy,by rw[Ax,Aq hyi];exact Ae hy,.inr (.refl _),fun _=>rfl⟩
theorem UN{step:Nat->List PV->List Row->Oper->Option (PV×List Row)}{ops:Array Oper}:∀(l:List Oper) (j0:Nat) {S S':List PV} {H H':List Row},K4 step ops j0 l S H=some (S',H') ->
  ∃(Sf:Nat->List PV) (Hf:Nat->List Row) (pf:Nat->PV),Sf 0=S/\Hf 0=H/\Sf l.length=S'/\Hf l.length=H'/\∀(j:Nat) o,l[j]? = some o->Sf (j+1)=D6 (Sf j) o.dst (pf j) /\
   ((EG ops (Sf j) o=some (false,Sf j)/\pf j=.val undef/\Hf (j+1)=Hf j)\/(EG ops (Sf j) o=some (true,Sf j)/\step (j0+j) (Sf j) (Hf j) o=some (pf j,Hf (j+1))))
 | [],j0,S,S',H,H',h=>by
  simp only[K4]at h;cases h;exact⟨fun _=>S,fun _=>H,fun _=>.any,rfl,rfl,rfl,rfl,fun j o hj=>by simp at hj⟩
 |o::os,j0,S,S',H,H',h=>by
  simp only[K4]at h;have glue:∀(p:PV) (H1:List Row),((EG ops S o=some (false,S)/\p=.val undef/\H1=H)\/(EG ops S o=some (true,S)/\step j0 S H o=some (p,H1)))->K4 step ops (j0+1) os (D6 S o.dst p) H1=some (S',H') ->
    ∃(Sf:Nat->List PV) (Hf:Nat->List Row) (pf:Nat->PV),Sf 0=S/\Hf 0=H/\Sf (o::os).length=S'/\Hf (o::os).length=H'/\∀(j:Nat) o',(o::os)[j]? = some o'->Sf (j+1)=D6 (Sf j) o'.dst (pf j) /\
     ((EG ops (Sf j) o'=some (false,Sf j)/\pf j=.val undef/\Hf (j+1)=Hf j)\/(EG ops (Sf j) o'=some (true,Sf j)/\step (j0+j) (Sf j) (Hf j) o'=some (pf j,Hf (j+1)))):=by
   intro p H1 h1 h2;obtain⟨Sf,Hf,pf,a1,a2,a3,a4,a5⟩:=UN os (j0+1) h2;refine⟨fun j=>match j with |0=>S |j+1=>Sf j,fun j=>match j with |0=>H |j+1=>Hf j,fun j=>match j with |0=>p |j+1=>pf j,rfl,rfl,a3,a4,fun j o' hj=>?_⟩
   match j with
   |0=>
    simp at hj;subst hj;show Sf 0=D6 S o.dst p/\((EG ops S o=some (false,S)/\p=.val undef/\Hf 0=H)\/(EG ops S o=some (true,S)/\step (j0+0) S H o=some (p,Hf 0)))
    rw[a1,a2];exact⟨rfl,h1⟩
   |j+1=>
    have:=a5 j o' (by simpa using hj);rw[show j0+1+j=j0+(j+1) by omega]at this;exact this
  split at h
  ·rename_i S1 hg;have:=IZ hg;subst this;split at h
   ·rename_i p H1 hs;exact glue p H1 (.inr ⟨hg,hs⟩) h
   ·cases h
  ·rename_i S1 hg;have:=IZ hg;subst this;exact glue (.val undef) H (.inl ⟨hg,rfl,rfl⟩) h
  ·cases h
def Jr(Hf:Nat->List Row)(wf:Nat->List Nat)(D:Nat->Prop):Nat->Nat->Option Row
 |0,x=>(Hf 0)[x]?
 |j+1,x=>open Classical in if x∈wf j/\(D j\/(Hf j).length<=x) then (Hf (j+1))[x]? else Jr Hf wf D j x
def Ru(Hf:Nat->List Row)(wf gw:Nat->List Nat)(N:Nat):Prop:=∀ j,j<N->(∀ x,x<(Hf j).length->∃ r r',(Hf j)[x]? = some r/\(Hf (j+1))[x]? = some r'/\(x∈gw j\/EC r r')/\(x∉wf j->r'=r))/\(Hf j).length<=(Hf (j+1)).length /\
  (∀ x,(Hf j).length<=x->x<(Hf (j+1)).length->x=(Hf j).length/\x∈wf j)/\(∀ x,x∈wf j->x<(Hf (j+1)).length)
section
variable {Hf:Nat->List Row} {wf gw:Nat->List Nat} {D D':Nat->Prop} {N:Nat}
theorem yE(hrow:Ru Hf wf gw N):∀ d j,j+d<=N->(Hf j).length<=(Hf (j+d)).length
 |0,_,_=>Al _
 |d+1,j,h=>Bc (yE hrow d j (by omega)) (hrow (j+d) (by omega)).2.1
theorem ue(hrow:Ru Hf wf gw N){j k:Nat}(hjk:j<=k)(hk:k<=N):(Hf j).length<=(Hf k).length:=by
 have:=yE hrow (k-j) j (by omega);rwa [show j+(k-j)=k by omega]at this
theorem Lb(hrow:Ru Hf wf gw N){x:Nat}:∀ j,j<=N->Jr Hf wf (fun _=>True) j x=(Hf j)[x]?
 |0,_=>rfl
 |j+1,hj=>by
  simp only[Jr,true_or,Dp];split
  ·rfl
  ·rename_i hx;rw[Lb hrow j (by omega)];obtain⟨h1,h2,h3,h4⟩:=hrow j (by omega);rcases Bv x (Hf j).length with hl |hl
   ·obtain⟨r,r',g1,g2,_,g4⟩:=h1 x hl;rw[g1,g2,g4 hx]
   ·rw[AG hl];rcases Bv x (Hf (j+1)).length with hl2 |hl2
    ·exact absurd (h3 x hl hl2).2 hx
    ·rw[AG hl2]
theorem LH(hrow:Ru Hf wf gw N){x:Nat}:∀ j,j<=N->x<(Hf j).length->∃ r,Jr Hf wf D j x=some r
 |0,_,hx=>⟨_,Ae hx⟩
 |j+1,hj,hx=>by
  simp only[Jr];split
  ·exact⟨_,Ae hx⟩
  ·rename_i hc;obtain⟨h1,h2,h3,h4⟩:=hrow j (by omega);rcases Bv x (Hf j).length with hl |hl
   ·exact LH hrow j (by omega) hl
   ·exact absurd ⟨(h3 x hl hx).2,.inr hl⟩ hc
theorem TP(hrow:Ru Hf wf gw N){x:Nat}:∀ n,n<=N->∀(D D':Nat->Prop),(∀ g,g<n->x∈gw g->x∈wf g->(D g ↔ D' g))->(∀ j,j<n->x∈wf j->D j->∀ g,g<j->x∈gw g->x∈wf g->D g)->(∀ j,j<n->x∈wf j->D' j->∀ g,g<j->x∈gw g->x∈wf g->D' g) ->
  ∀ r,Jr Hf wf D n x=some r->∃ r',Jr Hf wf D' n x=some r'/\EC r r'
 |0,_,D,D',_,_,_,r,h=>⟨r,h,.refl _⟩
 |n+1,hn,D,D',hag,hc,hc',r,h=>by
  have ih:=TP hrow (x:=x) n (by omega);have down:∀{D D':Nat->Prop},(∀ g,g<n+1->x∈gw g->x∈wf g->(D g ↔ D' g))->(∀ j,j<n+1->x∈wf j->D j->∀ g,g<j->x∈gw g->x∈wf g->D g)->(∀ j,j<n+1->x∈wf j->D' j->∀ g,g<j->x∈gw g->x∈wf g->D' g)->x∈wf n->x<(Hf n).length->D n->¬D' n ->
    ∃ q q',(Hf (n+1))[x]? = some q/\Jr Hf wf D' n x=some q'/\EC q q':=by
   intro D D' hag hc hc' hxw hxl hDn hDn';have hng:x∉gw n:=fun hg=>hDn' ((hag n (by omega) hg hxw).1 hDn)
   obtain⟨h1,_,_,_⟩:=hrow n (by omega);obtain⟨r0,r1,g1,g2,g3,_⟩:=h1 x hxl;have hT:Jr Hf wf (fun _=>True) n x=some r0:=by rw[Lb hrow n (by omega)];exact g1
   obtain⟨q',k1,k2⟩:=ih (fun _=>True) D' (fun g hg h1 h2=>⟨fun _=>(hag g (by omega) h1 h2).1 (hc n (by omega) hxw hDn g hg h1 h2),fun _=>trivial⟩) (fun _ _ _ _ _ _ _ _=>trivial) (fun j hj=>hc' j (by omega)) r0 hT;exact⟨r1,q',g2,k1,(g3.resolve_left hng).symm.trans k2⟩
  simp only[Jr]at h ⊢;by_cases hxw:x∈wf n
  ·by_cases hxl:(Hf n).length<=x
   ·rw[Ak ⟨hxw,.inr hxl⟩]at h;rw[Ak ⟨hxw,.inr hxl⟩];exact⟨r,h,.refl _⟩
   ·by_cases h1:D n
    ·rw[Ak ⟨hxw,.inl h1⟩]at h;by_cases h2:D' n
     ·rw[Ak ⟨hxw,.inl h2⟩];exact⟨r,h,.refl _⟩
     ·rw[Aq (fun hh=>hh.2.elim h2 hxl)];obtain⟨q,q',k1,k2,k3⟩:=down hag hc hc' hxw (by omega) h1 h2;rw[h]at k1;cases k1;exact⟨q',k2,k3⟩
    ·rw[Aq (fun hh=>hh.2.elim h1 hxl)]at h;by_cases h2:D' n
     ·rw[Ak ⟨hxw,.inl h2⟩];obtain⟨q,q',k1,k2,k3⟩:=down (fun g hg a b=>(hag g hg a b).symm) hc' hc hxw (by omega) h2 h1;rw[h]at k2;cases k2;exact⟨q,k1,k3.symm⟩
     ·rw[Aq (fun hh=>hh.2.elim h2 hxl)];exact ih D D' (fun g hg=>hag g (by omega)) (fun j hj=>hc j (by omega)) (fun j hj=>hc' j (by omega)) r h
  ·rw[Aq (fun hh=>hxw hh.1)]at h;rw[Aq (fun hh=>hxw hh.1)];exact ih D D' (fun g hg=>hag g (by omega)) (fun j hj=>hc j (by omega)) (fun j hj=>hc' j (by omega)) r h
theorem Js {x : Nat} (i : Nat) : ∀ n, i ≤ n → (∀ j, i ≤ j → j < n → x ∈ wf j → ¬ (D j ∨ (Hf j).length ≤ x)) → Jr Hf wf D n x = Jr Hf wf D i x
  | 0, hi, _ => by have : i = 0 := by omega
                   subst this; rfl
  | n + 1, hi, h => by
    by_cases he : i = n + 1
    · subst he; rfl
    · rw [← Js i n (by omega) fun j h1 h2 => h j h1 (by omega)]
      simp only [Jr]
      rw [Aq]
      rintro ⟨h1, h2⟩
      exact h n (by omega) (by omega) h1 h2
theorem Ix{x:Nat}:∀ n,(∀ j,j<n->x∈wf j->((D j\/(Hf j).length<=x) ↔ (D' j\/(Hf j).length<=x)))->Jr Hf wf D n x=Jr Hf wf D' n x
 |0,_=>rfl
 |n+1,h=>by
  have ih:=Ix n fun j hj=>h j (by omega)
  simp only[Jr];rw[ih];by_cases hx:x∈wf n
  ·have:=h n (by omega) hx;by_cases hc:D n\/(Hf n).length<=x
   ·rw[Ak ⟨hx,hc⟩,Ak ⟨hx,this.1 hc⟩]
   ·rw[Aq (fun hh=>hc hh.2),Aq (fun hh=>hc (this.2 hh.2))]
  ·rw[Aq (fun hh=>hx hh.1),Aq (fun hh=>hx hh.1)]
end
def HD(Hf:Nat->List Row)(wf:Nat->List Nat)(N:Nat)(D:Nat->Prop):List Row:=(List.range (Hf N).length).map fun x=>(Jr Hf wf D N x).getD default
theorem G0{Hf:Nat->List Row}{wf:Nat->List Nat}{N:Nat}{D:Nat->Prop}:(HD Hf wf N D).length=(Hf N).length:=by simp[HD]
theorem yF{C1 C':Ctx}{R:List Nat}{h h1:Nat}(hR1:RH P C1)(hH:C'.H=(C1.TH R).H)(hx:Ext (C1.TH R) C')(hR':RH P C')(hρ:∀ x,(x<h\/h1<=x)->C'.ρ x=C1.ρ x)
  (hun:∀ x,h<=x->x<h1->C1.ρ x=none) (hnew:∀ x,h<=x->x<h1->x∉R) (hold:∀ b,b<C1.w.heap.size->C'.w.heap[b]? = C1.w.heap[b]?):
  Ext C1 { C' with H:=C1.H }/\RH P { C' with H:=C1.H }/\VT C' { C' with H:=C1.H }:=by
 have hC:({ C' with H:=C1.H }:Ctx).TH R=C':=by
  show({ C' with H:=Ei R C1.H }:Ctx)=C'
  have:C'.H=Ei R C1.H:=hH;rw[<- this]
 have hshp:VT C' { C' with H:=C1.H }:=by
  have:=(LA { C' with H:=C1.H } R).symm;rwa [hC]at this
 have hkeep:∀ i b,C1.ρ i=some b->C'.ρ i=some b:=by
  intro i b hb;rcases Bv i h with h2 |h2
  ·rw[hρ i (.inl h2)];exact hb
  ·rcases Bv i h1 with h3 |h3
   ·rw[hun i h2 h3]at hb;cases hb
   ·rw[hρ i (.inr h3)];exact hb
 have hext:Ext C1 { C' with H:=C1.H }:=by
  refine⟨hx.os,hx.tape,hx.output,hx.size,fun b hb _=>hold b hb,fun b c e fr hb=>⟨c,fr,by rw[<- hb];exact hold b (At.1 hb).1,rfl⟩,Al _,fun i r' _ hr=>⟨r',hr,rfl,rfl,Al _,fun _=>⟨rfl,fun b hb=>hkeep i b hb⟩⟩,
   hx.fresh,hx.D8,hx.fo,hx.ro,fun i hi=>⟨rfl,(hx.low i hi).2⟩,fun i r info g1 g2 g3=>⟨⟨r,info.st,g1,g2,g3⟩,fun b hb=>hkeep i b hb⟩,fun b rec hb=>⟨rec,by rw[<- hb];exact hold b (At.1 hb).1⟩⟩
 refine⟨hext,hR'.Ot hshp fun i b r g1 g2=>?_,hshp⟩;have g2':C1.row? i=some r:=g2;rcases Bv i h with h2 |h2
 ·have g3:C1.ρ i=some b:=by rw[<- hρ i (.inl h2)];exact g1
  exact(hR1.GP i b r g3 g2').mono hext (hold b (hR1.lt g3))
 ·rcases Bv i h1 with h3 |h3
  ·have hrow:C'.row? i=some r:=by
    have:(({ C' with H:=C1.H }:Ctx).TH R).row? i=some r:=by
     rw[Qy,show({ C' with H:=C1.H }:Ctx).row? i=some r from g2,AE,Aq (by simpa using hnew i h2 h3)]
    rwa [hC]at this
   exact(hR'.GP i b r g1 hrow).Ot hshp
  ·have g3:C1.ρ i=some b:=by rw[<- hρ i (.inr h3)];exact g1
   exact(hR1.GP i b r g3 g2').mono hext (hold b (hR1.lt g3))
theorem Oy{W:List (List Nat)}{m:List Nat}{n i j x:Nat}(hi:i<n)(hij:i≠j)(hx:x∈W.getD i [])(hc:x∉Gg W m n j):(m.getD j 0).testBit i=true\/(m.getD i 0).testBit j=true:=by
 by_cases h1:(m.getD j 0).testBit i=true
 ·exact .inl h1
 ·by_cases h2:(m.getD i 0).testBit j=true
  ·exact .inr h2
  ·exfalso
   apply hc
   refine List.mem_flatMap.2 ⟨i,Bo.2 hi,?_⟩;have h3:(i==j)=false:=by simpa using hij
   have h1':(m.getD j 0).testBit i=false:=by simpa using h1
   have h2':(m.getD i 0).testBit j=false:=by simpa using h2
   rw[h1',h2',h3];exact hx
theorem dq{E:Env}(hE:CG P E){ex:Ex}(hX:Ej P E ex){ro id:Nat}{ops:Array Oper}{S S':List PV}{H H':List Row}{W G:List (List Nat)}(hok:GF P ops.toList=true)
  (h:K4 (UH P E ex ro W G (DO ops.toList []) ops.size) ops 0 ops.toList S H=some (S',H')):ET P (.region id ops true) ro S H .normal S' H':=by
 obtain⟨Sf,Hf,pf,e1,e2,e3,e4,hone⟩:=UN ops.toList 0 h;generalize hL:ops.toList=L at *;have hget:∀ j,ops[j]? = L[j]?:=fun j=>by rw[<- hL,AL]
 have hsize:ops.size=L.length:=by rw[<- hL];simp
 simp only[GF,Aa]at hok;obtain⟨⟨hmix,_⟩,hall⟩:=hok
 have hchk:∀(j:Nat) o,L[j]? = some o->(∀ e,e∈o.after->Region.binds .any e=true->e.on<j)/\∀(i:Nat) q,L[i]? = some q->i<j->q.apart ops o=true\/Reach L j i:=by
  intro j o ho;have h1:=Ao.1 hall (o,j) (by rw[A6];simpa using ho);simp only[Aa]at h1;refine⟨fun e he hb=>?_,fun i q hq hij=>?_⟩
  ·have:=BN.1 h1.1 e he;simpa [hb] using this
  ·have h2:=Ao.1 h1.2 (q,i) (by rw[A6];simpa using hq);simp only[A2,Am,AQ]at h2;rcases h2 with (h2 |h2) |h2
   ·exact absurd hij h2
   ·refine .inl ?_;have:L.toArray=ops:=by rw[<- hL]
    rwa [this]at h2
   ·exact .inr (DG L [] (by simp) (fun j i hb=>by simp at hb) j i h2)
 have hdown:∀ j i,Reach L j i->i<j:=by
  intro j i hr;induction hr with
  |one ho he hb=>exact(hchk _ _ ho).1 _ he hb
  |more ho he hb _ ih=>have:=(hchk _ _ ho).1 _ he hb;omega
 have hlen:∀ j,j<=L.length->(Sf j).length=S.length:=by
  intro j;induction j with
  |zero=>intro _;rw[e1]
  |succ j ih=>
   intro hj;have ho:L[j]? = some (L[j]'(by omega)):=Ae _;rw[(hone j _ ho).1];have:=ih (by omega);cases(L[j]'(by omega)).dst <;> simp[D6,this]
 let R:Nat->List Nat:=fun j=>Gg W (DO L []) ops.size j
 let K:Nat->List Nat:=fun j=>Gg G (DO L []) ops.size j
 let gw:Nat->List Nat:=fun j=>G.getD j []
 have hex:∀ j,∃ w:List Nat,∀ o,L[j]? = some o->((EG ops (Sf j) o=some (false,Sf j)/\pf j=.val undef/\Hf (j+1)=Hf j/\w=[])\/(EG ops (Sf j) o=some (true,Sf j)/\WG P E ex ro (R j) (K j) (gw j) (Sf j) (Hf j) o (pf j) (Hf (j+1)) w)) /\
   ∀ x,x∈w->x∈W.getD j []/\x∉R j:=by
  intro j;cases hj:L[j]? with
  |none=>exact⟨[],fun o ho=>by cases ho⟩
  |some o=>
   rcases(hone j o hj).2 with ⟨g1,g2,g3⟩ |⟨g1,g2⟩
   ·exact⟨[],fun o' ho'=>by cases ho';exact⟨.inl ⟨g1,g2,g3,rfl⟩,fun x hx=>by cases hx⟩⟩
   ·rw[AM]at g2;obtain⟨w,g3,g4⟩:=YI g2;exact⟨w,fun o' ho'=>by cases ho';exact⟨.inr ⟨g1,g3⟩,g4⟩⟩
 obtain⟨wf,hwf⟩:=Classical.axiomOfChoice hex;have hrow:∀ j,j<L.length->(∀ x,x<(Hf j).length->∃ r r',(Hf j)[x]? = some r/\(Hf (j+1))[x]? = some r'/\(x∈gw j\/EC r r')/\(x∉wf j->r'=r))/\(Hf j).length<=(Hf (j+1)).length /\
   (∀ x,(Hf j).length<=x->x<(Hf (j+1)).length->x=(Hf j).length/\x∈wf j)/\(∀ x,x∈wf j->x<(Hf (j+1)).length):=by
  intro j hj;have ho:L[j]? = some (L[j]'hj):=Ae _;rcases(hwf j _ ho).1 with ⟨_,_,g3,g4⟩ |⟨_,g2⟩
  ·rw[g3,g4];exact⟨fun x hx=>⟨_,_,Ae hx,Ae hx,.inr (.refl _),fun _=>rfl⟩,Al _,fun x h1 h2=>by omega,fun x hx=>by cases hx⟩
  ·exact g2.rows
 have hmono:∀ j k,j<=k->k<=L.length->(Hf j).length<=(Hf k).length:=fun j k hjk hk=>ue hrow hjk hk
 have hordR:∀ i j x,i<L.length->j<L.length->j≠i->x∈wf j->x∉R i->Reach L i j\/Reach L j i:=by
  intro i j x hi hj hij hx hR;have ho:L[j]? = some (L[j]'hj):=Ae _;rcases Oy (by rw[hsize];exact hj) hij ((hwf j _ ho).2 x hx).1 hR with hb |hb
  ·exact .inl (DG L [] (by simp) (fun j i hb=>by simp at hb) i j hb)
  ·exact .inr (DG L [] (by simp) (fun j i hb=>by simp at hb) j i hb)
 have hslots:=Iw (L:=L) (S:=S) (pf:=pf) e1 hlen fun j o ho=>(hone j o ho).1
 have hHDget:∀(D:Nat->Prop) x,x<(Hf L.length).length->(HD Hf wf L.length D)[x]? = Jr Hf wf D L.length x:=by
  intro D x hx;obtain⟨r,g1⟩:=LH hrow (D:=D) L.length (Al _) hx;simp only[HD,An,Be hx,AE,g1,Bx]
 intro r C a hH hro hRH hs _ Q hQ;refine wpIn_region_any hmix ?_;subst hH
 let D:Array Bool->Nat->Prop:=fun listed j=>listed.getD j false=true
 have hD0:∀ j,¬D (Array.replicate ops.size false) j:=fun j hj=>by simp only[D,getD_replicate_false]at hj;cases hj
 have hpre0:∃ rs,HD Hf wf L.length (D (Array.replicate ops.size false))=C.H++rs:=by
  refine⟨(HD Hf wf L.length (D (Array.replicate ops.size false))).drop C.H.length,?_⟩;have hle:=hmono 0 L.length (by omega) (by omega);rw[e2]at hle
  conv=>lhs;rw[<- List.take_append_drop C.H.length (HD Hf wf L.length (D (Array.replicate ops.size false)))]
  congr 1
  apply Bf
  intro x;rw[Au];split
  ·rename_i hx;rw[hHDget _ x (by omega),Js 0 L.length (by omega) fun j h1 h2 h3 h4=>?_]
   ·show(Hf 0)[x]? = _
    rw[e2]
   ·rcases h4 with h4 |h4
    ·exact hD0 j h4
    ·have:=hmono 0 j (by omega) (by omega);rw[e2]at this;omega
  ·rename_i hx;exact(AG (by omega)).symm
 obtain⟨rs,hrs⟩:=hpre0;have hx0:=Jq hRH rs;have hR0:=WE hRH rs;rw[<- hrs]at hx0 hR0
 let Inv:Array Bool->Act->World->Prop:=fun listed a1 w=>∃ C1:Ctx,C1.w=w/\C1.H=HD Hf wf L.length (D listed)/\Ext C C1/\RH P C1/\a1.tmps.size=S.length/\a1.defers=a.defers /\
  (∀ j,j<L.length->¬D listed j->∀ x,(Hf j).length<=x->x<(Hf (j+1)).length->C1.ρ x=none) /\
  (∀ t p v,DR L S pf (D listed) L.length t=some p->a1.tmps[t]? = some v->RV P C1 p v)
 have final:∀ listed a1 w,(∀ j,j<L.length->D listed j)->Inv listed a1 w->Q .normal a1 w:=by
  rintro listed a1 w hd ⟨C1,rfl,h1,h2,h3,h4,h5,_,h7⟩
  refine hQ a1 C1 (.of_eq h5) ?_ h2 h3 ⟨by rw[h4,<- e3,hlen _ (Al _)],fun t p v g1 g2=>h7 t p v ?_ g2⟩
  ·rw[h1,<- e4];apply Bf
   intro x;rcases Bv x (Hf L.length).length with hx |hx
   ·rw[hHDget _ x hx,Ix (D':=fun _=>True) L.length fun j hj _=>⟨fun _=>.inl trivial,fun _=>.inl (hd j hj)⟩,Lb hrow L.length (Al _)]
   ·rw[AG (by rw[G0];exact hx),AG hx]
  ·rw[DP (D':=fun _=>True) _ fun j hj _=>⟨fun _=>trivial,fun _=>hd j hj⟩,hslots _ (Al _),e3];exact g1
 have hready:∀ listed,HeadInv .any ops ops.size listed->Region.ready .any ops listed=[]->∀ j,j<L.length->D listed j:=by
  intro listed hinv hnil j;induction j using Nat.strongRecOn with
  |_ j ih=>
   intro hj;by_cases hDj:D listed j
   ·exact hDj
   ·exfalso
    have ho:L[j]? = some (L[j]'hj):=Ae _;have hlj:j<listed.size:=by rw[hinv.size,hsize];exact hj
    have:j∈Region.ready .any ops listed:=mem_ready.2 ⟨getD_in hlj (by simpa [D] using hDj),L[j]'hj,by rw[hget];exact ho,fun e he hb=>by
     have hlt:=(hchk j _ ho).1 e he hb;exact ih e.on hlt (by omega)⟩
    rw[hnil]at this;cases this
 have main:∀ fuel listed a1 w,HeadInv .any ops ops.size listed->(List.range L.length).countP (fun j=>!listed.getD j false)<=fuel->Inv listed a1 w->wpAnyIn (Fr r) 0 P .any ops Q fuel listed a1 w:=by
  intro fuel;induction fuel with
  |zero=>
   intro listed a1 w hinv hc hI;have hd:∀ j,j<L.length->D listed j:=by
    intro j hj;by_cases hDj:D listed j
    ·exact hDj
    ·exfalso
     have:0<(List.range L.length).countP (fun j=>!listed.getD j false):=CI.2 ⟨j,Bo.2 hj,by simpa [D] using hDj⟩;omega
   refine⟨?_,final listed a1 w hd hI⟩;cases hr:Region.ready .any ops listed with
   |nil=>rfl
   |cons x xs=>
    exfalso
    have hx:x∈Region.ready .any ops listed:=by rw[hr];simp
    obtain⟨h1,o,ho,_⟩:=mem_ready.1 hx;have hxl:x<L.length:=by rw[hget]at ho;exact(Ad.1 ho).1
    have h9:listed.getD x false=true:=hd x hxl;rw[getD_both h1]at h9;cases h9
  |succ fuel ih=>
   intro listed a1 w hinv hc hI;refine⟨fun hnil=>final listed a1 w (hready listed hinv hnil) hI,fun i hi=>?_⟩;obtain⟨h1,o,ho,hedges⟩:=mem_ready.1 hi;have hoL:L[i]? = some o:=by rw[<- hget];exact ho
   have hiL:i<L.length:=(Ad.1 hoL).1;have hnD:¬D listed i:=by show ¬listed.getD i false=true;rw[getD_both h1];simp
   have hil:i<listed.size:=by rw[hinv.size,hsize];exact hiL
   have hclosed:∀ j o e,L[j]? = some o->D listed j->e∈o.after->Region.binds .any e=true->D listed e.on:=fun j o e hj hDj he hb=>hinv.closed j o (by rw[hget];exact hj) hDj e he hb
   have hpreds:∀ j,Reach L i j->D listed j:=fun j hr=>hr.ready hclosed fun o' e ho' he hb=>by
    have:o'=o:=Ah (ho'.symm.trans hoL);subst this;exact hedges e he hb
   have hsuccs:∀ j,Reach L j i->¬D listed j:=fun j hr hDj=>hnD (hr.closed hclosed hDj)
   have hinv':=hinv.set hi (by rw[hsize];exact hiL);have hcount:(List.range L.length).countP (fun j=>!(listed.setIfInBounds i true).getD j false)<=fuel:=by
    have:=countP_set (p:=fun j=>!listed.getD j false) (q:=fun j=>!(listed.setIfInBounds i true).getD j false) (i:=i) (Cw (n:=L.length)) (Bo.2 hiL)
     (by simp only[Am];exact getD_both h1) (by simp[hil]) (fun j hj=>by simp only[getD_set_ne false (fun e=>hj e.symm)])
    omega
   have hD':∀ j,D (listed.setIfInBounds i true) j ↔ D listed j\/j=i:=by
    intro j;by_cases hji:j=i
    ·subst hji;simp[D,hil]
    ·simp only[D,getD_set_ne false (fun e=>hji e.symm),hji,Cu]
   obtain⟨C1,rfl,c1,c2,c3,c4,c5,c6,c7⟩:=hI;have hDi:∀ j,D (listed.setIfInBounds i true) j ↔ D listed j\/j=i:=hD'
   have hN:∀ j,j<L.length->(Hf j).length<=(Hf L.length).length:=fun j hj=>hmono j _ (by omega) (by omega)
   have hagree:∀ x,x<(Hf i).length->x∉R i->(HD Hf wf L.length (D listed))[x]? = (Hf i)[x]?:=by
    intro x hx hxR;rw[hHDget _ x (AA hx (hN i hiL)),Js i L.length (by omega) fun j h1 h2 h3 h4=>?_,Ix (D':=fun _=>True) i fun j hj hxj=>⟨fun _=>.inl trivial,fun _=>.inl ?_⟩,Lb hrow i (by omega)]
    ·rcases hordR i j x hiL (by omega) (by omega) hxj hxR with hr |hr
     ·exact hpreds j hr
     ·have:=hdown _ _ hr;omega
    ·rcases h4 with h4 |h4
     ·by_cases hji:j=i
      ·subst hji;exact hnD h4
      ·rcases hordR i j x hiL h2 hji h3 hxR with hr |hr
       ·have:=hdown _ _ hr;omega
       ·exact hsuccs j hr h4
     ·have:=hmono i j h1 (by omega);omega
   have hgrown:∀ g x,g<L.length->g≠i->x∈gw g->x∉K i->Reach L i g\/Reach L g i:=by
    intro g x hg hgi hx hxK;rcases Oy (W:=G) (by rw[hsize];exact hg) hgi hx hxK with hb |hb
    ·exact .inl (DG L [] (by simp) (fun j i hb=>by simp at hb) i g hb)
    ·exact .inr (DG L [] (by simp) (fun j i hb=>by simp at hb) g i hb)
   have hthere:∀ x,x<(Hf i).length->∃ q q',(HD Hf wf L.length (D listed))[x]? = some q/\(Hf i)[x]? = some q':=by
    intro x hx;have hxN:=AA hx (hN i hiL);obtain⟨q,g1⟩:=LH hrow (D:=D listed) L.length (Al _) hxN;exact⟨q,_,by rw[hHDget _ x hxN];exact g1,Ae hx⟩
   have hshape:∀ x,x<(Hf i).length->x∈R i->x∉K i->∃ q q',(HD Hf wf L.length (D listed))[x]? = some q/\(Hf i)[x]? = some q'/\EC q q':=by
    intro x hx hxR hxK;have hxN:=AA hx (hN i hiL);obtain⟨q,g1⟩:=LH hrow (D:=D listed) L.length (Al _) hxN;have hiw:x∉wf i:=fun hw=>((hwf i o hoL).2 x hw).2 hxR
    have ord:∀ g,g<L.length->x∈gw g->x∈wf g->(g<i/\D listed g)\/(i<g/\¬D listed g):=by
     intro g hg h1 h2;have hgi:g≠i:=fun e=>hiw (e▸h2)
     rcases hgrown g x hg hgi h1 hxK with hr |hr
     ·exact .inl ⟨hdown _ _ hr,hpreds g hr⟩
     ·exact .inr ⟨hdown _ _ hr,hsuccs g hr⟩
    obtain⟨q',g2,g3⟩:=TP hrow L.length (Al _) (D listed) (fun j=>j<i) (fun g hg h1 h2=>by
      rcases ord g hg h1 h2 with ⟨a,b⟩ |⟨a,b⟩
      ·exact⟨fun _=>a,fun _=>b⟩
      ·exact⟨fun h=>absurd h b,fun h=>by omega⟩)
     (fun j hj hjw hDj g hgj h1 h2=>by
      rcases ord g (by omega) h1 h2 with ⟨_,b⟩ |⟨a,b⟩
      ·exact b
      ·-- g lies behind i,before j,and lets x grow
       exfalso
       have hxRg:x∉R g:=((hwf g _ (Ae (by omega))).2 x h2).2;rcases hordR g j x (by omega) hj (by omega) hjw hxRg with hr |hr
       ·have:=hdown _ _ hr;omega
       ·exact b (hr.closed hclosed hDj))
     (fun j hj _ hDj g hgj h1 h2=>by have:j<i:=hDj;show g<i;omega) q g1
    refine⟨q,q',by rw[hHDget _ x hxN];exact g1,?_,g3⟩;rw[<- g2,Js i L.length (by omega) fun j h1 h2 h3 h4=>?_,Ix (D':=fun _=>True) i fun j hj _=>⟨fun _=>.inl trivial,fun _=>.inl hj⟩,Lb hrow i (by omega)];rcases h4 with h4 |h4
    ·omega
    ·have:=hmono i j h1 (by omega);omega
   have hag:∀ x,x<(Ei (R i) (Hf i)).length->x∉K i->(Ei (R i) (HD Hf wf L.length (D listed)))[x]? = (Ei (R i) (Hf i))[x]?:=by
    intro x hx hxK;rw[EH]at hx;rw[Gc,Gc];by_cases hxR:x∈R i
    ·obtain⟨q,q',g1,g2,g3⟩:=hshape x hx hxR hxK;rw[g1,g2];simp only[AE];rw[Ak (by simpa using hxR),Ak (by simpa using hxR),g3.Ei]
    ·rw[hagree x hx hxR]
   have hafter:∀ x,x∈wf i->(HD Hf wf L.length (D (listed.setIfInBounds i true)))[x]? = (Hf (i+1))[x]?:=by
    intro x hx;have hxl:=(hrow i hiL).2.2.2 x hx;rw[hHDget _ x (AA hxl (hmono (i+1) _ (by omega) (by omega))),Js (i+1) L.length (by omega) fun j h1 h2 h3 h4=>?_]
    ·simp only[Jr];rw[Ak ⟨hx,.inl ((hDi i).2 (.inr rfl))⟩]
    ·rcases h4 with h4 |h4
     ·rcases(hDi j).1 h4 with h4 |h4
      ·rcases hordR i j x hiL h2 (by omega) h3 ((hwf i o hoL).2 x hx).2 with hr |hr
       ·have:=hdown _ _ hr;omega
       ·exact hsuccs j hr h4
      ·omega
     ·have:=hmono (i+1) j h1 (by omega);omega
   have hother:∀ x,x∉wf i->(HD Hf wf L.length (D (listed.setIfInBounds i true)))[x]? = (HD Hf wf L.length (D listed))[x]?:=by
    intro x hx;rcases Bv x (Hf L.length).length with hl |hl
    ·rw[hHDget _ x hl,hHDget _ x hl];refine Ix L.length fun j hj hxj=>?_
     rw[hDi j];refine⟨fun hh=>hh.elim (fun hh=>hh.elim .inl fun e=>?_) .inr,fun hh=>hh.elim (fun hh=>.inl (.inl hh)) .inr⟩;subst e;exact absurd hxj hx
    ·rw[AG (by rw[G0];exact hl),AG (by rw[G0];exact hl)]
   have hnew:∀ x,(Hf i).length<=x->x<(Hf (i+1)).length->(HD Hf wf L.length (D listed))[x]? = (Hf (i+1))[x]?:=by
    intro x hx1 hx2;have hxw:=((hrow i hiL).2.2.1 x hx1 hx2).2;rw[hHDget _ x (AA hx2 (hmono (i+1) _ (by omega) (by omega))),Js (i+1) L.length (by omega) fun j h1 h2 h3 h4=>?_]
    ·simp only[Jr];rw[Ak ⟨hxw,.inr hx1⟩]
    ·rcases h4 with h4 |h4
     ·rcases hordR i j x hiL h2 (by omega) h3 ((hwf i o hoL).2 x hxw).2 with hr |hr
      ·have:=hdown _ _ hr;omega
      ·exact hsuccs j hr h4
     ·have:=hmono (i+1) j h1 (by omega);omega
   have hstay:(∀ x,x∈wf i->(Hf i).length<=x)->HD Hf wf L.length (D (listed.setIfInBounds i true))=HD Hf wf L.length (D listed):=by
    intro hw;apply Bf
    intro x;by_cases hx:x∈wf i
    ·rw[hafter x hx,hnew x (hw x hx) ((hrow i hiL).2.2.2 x hx)]
    ·exact hother x hx
   have hread:∀ t∈o.looksAt ops,∀ p v,(Sf i)[t]? = some p->a1.tmps[t]? = some v->RV P C1 p v:=by
    intro t ht p v g1 g2;refine c7 t p v ?_ g2;rw[D7 i L.length (by omega) fun j hij hjn hd=>?_,DP (D':=fun _=>True) i fun j hj hd=>⟨fun _=>trivial,fun _=>?_⟩,hslots i (by omega)]
    ·exact g1
    ·-- a writer before
     obtain⟨q,hq,hqd⟩:=AH.1 hd;rcases(hchk i o hoL).2 j q hq hj with hap |hr
     ·exact absurd ht ((Oper.apart_spec hap).1 t hqd)
     ·exact hpreds j hr
    ·-- a writer behind
     by_cases hji:j=i
     ·subst hji;exact hnD
     ·obtain⟨q,hq,hqd⟩:=AH.1 hd;rcases(hchk j q hq).2 i o hoL (by omega) with hap |hr
      ·exact absurd ht ((Oper.apart_spec hap).2.2 t hqd)
      ·exact hsuccs j hr
   have hopnd:∀ x∈o.op.operands,RV P C1 (ev (Sf i) x) (a1.eval x):=by
    intro x hx;cases x with
    |tmp t=>
     have ht:t∈o.looksAt ops:=by
      simp only[Oper.looksAt];exact BT _ (BZ.2 ⟨.tmp t,by simpa using hx,rfl⟩)
     show RV P C1 ((Sf i).getD t (.val undef)) (a1.tmps.getD t undef)
     have hl:=hlen i (by omega);by_cases htl:t<S.length
     ·have g1:(Sf i)[t]? = some ((Sf i)[t]'(by rw[hl];exact htl)):=Ae _;have g2:a1.tmps[t]? = some (a1.tmps[t]'(by rw[c4];exact htl)):=AD _;have:=hread t ht _ _ g1 g2;simpa [List.getD,Array.getD,htl,hl,c4] using this
     ·have g1:(Sf i).getD t (.val undef)=.val undef:=by simp[List.getD,List.getElem?_eq_none (show(Sf i).length<=t by rw[hl];exact Nat.le_of_not_lt htl)]
      have g2:a1.tmps.getD t undef=undef:=by simp[Array.getD,c4,htl]
      rw[g1,g2];exact .val
    |const v=>exact .val
    |global g=>exact .val
    |func f=>exact .fn rfl rfl (fun j c v h=>by simp at h) (fun j c v h=>by simp at h)
   have hwrite:∀(C2:Ctx) (v:Value),C2.H=HD Hf wf L.length (D (listed.setIfInBounds i true))->Ext C1 C2->RH P C2->RV P C2 (pf i) v->(∀ x,¬(x∈wf i/\x<(Hf i).length)->C1.ρ x=none->(x<(Hf i).length\/(Hf (i+1)).length<=x)->C2.ρ x=none) ->
     wpAnyIn (Fr r) 0 P .any ops Q fuel (listed.setIfInBounds i true) (a1.put o.dst v) C2.w:=by
    intro C2 v k1 k2 k3 k4 k5;refine ih _ _ _ hinv' hcount ⟨C2,rfl,k1,c2.trans k2,k3,?_,?_,fun j hj hDj x hx1 hx2=>?_,fun t p u g1 g2=>?_⟩
    ·cases o.dst <;> simp[Act.put,c4]
    ·cases o.dst <;> exact c5
    ·have hji:j≠i:=fun e=>hDj ((hD' j).2 (.inr e))
     have hDj':¬D listed j:=fun hh=>hDj ((hD' j).2 (.inl hh))
     refine k5 x ?_ (c6 j hj hDj' x hx1 hx2) ?_
     ·rintro⟨hxw,hxl⟩
      rcases hordR i j x hiL hj hji ((hrow j hj).2.2.1 x hx1 hx2).2 ((hwf i o hoL).2 x hxw).2 with hr |hr
      ·exact hDj' (hpreds j hr)
      ·have:=hdown _ _ hr;have:=hmono i j (by omega) (by omega);omega
     rcases Nat.lt_or_gt_of_ne hji with h2 |h2
     ·left
      have:=hmono (j+1) i (by omega) (by omega);omega
     ·right
      have:=hmono (i+1) j (by omega) (by omega);omega
    ·by_cases hdt:o.dst=some t
     ·-- its own slot
      have htl:t<S.length:=by
       have h9:=(At.1 g2).1;rw[hdt]at h9;simp only[Act.put,Ct,c4]at h9;exact h9
      have hself:DR L S pf (D (listed.setIfInBounds i true)) L.length t=some (pf i):=by
       rw[D7 (i+1) L.length (by omega) fun j hij hjn hd=>?_]
       ·simp only[DR];rw[Ak ⟨(hD' i).2 (.inr rfl),by simp[hoL,hdt],htl⟩]
       ·obtain⟨q,hq,hqd⟩:=AH.1 hd;intro hDj;rcases(hD' j).1 hDj with hDj |hji
        ·rcases(hchk j q hq).2 i o hoL (by omega) with hap |hr
         ·exact(Oper.apart_spec hap).2.1 t hdt hqd
         ·exact hsuccs j hr hDj
        ·omega
      rw[hself]at g1;cases g1;rw[hdt]at g2;simp only[Act.put]at g2;rw[AW,Ak rfl]at g2;split at g2
      ·cases g2;exact k4
      ·cases g2
     ·-- another's
      have hsame:DR L S pf (D (listed.setIfInBounds i true)) L.length t=DR L S pf (D listed) L.length t:=by
       refine DP _ fun j hj hd=>?_
       rw[hD' j];refine⟨fun hh=>hh.resolve_right fun e=>?_,fun hh=>.inl hh⟩;subst e;rw[hoL]at hd;exact hdt hd
      rw[hsame]at g1;have g3:a1.tmps[t]? = some u:=by
       cases hod:o.dst with
       |none=>rw[hod]at g2;exact g2
       |some d=>
        rw[hod]at g2 hdt;simp only[Act.put]at g2;rw[AW,Aq (fun e=>hdt (by rw[e]))]at g2;exact g2
      exact(c7 t p u g1 g3).mono k2
   have hquiet:∀ H1,Mp P E ex (K i) (Sf i) (Ei (R i) (Hf i)) o=some (pf i,H1)->(Hf (i+1)).length=H1.length->(∀ x,x∈wf i->(Hf i).length<=x)->(∀ rr,H1=Ei (R i) (Hf i)++[rr]->(Ei (R i) (HD Hf wf L.length (D listed)))[(Hf i).length]? = some rr) ->
     o.wpIn (Fr r) 0 P a1 C1.w (fun a2 w2=>wpAnyIn (Fr r) 0 P .any ops Q fuel (listed.setIfInBounds i true) a2 w2) Q:=by
    intro H1 hst hl1 hw hH1;have hH0:(C1.TH (R i)).H=Ei (R i) (HD Hf wf L.length (D listed)):=by simp only[Ctx.TH];rw[c1]
    have hlp:=EH (R i) (Hf i);have hunb:∀ x,(Hf i).length<=x->x<(Hf (i+1)).length->C1.ρ x=none:=fun x h1 h2=>c6 i hiL hnD x h1 h2
    refine WD hE hX (C:=C1.TH (R i)) (fA c3 (R i)) ?_ (by rw[hH0,EH,G0,<- hl1];exact hmono (i+1) _ (by omega) (by omega)) (by rw[hH0];exact hag) (by rw[hH0,hlp];exact hH1) (fun x h1 h2=>hunb x (by rw[hlp]at h1;exact h1) (by rw[hl1];exact h2)) (fun x hx=>(hopnd x hx).Ot (LA C1 (R i))) hst fun v C' k1 k2 k3 k4 k5 k6=>?_
    ·rw[hlp];show C1.ro<=_
     rw[c2.ro];have h10:=hRH.ro;have h11:=hmono 0 i (by omega) (by omega);rw[e2]at h11;omega
    ·have hRi:∀ x,(Hf i).length<=x->x<(Hf (i+1)).length->x∉R i:=fun x h1 h2=>((hwf i o hoL).2 x ((hrow i hiL).2.2.1 x h1 h2).2).2
     obtain⟨q1,q2,q3⟩:=yF (h:=(Hf i).length) (h1:=(Hf (i+1)).length) c3 k1 k2 k3 (fun x hx=>k5 x (by rw[hlp,<- hl1];exact hx)) hunb hRi k6;refine hwrite { C' with H:=C1.H } v (by show C1.H=_;rw[c1,hstay hw]) q1 q2 (k4.Ot q3) fun x _ h1 h2=>?_
     show C'.ρ x=none
     rw[k5 x (by rw[hlp,<- hl1];exact h2)];exact h1
   unfold wpOpIn;simp only[ho];rcases(hwf i o hoL).1 with ⟨hg,hp,hHe,hwe⟩ |⟨hg,hdo⟩
   ·have hw:=EZ (by rw[c4,hlen i (by omega)]) hread hg;rw[hw,Aq (by simp)];exact⟨fun _ _=>trivial,hwrite C1 undef (by rw[c1,hstay fun x hx=>by rw[hwe]at hx;cases hx]) (.refl C1) c3 (by rw[hp];exact .val) fun x _ h1 _=>h1⟩
   ·have hw:=EZ (by rw[c4,hlen i (by omega)]) hread hg;rw[hw,Ak rfl];have hC1len:C1.H.length=(Hf L.length).length:=by rw[c1,G0]
    rcases hdo with ⟨T,ad,x,ii,n,k,j,hop,had,hst,hp,hwe⟩ |⟨hst,hHe,hwe⟩ |⟨rr,hst,hHe,hwe⟩ |⟨f,args,H2,hwc,hargs,hrol,hokm,hcall,hpl,hkm,hsh,hHe⟩ |⟨c,ii,x,y,hg,hsf,hap,hiG,hwe⟩
    ·-- a store
     obtain⟨r1,r2,g1,g2,g3,g4⟩:=La hst;have hii:ii<(Hf i).length:=EL g1;have hiw:ii∈wf i:=by rw[hwe];simp
     have hrow1:rowAt C1.H ii=some r1:=by
      have:=hagree ii hii ((hwf i o hoL).2 ii hiw).2;unfold rowAt at g1 ⊢;rw[c1,this];exact g1
     have hq:=g4 C1.H hrow1;have hax:ad∈o.op.operands:=by rw[hop];simp[Op.operands]
     have hxx:x∈o.op.operands:=by rw[hop];simp[Op.operands]
     have hA:=hopnd ad hax;rw[had]at hA;obtain⟨C',q1,q2,q3⟩:=JU c3 hA (hopnd x hxx) (by rw[c2.ro,hro];exact hq);refine⟨fun _ _=>trivial,?_⟩;have hrun:(execOp a1.eval o).run P C1.w=.ok .skip C'.w:=by
      unfold execOp;simp only[hop,Sem.run_bind,q1,Result.andThen_ok,Sem.run_pure]
     rw[Gi hrun (fun _ h=>by cases h)];refine hwrite C' undef ?_ q2.ext q2.rh (by rw[hp];exact .val) fun y _ h1 _=>by rw[q3];exact h1
     rw[q2.H,c1];apply Bf
     intro y;rw[Ax];by_cases hy:ii=y
     ·subst hy;rw[Ak rfl,Ak (by rw[G0];exact AA hii (hN i hiL)),hafter ii hiw,g2,Ax,Ak rfl,Ak hii]
     ·rw[Aq hy,hother y (by rw[hwe];simp;exact fun e=>hy e.symm)]
    ·exact hquiet _ hst (by rw[hHe,EH]) (fun x hx=>by rw[hwe]at hx;cases hx) (fun rr he=>by
      have:=congrArg List.length he;simp at this)
    ·refine hquiet _ hst (by rw[hHe];simp[EH]) (fun x hx=>by rw[hwe]at hx;simp at hx;omega) fun rr' he=>?_
     have hl:(Hf (i+1)).length=(Hf i).length+1:=by rw[hHe];simp
     have hin:=hnew (Hf i).length (Al _) (by omega);have hRn:(Hf i).length∉R i:=((hwf i o hoL).2 _ (by rw[hwe];simp)).2;obtain rfl:rr=rr':=by
      have:=List.append_cancel_left he;simpa using this
     rw[Gc,hin,hHe];simp only[Bn (Al _),Dm,AZ,AE];rw[Aq (by simpa using hRn)]
    ·-- a call that writes
     have hKlt:∀ x,x∈wf i->x<(Hf i).length:=fun x hx=>by
      obtain⟨z,z',k1,_⟩:=LG hsh hx;exact(Ad.1 k1).1
     have hle:(Hf i).length<=C1.H.length:=by rw[hC1len];exact hN i hiL
     have hroC:C1.ro<=(Hf i).length:=by rw[c2.ro,hro];exact hrol
     have hmask:EN (wf i) (C1.H.take (Hf i).length)=EN (wf i) (Hf i):=by
      apply Bf
      intro x;rw[Fy,Fy,Au];by_cases hx:x<(Hf i).length
      ·rw[Ak hx,c1];by_cases hxw:x∈wf i
       ·rw[hagree x hx ((hwf i o hoL).2 x hxw).2]
       ·obtain⟨z,z',k1,k2⟩:=hthere x hx;rw[k1,k2];simp only[AE];rw[Aq (by simpa using hxw),Aq (by simpa using hxw)];rfl
      ·rw[Aq hx,AG (by omega)]
     have hRm:RH P (C1.mask (wf i) (Hf i).length):=aF c3 hle hroC (by rw[hmask];exact hokm);have hHm:(C1.mask (wf i) (Hf i).length).H=EN (wf i) (Hf i):=hmask;unfold GY at hwc;split at hwc
     case h_2=>cases hwc
     rename_i c hop;split at hwc
     case h_2=>cases hwc
     rename_i g hcal;split at hwc
     case h_2=>cases hwc
     rename_i f' first cap hgf
     cases hwc;have hgm:g∈o.op.operands:=by rw[hop];simp[Op.operands,Call.operands,hcal]
     have hgv:=hopnd g hgm;rw[hgf]at hgv;generalize hG:a1.eval g=G at hgv;cases hgv with
     | @fn _ _ _ F K q1 q2 q3 q4=>
      have hcs:=NC (a:=a1) (S:=Sf i) (xs:=c.args) ⟨q1,q3⟩ ⟨q2,q4⟩ (fun x hx=>hopnd x (by rw[hop];simp[Op.operands,Call.operands,hcal,hx]));have hcm:Cs P (C1.mask (wf i) (Hf i).length) (first++c.args.toList.map (ev (Sf i))++cap) (F++c.args.map a1.eval++K):=
       ⟨hcs.1,fun j cc v k1 k2=>fD hle (hcs.2 j cc v k1 k2) (Ao.1 hargs cc (Ag k1))⟩
      obtain⟨z1,z2⟩:=Gj (ro:=ro) hE hX hRm (by show C1.ro=ro;rw[c2.ro];exact hro) hcm (by rw[hHm];exact hcall);refine ND hop hcal hG z1 z2 fun e w' ⟨V,C',he,hw',hct⟩=>⟨V,he,?_⟩
      subst hw';have hH2:=hct.H;have hl2:(Hf i).length<=C'.H.length:=by have:=hct.ext.len;rwa [Ht hle]at this
      refine hwrite (C1.back C' (wf i) (Hf i).length) V ?_ (Ou c3 hle hct.ext) (Wj c3 hle hct.ext hct.rh (by rw[hH2];exact hkm)) (hct.rv.plain hpl) fun x h0 h1 h2=>?_
      ·apply Bf
       intro x;rw[GD hle hl2];by_cases hxw:x∈wf i
       ·have hxl:=hKlt x hxw;rw[Ak ⟨hxl,by simpa using hxw⟩,hafter x hxw,hHe,H8,hH2];obtain⟨z,z',k1,k2,_⟩:=LG hsh hxw;rw[k1,k2];simp only[AE];rw[Ak (by simpa using hxw),Av,k2];rfl
       ·rw[Aq (fun hh=>hxw (by simpa using hh.2)),hother x hxw,c1]
      ·show(if Tj (wf i) (Hf i).length x then C'.ρ x else C1.ρ x)=none
       split
       ·rename_i hk;exact absurd ⟨by simpa using hk.2,hk.1⟩ h0
       ·exact h1
    ·-- an append
     obtain⟨X,Y,n,len,hop,hcal,hargs,hX,rfl,rfl⟩:=WH hg;obtain⟨r1,r2,g1,g2,g3,g4⟩:=NI hap;have hii:ii<(Hf i).length:=EL g1;have hiw:ii∈wf i:=by rw[hwe];simp
     have hrat:∀ z,z<(Hf i).length->z∉R i->rowAt C1.H z=rowAt (Hf i) z:=by
      intro z hz1 hz2;have:=hagree z hz1 hz2;unfold rowAt;rw[c1,this]
     have hsrc:∀ T T2,JV P T T2 C1.H (ev (Sf i) Y)=JV P T T2 (Hf i) (ev (Sf i) Y):=by
      refine dp fun z n' k' l' he=>?_
      rw[he]at hsf g3;simp only[Nu,Am,BJ,AQ]at hsf;refine hrat z ?_ hsf;obtain⟨T,T2,g3⟩:=g3;obtain⟨q,hz⟩:=gh g3;exact EL hz
     have hq:=g4 C1.H ((hrat ii hii ((hwf i o hoL).2 ii hiw).2).trans g1) hsrc;have hca:c.args = #[X,Y]:=by apply BD;simpa using hargs
     have hXm:X∈o.op.operands:=by rw[hop];simp[Op.operands,Call.operands,hca]
     have hYm:Y∈o.op.operands:=by rw[hop];simp[Op.operands,Call.operands,hca]
     have hA:=hopnd X hXm;rw[hX]at hA;obtain⟨v,C',q1,q2,q3,q4⟩:=F2 c3 hA (hopnd Y hYm) (by rw[c2.ro,hro];exact hq) o.type;refine D9 (v:=v) (w':=C'.w) ?_ (hwrite C' v ?_ q2.ext q2.rh q3 fun z h0 h1 _=>?_)
     ·unfold execOp;simp only[hop,resolve,hcal,hca,Sem.run_bind,Sem.run_pure,Result.andThen_ok,invoke,builtin,BM,AV,Bs,q1]
     ·rw[q2.H,c1];apply Bf
      intro z;rw[Ax];by_cases hz:ii=z
      ·subst hz;rw[Ak rfl,Ak (by rw[G0];exact AA hii (hN i hiL)),hafter ii hiw,g2,Ax,Ak rfl,Ak hii]
      ·rw[Aq hz,hother z (by rw[hwe];simp;exact fun e=>hz e.symm)]
     ·by_cases hz:z=ii
      ·subst hz;exact absurd ⟨hiw,hii⟩ h0
      ·rw[q4 ii n 0 len rfl z hz];exact h1
 refine main ops.size _ _ _ ⟨by simp,fun j oj _ hl=>(by rw[getD_replicate_false]at hl;cases hl),fun t h1 h2=>absurd h2 (by omega)⟩ ?_ ?_
 ·rw[hsize];exact Bc CB (by simp)
 ·refine⟨({ C with H:=HD Hf wf L.length (D (Array.replicate ops.size false)) }:Ctx).dr,rfl,rfl,hx0.trans (FW _),Mk hR0,hs.1,rfl,fun j hj _ x hx1 _=>?_,fun t p v g1 g2=>?_⟩
  ·show C.ρ x=none
   refine hRH.GC ?_;have:=hmono 0 j (by omega) (by omega);rw[e2]at this;omega
  ·have:DR L S pf (D (Array.replicate ops.size false)) L.length t=S[t]?:=by
    rw[D7 0 L.length (by omega) fun j _ _ _ hDj=>hD0 j hDj];rfl
   rw[this]at g1;exact((hs.2 t p v g1 g2).mono hx0).mono (FW _)
theorem Ps{E:Env}{ex:Ex}{S:List PV}{H H':List Row}{o:Oper}{p:PV}(h:Ww P E ex S H o=some (p,H')):H'=H/\HK P E ex S H o=some (p,H):=by
 unfold Ww at h;split at h
 ·rename_i q H1 hs;split at h
  ·rename_i hl;cases h;rcases MI hs with rfl |⟨r,rfl⟩
   ·exact⟨rfl,hs⟩
   ·simp at hl
  ·cases h
 ·cases h
theorem WI{E:Env}(hE:CG P E){ex:Ex}(hX:Ej P E ex){ro id pv:Nat}{ops:Array Oper}{S S':List PV}{H H':List Row}(hok:GF P ops.toList=true)
  (hpv:Nx (DO ops.toList []) ops.size pv=true) (h:K4 (K5 P E ex ro pv) ops 0 ops.toList S H=some (S',H')):ET P (.region id ops true) ro S H .normal S' H':=by
 obtain⟨Sf,Hf,pf,e1,e2,e3,e4,hone⟩:=UN ops.toList 0 h;generalize hL:ops.toList=L at *;have hget:∀ j,ops[j]? = L[j]?:=fun j=>by rw[<- hL,AL]
 have hsize:ops.size=L.length:=by rw[<- hL];simp
 simp only[GF,Aa]at hok;obtain⟨⟨hmix,_⟩,hall⟩:=hok
 have hchk:∀(j:Nat) o,L[j]? = some o->(∀ e,e∈o.after->Region.binds .any e=true->e.on<j)/\∀(i:Nat) q,L[i]? = some q->i<j->q.apart ops o=true\/Reach L j i:=by
  intro j o ho;have h1:=Ao.1 hall (o,j) (by rw[A6];simpa using ho);simp only[Aa]at h1;refine⟨fun e he hb=>?_,fun i q hq hij=>?_⟩
  ·have:=BN.1 h1.1 e he;simpa [hb] using this
  ·have h2:=Ao.1 h1.2 (q,i) (by rw[A6];simpa using hq);simp only[A2,Am,AQ]at h2;rcases h2 with (h2 |h2) |h2
   ·exact absurd hij h2
   ·refine .inl ?_;have:L.toArray=ops:=by rw[<- hL]
    rwa [this]at h2
   ·exact .inr (DG L [] (by simp) (fun j i hb=>by simp at hb) j i h2)
 have hlen:∀ j,j<=L.length->(Sf j).length=S.length:=by
  intro j;induction j with
  |zero=>intro _;rw[e1]
  |succ j ih=>
   intro hj;have ho:L[j]? = some (L[j]'(by omega)):=Ae _;rw[(hone j _ ho).1];have:=ih (by omega);cases(L[j]'(by omega)).dst <;> simp[D6,this]
 simp only[Nx,Aa,Ab]at hpv;obtain⟨hpl,hpo⟩:=hpv;rw[hsize]at hpl;have hord:∀ j,j<L.length->j≠pv->Reach L pv j\/Reach L j pv:=by
  intro j hj hne;have:=Ao.1 hpo j (Bo.2 (by rw[hsize];exact hj));simp only[A2,Ay]at this;rcases this with (h1 |h1) |h1
  ·exact absurd h1 hne
  ·exact .inl (DG L [] (by simp) (fun j i hb=>by simp at hb) pv j h1)
  ·exact .inr (DG L [] (by simp) (fun j i hb=>by simp at hb) j pv h1)
 have hdown:∀ j i,Reach L j i->i<j:=by
  intro j i hr;induction hr with
  |one ho he hb=>exact(hchk _ _ ho).1 _ he hb
  |more ho he hb _ ih=>have:=(hchk _ _ ho).1 _ he hb;omega
 have hkeep:∀ j,j<L.length->j≠pv->Hf (j+1)=Hf j:=by
  intro j hj hne;have ho:L[j]? = some (L[j]'hj):=Ae _;rcases(hone j _ ho).2 with ⟨_,_,h2⟩ |⟨_,h2⟩
  ·exact h2
  ·rw[AM]at h2;unfold K5 at h2;rw[Aq hne]at h2;exact(Ps h2).1
 have hbef:∀ j,j<=pv->Hf j=H:=by
  intro j;induction j with
  |zero=>intro _;exact e2
  |succ j ih=>intro hj;rw[hkeep j (by omega) (by omega),ih (by omega)]
 have haft:∀ d,pv+1+d<=L.length->Hf (pv+1+d)=Hf (pv+1):=by
  intro d;induction d with
  |zero=>intro _;rfl
  |succ d ih=>intro hd;rw[<- B3,hkeep _ (by omega) (by omega),ih (by omega)]
 have hbeh:∀ j,pv<j->j<=L.length->Hf j=H':=by
  intro j h1 h2;have a1:=haft (j-(pv+1)) (by omega);have a2:=haft (L.length-(pv+1)) (by omega);rw[show pv+1+(j-(pv+1))=j by omega]at a1;rw[show pv+1+(L.length-(pv+1))=L.length by omega,e4]at a2;rw[a1,<- a2]
 have hslots:=Iw (L:=L) (S:=S) (pf:=pf) e1 hlen fun j o ho=>(hone j o ho).1
 intro r C a hH hro hR hs _ Q hQ;refine wpIn_region_any hmix ?_
 let D:Array Bool->Nat->Prop:=fun listed j=>listed.getD j false=true
 let Inv:Array Bool->Act->World->Prop:=fun listed a1 w=>∃ C1:Ctx,C1.w=w/\((¬D listed pv/\C1.H=H)\/(D listed pv/\C1.H=H'))/\Ext C C1/\RH P C1/\a1.tmps.size=S.length/\a1.defers=a.defers /\
  (∀ t p v,DR L S pf (D listed) L.length t=some p->a1.tmps[t]? = some v->RV P C1 p v)
 have final:∀ listed a1 w,(∀ j,j<L.length->D listed j)->Inv listed a1 w->Q .normal a1 w:=by
  rintro listed a1 w hd ⟨C1,rfl,h1,h2,h3,h4,h5,h7⟩
  have h1:C1.H=H':=by
   rcases h1 with ⟨h1,_⟩ |⟨_,h1⟩
   ·exact absurd (hd pv hpl) h1
   ·exact h1
  refine hQ a1 C1 (.of_eq h5) h1 h2 h3 ⟨by rw[h4,<- e3,hlen _ (Al _)],fun t p v g1 g2=>h7 t p v ?_ g2⟩;rw[DP (D':=fun _=>True) _ fun j hj _=>⟨fun _=>trivial,fun _=>hd j hj⟩,hslots _ (Al _),e3];exact g1
 have hready:∀ listed,HeadInv .any ops ops.size listed->Region.ready .any ops listed=[]->∀ j,j<L.length->D listed j:=by
  intro listed hinv hnil j;induction j using Nat.strongRecOn with
  |_ j ih=>
   intro hj;by_cases hDj:D listed j
   ·exact hDj
   ·exfalso
    have ho:L[j]? = some (L[j]'hj):=Ae _;have hlj:j<listed.size:=by rw[hinv.size,hsize];exact hj
    have:j∈Region.ready .any ops listed:=mem_ready.2 ⟨getD_in hlj (by simpa [D] using hDj),L[j]'hj,by rw[hget];exact ho,fun e he hb=>by
     have hlt:=(hchk j _ ho).1 e he hb;exact ih e.on hlt (by omega)⟩
    rw[hnil]at this;cases this
 have main:∀ fuel listed a1 w,HeadInv .any ops ops.size listed->(List.range L.length).countP (fun j=>!listed.getD j false)<=fuel->Inv listed a1 w->wpAnyIn (Fr r) 0 P .any ops Q fuel listed a1 w:=by
  intro fuel;induction fuel with
  |zero=>
   intro listed a1 w hinv hc hI;have hd:∀ j,j<L.length->D listed j:=by
    intro j hj;by_cases hDj:D listed j
    ·exact hDj
    ·exfalso
     have:0<(List.range L.length).countP (fun j=>!listed.getD j false):=CI.2 ⟨j,Bo.2 hj,by simpa [D] using hDj⟩;omega
   refine⟨?_,final listed a1 w hd hI⟩;cases hr:Region.ready .any ops listed with
   |nil=>rfl
   |cons x xs=>
    exfalso
    have hx:x∈Region.ready .any ops listed:=by rw[hr];simp
    obtain⟨h1,o,ho,_⟩:=mem_ready.1 hx;have hxl:x<L.length:=by rw[hget]at ho;exact(Ad.1 ho).1
    have h9:listed.getD x false=true:=hd x hxl;rw[getD_both h1]at h9;cases h9
  |succ fuel ih=>
   intro listed a1 w hinv hc hI;refine⟨fun hnil=>final listed a1 w (hready listed hinv hnil) hI,fun i hi=>?_⟩;obtain⟨h1,o,ho,hedges⟩:=mem_ready.1 hi;have hoL:L[i]? = some o:=by rw[<- hget];exact ho
   have hiL:i<L.length:=(Ad.1 hoL).1;have hnD:¬D listed i:=by show ¬listed.getD i false=true;rw[getD_both h1];simp
   have hil:i<listed.size:=by rw[hinv.size,hsize];exact hiL
   have hclosed:∀ j o e,L[j]? = some o->D listed j->e∈o.after->Region.binds .any e=true->D listed e.on:=fun j o e hj hDj he hb=>hinv.closed j o (by rw[hget];exact hj) hDj e he hb
   have hpreds:∀ j,Reach L i j->D listed j:=fun j hr=>hr.ready hclosed fun o' e ho' he hb=>by
    have:o'=o:=Ah (ho'.symm.trans hoL);subst this;exact hedges e he hb
   have hsuccs:∀ j,Reach L j i->¬D listed j:=fun j hr hDj=>hnD (hr.closed hclosed hDj)
   have hinv':=hinv.set hi (by rw[hsize];exact hiL);have hcount:(List.range L.length).countP (fun j=>!(listed.setIfInBounds i true).getD j false)<=fuel:=by
    have:=countP_set (p:=fun j=>!listed.getD j false) (q:=fun j=>!(listed.setIfInBounds i true).getD j false) (i:=i) (Cw (n:=L.length)) (Bo.2 hiL)
     (by simp only[Am];exact getD_both h1) (by simp[hil]) (fun j hj=>by simp only[getD_set_ne false (fun e=>hj e.symm)])
    omega
   have hD':∀ j,D (listed.setIfInBounds i true) j ↔ D listed j\/j=i:=by
    intro j;by_cases hji:j=i
    ·subst hji;simp[D,hil]
    ·simp only[D,getD_set_ne false (fun e=>hji e.symm),hji,Cu]
   obtain⟨C1,rfl,c1,c2,c3,c4,c5,c7⟩:=hI;have hHi:C1.H=Hf i:=by
    rcases Co i pv with hlt |heq |hgt
    ·rcases c1 with ⟨_,c1⟩ |⟨c0,_⟩
     ·rw[c1,hbef i (by omega)]
     ·rcases hord i hiL (by omega) with hr |hr
      ·exact absurd (hr.closed hclosed c0) hnD
      ·have:=hdown _ _ hr;omega
    ·subst heq;rcases c1 with ⟨_,c1⟩ |⟨c0,_⟩
     ·rw[c1,hbef i (by omega)]
     ·exact absurd c0 hnD
    ·rcases c1 with ⟨c0,_⟩ |⟨_,c1⟩
     ·rcases hord i hiL (by omega) with hr |hr
      ·have:=hdown _ _ hr;omega
      ·exact absurd (hpreds pv hr) c0
     ·rw[c1,hbeh i hgt (by omega)]
   have hnext:(¬D (listed.setIfInBounds i true) pv/\Hf (i+1)=H)\/(D (listed.setIfInBounds i true) pv/\Hf (i+1)=H'):=by
    rcases Co i pv with hlt |heq |hgt
    ·refine .inl ⟨fun hh=>?_,hbef (i+1) (by omega)⟩;rcases(hD' pv).1 hh with hh |hh
     ·rcases hord i hiL (by omega) with hr |hr
      ·exact hnD (hr.closed hclosed hh)
      ·have:=hdown _ _ hr;omega
     ·omega
    ·exact .inr ⟨(hD' pv).2 (.inr heq.symm),hbeh (i+1) (by omega) (by omega)⟩
    ·refine .inr ⟨(hD' pv).2 (.inl ?_),hbeh (i+1) (by omega) (by omega)⟩;rcases hord i hiL (by omega) with hr |hr
     ·have:=hdown _ _ hr;omega
     ·exact hpreds pv hr
   have hread:∀ t∈o.looksAt ops,∀ p v,(Sf i)[t]? = some p->a1.tmps[t]? = some v->RV P C1 p v:=by
    intro t ht p v g1 g2;refine c7 t p v ?_ g2;rw[D7 i L.length (by omega) fun j hij hjn hd=>?_,DP (D':=fun _=>True) i fun j hj hd=>⟨fun _=>trivial,fun _=>?_⟩,hslots i (by omega)]
    ·exact g1
    ·-- a writer before
     obtain⟨q,hq,hqd⟩:=AH.1 hd;rcases(hchk i o hoL).2 j q hq hj with hap |hr
     ·exact absurd ht ((Oper.apart_spec hap).1 t hqd)
     ·exact hpreds j hr
    ·-- a writer behind
     by_cases hji:j=i
     ·subst hji;exact hnD
     ·obtain⟨q,hq,hqd⟩:=AH.1 hd;rcases(hchk j q hq).2 i o hoL (by omega) with hap |hr
      ·exact absurd ht ((Oper.apart_spec hap).2.2 t hqd)
      ·exact hsuccs j hr
   have hopnd:∀ x∈o.op.operands,RV P C1 (ev (Sf i) x) (a1.eval x):=by
    intro x hx;cases x with
    |tmp t=>
     have ht:t∈o.looksAt ops:=by
      simp only[Oper.looksAt];exact BT _ (BZ.2 ⟨.tmp t,by simpa using hx,rfl⟩)
     show RV P C1 ((Sf i).getD t (.val undef)) (a1.tmps.getD t undef)
     have hl:=hlen i (by omega);by_cases htl:t<S.length
     ·have g1:(Sf i)[t]? = some ((Sf i)[t]'(by rw[hl];exact htl)):=Ae _;have g2:a1.tmps[t]? = some (a1.tmps[t]'(by rw[c4];exact htl)):=AD _;have:=hread t ht _ _ g1 g2;simpa [List.getD,Array.getD,htl,hl,c4] using this
     ·have g1:(Sf i).getD t (.val undef)=.val undef:=by simp[List.getD,List.getElem?_eq_none (show(Sf i).length<=t by rw[hl];exact Nat.le_of_not_lt htl)]
      have g2:a1.tmps.getD t undef=undef:=by simp[Array.getD,c4,htl]
      rw[g1,g2];exact .val
    |const v=>exact .val
    |global g=>exact .val
    |func f=>exact .fn rfl rfl (fun j c v h=>by simp at h) (fun j c v h=>by simp at h)
   have hwrite:∀(C2:Ctx) (v:Value),C2.H=Hf (i+1)->Ext C1 C2->RH P C2->RV P C2 (pf i) v ->
     wpAnyIn (Fr r) 0 P .any ops Q fuel (listed.setIfInBounds i true) (a1.put o.dst v) C2.w:=by
    intro C2 v k1 k2 k3 k4;refine ih _ _ _ hinv' hcount ⟨C2,rfl,by rw[k1];exact hnext,c2.trans k2,k3,?_,?_,fun t p u g1 g2=>?_⟩
    ·cases o.dst <;> simp[Act.put,c4]
    ·cases o.dst <;> exact c5
    ·by_cases hdt:o.dst=some t
     ·-- its own slot
      have htl:t<S.length:=by
       have h9:=(At.1 g2).1;rw[hdt]at h9;simp only[Act.put,Ct,c4]at h9;exact h9
      have hself:DR L S pf (D (listed.setIfInBounds i true)) L.length t=some (pf i):=by
       rw[D7 (i+1) L.length (by omega) fun j hij hjn hd=>?_]
       ·simp only[DR];rw[Ak ⟨(hD' i).2 (.inr rfl),by simp[hoL,hdt],htl⟩]
       ·obtain⟨q,hq,hqd⟩:=AH.1 hd;intro hDj;rcases(hD' j).1 hDj with hDj |hji
        ·rcases(hchk j q hq).2 i o hoL (by omega) with hap |hr
         ·exact(Oper.apart_spec hap).2.1 t hdt hqd
         ·exact hsuccs j hr hDj
        ·omega
      rw[hself]at g1;cases g1;rw[hdt]at g2;simp only[Act.put]at g2;rw[AW,Ak rfl]at g2;split at g2
      ·cases g2;exact k4
      ·cases g2
     ·-- another's
      have hsame:DR L S pf (D (listed.setIfInBounds i true)) L.length t=DR L S pf (D listed) L.length t:=by
       refine DP _ fun j hj hd=>?_
       rw[hD' j];refine⟨fun hh=>hh.resolve_right fun e=>?_,fun hh=>.inl hh⟩;subst e;rw[hoL]at hd;exact hdt hd
      rw[hsame]at g1;have g3:a1.tmps[t]? = some u:=by
       cases hod:o.dst with
       |none=>rw[hod]at g2;exact g2
       |some d=>
        rw[hod]at g2 hdt;simp only[Act.put]at g2;rw[AW,Aq (fun e=>hdt (by rw[e]))]at g2;exact g2
      exact(c7 t p u g1 g3).mono k2
   unfold wpOpIn;simp only[ho];obtain⟨_,hcase⟩:=hone i o hoL;rcases hcase with ⟨hg,hp,hHe⟩ |⟨hg,hst⟩
   ·have hw:=EZ (by rw[c4,hlen i (by omega)]) hread hg;rw[hw,Aq (by simp)];exact⟨fun _ _=>trivial,hwrite C1 undef (by rw[hHi,hHe]) (.refl C1) c3 (by rw[hp];exact .val)⟩
   ·have hw:=EZ (by rw[c4,hlen i (by omega)]) hread hg;rw[hw,Ak rfl];rw[AM]at hst;unfold K5 at hst;by_cases hip:i=pv
    ·rw[Ak hip,<- hHi]at hst;refine Pq hE hX (S:=Sf i) c3 (by rw[c2.ro];exact hro) ⟨by rw[c4,hlen i (by omega)],fun t p v g1 g2=>c7 t p v ?_ g2⟩ hst fun v C' hct=>hwrite C' v hct.H hct.ext hct.rh hct.rv
     rw[D7 i L.length (by omega) fun j hij hjn hd=>?_,DP (D':=fun _=>True) i fun j hj hd=>⟨fun _=>trivial,fun _=>?_⟩,hslots i (by omega)]
     ·exact g1
     ·rcases hord j (by omega) (by omega) with hr |hr
      ·exact hpreds j (by rw[hip];exact hr)
      ·have:=hdown _ _ hr;omega
     ·by_cases hji:j=i
      ·subst hji;exact hnD
      ·rcases hord j (by omega) (by omega) with hr |hr
       ·have:=hdown _ _ hr;omega
       ·exact hsuccs j (by rw[hip];exact hr)
    ·rw[Aq hip]at hst;obtain⟨hHe,hst⟩:=Ps hst;rw[<- hHi]at hst;exact K9 hE hX c3 c3.ro (A_) (A_) (fun x hx1 hx2=>by omega) hopnd hst fun v C' k1 k2 k3 k4 k5 _=>hwrite C' v (by rw[k1,hHe,hHi]) k2 k3 k4
 refine main ops.size _ _ _ ⟨by simp,fun j oj _ hl=>(by rw[getD_replicate_false]at hl;cases hl),fun t h1 h2=>absurd h2 (by omega)⟩ ?_ ?_
 ·rw[hsize];exact Bc CB (by simp)
 ·refine⟨C.dr,rfl,.inl ⟨(fun hj=>by simp only[D,getD_replicate_false]at hj;cases hj),hH⟩,FW C,Mk hR,hs.1,rfl,fun t p v g1 g2=>?_⟩;have:DR L S pf (D (Array.replicate ops.size false)) L.length t=S[t]?:=by
   rw[D7 0 L.length (by omega) fun j _ _ _ hDj=>by
    simp only[D,getD_replicate_false]at hDj;cases hDj]
   rfl
  rw[this]at g1;exact(hs.2 t p v g1 g2).mono (FW C)
structure dt(C C':Ctx):Prop where
 size:C.w.heap.size<=C'.w.heap.size
 nb:∀ b,¬C.KI b->b<C.w.heap.size->¬C'.KI b/\C'.w.heap[b]? = C.w.heap[b]?
 shape:∀(b:Nat) c e fr,C.w.heap[b]? = some (.cells c e fr)->∃ c' fr',C'.w.heap[b]? = some (.cells c' e fr')/\c'.size=c.size
 len:C.H.length<=C'.H.length
 rows:∀ i r',i<C.H.length->C'.row? i=some r'->∃ r,C.row? i=some r/\r.s=r'.s/\r.t=r'.t/\r.es.length<=r'.es.length/\(r.es.length=r'.es.length->r.nl=r'.nl/\∀ b,C.ρ i=some b->C'.ρ i=some b)
 lp:∀(i:Nat) r info,C.H[i]? = some r->r.lp=some info->r.live=false->(∃ r' st,C'.H[i]? = some r'/\r'.lp=some ⟨info.k,st⟩/\r'.live=false)/\∀ b,C.ρ i=some b->C'.ρ i=some b
theorem dt.cell{C C':Ctx}(h:dt C C'){b:Nat}(hb:¬C.KI b)(hlt:b<C.w.heap.size)(x:Nat):C'.w.cell? ⟨b,x,none⟩=C.w.cell? ⟨b,x,none⟩:=by
 simp only[World.cell?,(h.nb b hb hlt).2]
theorem E4.E0{C C':Ctx}(h:dt C C'){i k cap:Nat}{r r':Row}{a:Option Addr}(hs:r.s=r'.s)(hel:r.es.length=r'.es.length)(hρ:r.nl=r'.nl/\∀ b,C.ρ i=some b->C'.ρ i=some b)(hh:E4 C i r k a cap):E4 C' i r' k a cap:=by
 unfold E4 at *;rw[<- hρ.1,<- hs];split at hh
 ·rename_i hn;rw[Ak hn];exact hh
 ·rename_i hn;rw[Aq hn];obtain⟨b,h0,h1,c,e,fr,h2,h3⟩:=hh;obtain⟨c',fr',h4,h5⟩:=h.shape _ c e fr h2;exact⟨b,hρ.2 b h0,h1,c',e,fr',h4,by omega,by omega⟩
theorem RV.E0{C C':Ctx}(h:dt C C'){p:PV}{V:Value}(hv:RV P C p V):RV P C' p V:=by
 induction hv with
 |any=>exact .any
 |val=>exact .val
 |ptr hV hk hi hn hh=>
  refine .ptr hV hk (AA hi h.len) (fun r' hr'=>?_) fun r' hr' hl=>?_
  ·obtain⟨r,a1,a2,_,a4,a5⟩:=h.rows _ r' hi hr';exact Bc (hn r a1) a4
  ·obtain⟨r,a1,a2,_,a4,a5⟩:=h.rows _ r' hi hr';have:=hn r a1;obtain⟨b,hb,hV⟩:=hh r a1 (by omega);exact⟨b,(a5 (by omega)).2 b hb,by rw[hV,a2]⟩
 |EF cv hb hlt hc hr ht ih=>
  exact .EF cv (h.nb _ hb hlt).1 (AA hlt h.size) (fun x p hx=>by rw[h.cell hb hlt];exact hc x p hx) ih ht
 |sl hV hi hn hh=>
  refine .sl hV (AA hi h.len) (fun r' hr'=>?_) fun r' hr' hl=>?_
  ·obtain⟨r,a1,a2,_,a4,a5⟩:=h.rows _ r' hi hr';exact Bc (hn r a1) a4
  ·obtain⟨r,a1,a2,_,a4,a5⟩:=h.rows _ r' hi hr';have:=hn r a1;obtain⟨hk,a,cap,hV,hc,hs⟩:=hh r a1 (by omega);exact⟨hk,a,cap,hV,hc,hs.E0 h a2 (by omega) (a5 (by omega))⟩
 |C9 b off cv hcap hfull ha hc hr ht ih=>
  refine .C9 b off cv hcap hfull (fun h0=>?_) (fun x e j p hx hj=>?_) ih ht
  ·obtain⟨h1,h2,h3⟩:=ha h0;exact⟨h1,(h.nb _ h2 h3).1,AA h3 h.size⟩
  ·have hx':x<_:=(Ad.1 hx).1;obtain⟨h1,h2,h3⟩:=ha (by omega);rw[h.cell h2 h3];exact hc x e j p hx hj
 |agg hs _ ih=>exact .agg hs ih
 |El hs _ ih=>exact .El hs ih
 |fn h1 h2 _ _ ih3 ih4=>exact .fn h1 h2 ih3 ih4
 |Kp _ ih=>exact .Kp ih
 |Ih hi hl hb=>
  obtain⟨r,info,h1,h2,h3⟩:=hl;obtain⟨⟨r',st,a1,a2,a3⟩,a4⟩:=h.lp _ r info h1 h2 h3;exact .Ih (AA hi h.len) ⟨r',_,a1,a2,a3⟩ (a4 _ hb)
 |mp hi hl hb=>
  obtain⟨r,info,h1,h2,h3,h5⟩:=hl;obtain⟨⟨r',st,a1,a2,a3⟩,a4⟩:=h.lp _ r info h1 h2 h3;exact .mp (AA hi h.len) ⟨r',_,a1,a2,a3,h5⟩ (a4 _ hb)
 |bad hb=>exact .bad (hb.tr fun x v h1 h2 h3=>⟨(h.nb _ h1 h2).1,AA h2 h.size,by rw[h.cell h1 h2];exact h3⟩)
 |Lx hp _ ih=>exact .Lx hp ih
 |gv hb hlt hc hV=>exact .gv (h.nb _ hb hlt).1 (AA hlt h.size) (by rw[h.cell hb hlt];exact hc) hV
theorem FV.E0{C C':Ctx}{S:List PV}{t:Array Value}(h:dt C C')(hs:FV P C S t):FV P C' S t:=
 ⟨hs.1,fun i p v h1 h2=>(hs.2 i p v h1 h2).E0 h⟩
theorem Mi.E0{C C':Ctx}(h:dt C C'){b:Nat}{info:FD}(hb:C'.w.heap[b]? = C.w.heap[b]?)(hr:Mi P C b info):Mi P C' b info:=by
 obtain⟨⟨rec,h1,h2,h3,h4,h5,h6⟩,ha,hbd⟩:=hr;exact⟨⟨rec,by rw[hb,h1],h2,h3,h4,h5.E0 h,h6⟩,ha,hbd⟩
theorem FJ.E0{C C':Ctx}(h:dt C C'){b:Nat}{info:FD}(hb:C'.w.heap[b]? = C.w.heap[b]?)(hr:FJ P C b info):FJ P C' b info:=
 hr.via (fun _ _ _ hv=>hv.E0 h) (fun _ hs=>hs.E0 h) (fun h'=>h'.E0 h hb) (fun _ _ h'=>by rw[hb,h'])
theorem lk.E0{C C':Ctx}(h:dt C C')(hg:lk P C):lk P C':=fun g hl=>by
 obtain⟨h1,h2,t,a,h3,h4⟩:=hg g hl;exact⟨(h.nb _ h1 h2).1,AA h2 h.size,t,a,by rw[h.cell h1 h2];exact h3,h4⟩
theorem RB.E0{C C':Ctx}(h:dt C C'){b:Nat}{r:Row}(hb:C'.w.heap[b]? = C.w.heap[b]?)(hr:RB P C b r):RB P C' b r:=by
 obtain⟨c,fr,cv,h1,h2,h3,h4⟩:=hr.mem;exact⟨hr.sz,⟨c,fr,cv,by rw[hb,h1],h2,h3,fun k e j p hk hj=>⟨(h4 k e j p hk hj).1,(h4 k e j p hk hj).2.E0 h⟩⟩,hr.len,hr.typed⟩
def Ctx.Iq(C:Ctx)(o:Obj):Ctx:={ ρ:=C.ρ,H:=C.H,w:=C.w.alloc o,fo:=fun x=>C.fo x\/x=C.w.heap.size,ro:=C.ro }
theorem WJ(_:RH P C)(o:Obj):dt C (C.Iq o) where
 size:=by simp[Ctx.Iq]
 nb b hb hlt:=by
  refine⟨fun h=>?_,AY C.w o hlt⟩;rcases h with h |h |h
  ·exact hb (.inl h)
  ·exact hb (.inr h)
  ·omega
 shape b c e fr h:=⟨c,fr,by rw[<- h];exact AY C.w o (At.1 h).1,rfl⟩
 len:=Al _
 rows i r' _ h:=⟨r',h,rfl,rfl,Al _,fun _=>⟨rfl,fun _ h=>h⟩⟩
 lp i r info h1 h2 h3:=⟨⟨r,info.st,h1,h2,h3⟩,fun _ h=>h⟩
theorem mh(hR:RH P C)(o:Obj):RH P (C.Iq o):=by
 have hx:=WJ hR o;refine⟨hR.inj,hR.Ly,fun i b r h1 h2=>(hR.GP i b r h1 h2).E0 hx (AY C.w o (hR.lt h1)),hR.ro,fun i b hb hf=>?_,fun b hb=>?_,fun i b r info h1 h2 h3 h4=>(hR.Ii i b r info h1 h2 h3 h4).E0 hx (AY C.w o (hR.lt h1)),hR.LQ.E0 hx⟩
 ·rcases hf with hf |hf
  ·exact hR.IU i b hb hf
  ·have:=hR.lt hb;omega
 ·have hs:=hx.size;have hs2:(C.Iq o).w.heap.size=C.w.heap.size+1:=by simp[Ctx.Iq]
  rcases hb with hb |hb
  ·have:=hR.Kq b hb;omega
  ·omega
def Ctx.forth(C:Ctx)(F:Nat->Prop)(b:Nat)(r:Row):Ctx:={ ρ:=fun x=>if x=C.H.length then some b else C.ρ x,H:=C.H++[r],w:=C.w,fo:=F,ro:=C.ro }
theorem LI{F:Nat->Prop}{b:Nat}{r:Row}{i:Nat}(hi:i<C.H.length):(C.forth F b r).row? i=C.row? i:=D5 hi
theorem TQ(_:RH P C){F:Nat->Prop}{b:Nat}(r:Row)(hF:∀ x,C.fo x ↔ F x\/x=b):dt C (C.forth F b r) where
 size:=Al _
 nb x hx hlt:=by
  refine⟨fun h=>?_,rfl⟩;rcases h with ⟨i,hi⟩ |h
  ·simp only[Ctx.forth]at hi;split at hi
   ·cases hi;exact hx (.inr ((hF b).2 (.inr rfl)))
   ·exact hx (.inl ⟨i,hi⟩)
  ·exact hx (.inr ((hF x).2 (.inl h)))
 shape x c e fr h:=⟨c,fr,h,rfl⟩
 len:=by simp[Ctx.forth]
 rows i r' hi h:=by
  rw[LI hi]at h;exact⟨r',h,rfl,rfl,Al _,fun _=>⟨rfl,fun y hy=>by simp only[Ctx.forth];rw[Aq (by omega)];exact hy⟩⟩
 lp i q info h1 h2 h3:=by
  have hi:i<C.H.length:=(Ad.1 h1).1;exact⟨⟨q,info.st,by show(C.H++[r])[i]? = _;rw[Aw hi];exact h1,h2,h3⟩,fun y hy=>by simp only[Ctx.forth];rw[Aq (by omega)];exact hy⟩
theorem gi(hR:RH P C){F:Nat->Prop}{b:Nat}{r:Row}(hF:∀ x,C.fo x ↔ F x\/x=b)(hn:¬F b)(hr:r.live=true)(hB:RB P C b r):RH P (C.forth F b r):=by
 have hx:=TQ hR r hF;have hb:C.fo b:=(hF b).2 (.inr rfl);have hnew:(C.forth F b r).H[C.H.length]? = some r:=by simp[Ctx.forth]
 have hrow:(C.forth F b r).row? C.H.length=some r:=by
  show rowAt (C.H++[r]) C.H.length=some r
  unfold rowAt;simp[hr]
 have Pd:∀{i x},(C.forth F b r).ρ i=some x->(i=C.H.length/\x=b)\/(i<C.H.length/\C.ρ i=some x):=by
  intro i x h;simp only[Ctx.forth]at h;split at h
  ·rename_i e;cases h;exact .inl ⟨e,rfl⟩
  ·exact .inr ⟨hR.KS h,h⟩
 refine⟨fun i j x h1 h2=>?_,fun i x h=>?_,fun i x q h1 h2=>?_,?_,fun i x h=>?_,fun x h=>hR.Kq x ((hF x).2 (.inl h)),fun i x q info h1 h2 h3 h4=>?_,hR.LQ.E0 hx⟩
 ·rcases Pd h1 with ⟨a1,a2⟩ |⟨a1,a2⟩ <;> rcases Pd h2 with ⟨b1,b2⟩ |⟨b1,b2⟩
  ·omega
  ·subst a2;exact absurd hb (hR.IU j _ b2)
  ·subst b2;exact absurd hb (hR.IU i _ a2)
  ·exact hR.inj i j x a2 b2
 ·rcases Pd h with ⟨a1,a2⟩ |⟨a1,a2⟩
  ·subst a1;exact .inl ⟨r,hrow⟩
  ·rcases hR.Ly i x a2 with ⟨q,hq⟩ |⟨q,info,g1,g2,g3⟩
   ·exact .inl ⟨q,by rw[LI a1];exact hq⟩
   ·exact .inr ⟨q,info,by show(C.H++[r])[i]? = _;rw[Aw a1];exact g1,g2,g3⟩
 ·rcases Pd h1 with ⟨a1,a2⟩ |⟨a1,a2⟩
  ·subst a1 a2;rw[hrow]at h2;cases h2;exact hB.E0 hx rfl
  ·rw[LI a1]at h2;exact(hR.GP i x q a2 h2).E0 hx rfl
 ·have:=hR.ro;show C.ro<=(C.H++[r]).length
  simp only[Ap,BW];omega
 ·rcases Pd h with ⟨a1,a2⟩ |⟨a1,a2⟩
  ·subst a2;exact hn
  ·exact fun hf=>hR.IU i x a2 ((hF x).2 (.inl hf))
 ·rcases Pd h1 with ⟨a1,a2⟩ |⟨a1,a2⟩
  ·subst a1;rw[hnew]at h2;cases h2;rw[hr]at h4;cases h4
  ·have h2':(C.H++[r])[i]? = some q:=h2;rw[Aw a1]at h2';exact(hR.Ii i x q info a2 h2' h3 h4).E0 hx rfl
def Ctx.fw(C:Ctx)(F:Nat->Prop):Ctx:={ C with fo:=F }
theorem Ext.fw{C C':Ctx}(h:Ext C C'){F:Nat->Prop}:Ext (C.fw F) (C'.fw F):=
 ⟨h.os,h.tape,h.output,h.size,h.block,h.shape,h.len,h.rows,h.fresh,h.D8,rfl,h.ro,h.low,h.lp,h.loop⟩
theorem gj(C:Ctx)(o:Obj){F:Nat->Prop}:Ext (C.fw F) ((C.Iq o).fw F):=
 ⟨rfl,rfl,rfl,by simp[Ctx.Iq,Ctx.fw],fun b hb _=>AY C.w o hb,fun b c e fr h=>⟨c,fr,by rw[<- h];exact AY C.w o (At.1 h).1,rfl⟩,Al _,
  fun _ r' _ h=>⟨r',h,rfl,rfl,Al _,fun _=>⟨rfl,fun _ h=>h⟩⟩,fun _ h=>.inl h,fun _ h=>.inl h,rfl,rfl,fun _ _=>⟨rfl,rfl⟩,
  fun _ r info h1 h2 h3=>⟨⟨r,info.st,h1,h2,h3⟩,fun _ h=>h⟩,fun b rec h=>⟨rec,by rw[<- h];exact AY C.w o (At.1 h).1⟩⟩
theorem TR{C C':Ctx}{b:Nat}{r:Row}(h:Ext C (C'.fw C.fo))(hro:C.ro<=C.H.length)(hb:C.w.heap.size<=b):Ext C (C'.forth C.fo b r):=by
 have hl:C.H.length<=C'.H.length:=h.len;refine⟨h.os,h.tape,h.output,h.size,h.block,h.shape,by simp[Ctx.forth];omega,fun i r' hi hr=>?_,fun x hx=>?_,fun x hx=>?_,rfl,h.ro,fun i hi=>?_,fun i q info h1 h2 h3=>?_,h.loop⟩
 ·rw[LI (by omega)]at hr;obtain⟨q,a1,a2,a3,a4,a5⟩:=h.rows i r' hi hr;exact⟨q,a1,a2,a3,a4,fun e=>⟨(a5 e).1,fun y hy=>by simp only[Ctx.forth];rw[Aq (by omega)];exact(a5 e).2 y hy⟩⟩
 ·obtain⟨i,hi⟩:=hx;simp only[Ctx.forth]at hi;split at hi
  ·cases hi;exact .inr hb
  ·exact h.fresh x ⟨i,hi⟩
 ·obtain⟨i,hi0,hi⟩:=hx;simp only[Ctx.forth]at hi hi0;split at hi
  ·cases hi;exact .inr hb
  ·exact h.D8 x ⟨i,hi0,hi⟩
 ·obtain⟨g1,g2⟩:=h.low i hi;refine⟨?_,?_⟩
  ·show(C'.H++[r])[i]? = _
   rw[Aw (by omega)];exact g1
  ·simp only[Ctx.forth];rw[Aq (by omega)];exact g2
 ·obtain⟨⟨q',st,a1,a2,a3⟩,a4⟩:=h.lp i q info h1 h2 h3;have hi:i<C.H.length:=(Ad.1 h1).1;exact⟨⟨q',st,by show(C'.H++[r])[i]? = _;rw[Aw (by omega)];exact a1,a2,a3⟩,fun y hy=>by simp only[Ctx.forth];rw[Aq (by omega)];exact a4 y hy⟩
theorem YK{K:List Nat}{H H':List Row}(h:YB K H H'=true)(x:Nat):rowAt (Is K H H') x=rowAt H x:=by
 unfold rowAt;rw[H8];cases hx:H[x]? with
 |none=>rfl
 |some r=>
  rw[AE];by_cases hk:K.contains x=true
  ·rw[Ak hk];have:=Ao.1 h x (by simpa using hk);rw[hx]at this;cases hx':H'[x]? with
   |none=>rw[hx']at this;cases this
   |some r'=>
    rw[hx']at this;simp only[Aa,Am]at this;rw[Av,hx'];simp[this.1,this.2]
  ·rw[Aq hk]
theorem NJ{H:List Row}{i x:Nat}{r:Row}(h:x≠i):rowAt (H.set i r) x=rowAt H x:=by
 unfold rowAt;rw[B1 (fun e=>h e.symm)]
theorem Pt{ro:Nat}{H H':List Row}{c:Call}{x y p:PV}(h:ES P ro H c x y=some (p,H')):H'=H\/(∃ r,H'=H++[r])\/∃ i n len r,x=.sl i n 0 len/\H'=H.set i r:=by
 unfold ES at h;split at h
 ·split at h
  ·split at h
   ·split at h
    ·split at h
     ·split at h
      ·split at h
       ·cases h;exact .inr (.inr ⟨_,_,_,_,rfl,rfl⟩)
       ·cases h
      ·cases h
     ·cases h
    ·split at h
     ·split at h
      ·cases h;exact .inl rfl
      ·cases h;exact .inr (.inl ⟨_,rfl⟩)
     ·cases h
    ·split at h
     ·split at h
      ·split at h
       ·cases h;exact .inl rfl
       ·cases h;exact .inr (.inl ⟨_,rfl⟩)
      ·cases h
     ·cases h
    ·cases h
   ·cases h
  ·cases h
 ·cases h
theorem YL{E:Env}(hE:CG P E){ex:Ex}{ro h0:Nat}{K:List Nat}{S:List PV}{H H':List Row}{o:Oper}{p:PV}(h:Kt P E ex ro h0 K S H o=some (p,H')):H.length<=H'.length/\∀ x,x<H.length->x<h0->x∉K->rowAt H' x=rowAt H x:=by
 have out:∀ i,xu h0 K i=true->∀ x,x<h0->x∉K->x≠i:=fun i hi x hx hk e=>by
  subst e;simp only[xu,A2,BJ,Ab]at hi;rcases hi with hi |hi
  ·exact hk hi
  ·omega
 unfold Kt at h;split at h
 ·split at h
  ·split at h
   ·rename_i hw;obtain⟨H2,hs,he⟩:=Af.1 h;cases he;obtain⟨r,r2,_,rfl,_⟩:=La hs;exact⟨by simp,fun x _ hx hk=>NJ (out _ hw x hx hk)⟩
   ·cases h
  ·cases h
 ·split at h
  ·split at h
   ·split at h
    ·cases h;exact⟨Al _,fun _ _ _ _=>rfl⟩
    split at h
    ·split at h
     ·rename_i hsm;cases h;have e:=Tx.1 hsm;have hlen:H.length<=H'.length:=by have:=congrArg List.length e;rw[Ox,Ox,Az]at this;omega
      refine⟨hlen,fun x hx _ hk=>?_⟩;unfold rowAt;have e2:=congrArg (fun l=>l[x]?) e;simp only[TM,AM]at e2;rw[show K.contains x=false by simpa using hk,List.getElem?_take_of_lt hx]at e2;simp only[Ar,Option.map_id']at e2;rw[e2]
     ·cases h
    ·cases h
   split at h
   ·split at h
    ·split at h
     ·rename_i hc;cases h;simp only[Aa]at hc;exact⟨by rw[FP];exact Al _,fun x _ _ _=>YK hc.2 x⟩
     ·cases h
    ·cases h
   ·cases h
  ·split at h
   ·cases h;exact⟨by simp,fun x hx _ _=>D5 hx⟩
   ·split at h
    ·rename_i c x y hap;split at h
     ·rename_i hw;split at h
      ·rename_i q hq;split at h
       ·rename_i hk0;cases h;obtain⟨g1,g2⟩:=(MH hE hq).2 _ _ _ hap;refine⟨g1,fun x hx hx0 hk=>g2 x hx fun i n k l hi=>?_⟩;rw[hi]at hw hk0;refine⟨out _ hw x hx0 hk,fun hn=>?_⟩;simp only[YC,hn,Ab]at hk0;omega
       ·cases h
      rcases Pt h with rfl |⟨r,rfl⟩ |⟨i,n,len,r,hx,rfl⟩
      ·exact⟨Al _,fun _ _ _ _=>rfl⟩
      ·exact⟨by simp,fun x hx _ _=>D5 hx⟩
      ·rw[hx]at hw;have hw:xu h0 K i=true:=hw;exact⟨by simp,fun x _ hx hk=>NJ (out _ hw x hx hk)⟩
     ·cases h
    ·split at h
     ·rename_i q H2 hq;split at h
      ·rename_i hl;cases h;exact⟨by rw[hl];exact Al _,fun x _ _ _=>(hE.Fz _ _ _ _ _ _ hq).2 x⟩
      ·cases h
     ·cases h
theorem Eu{K:List Nat}{p:PV}{V:Value}(hv:RV P C p V)(ho:Wv K C.H.length p=true):RV P (C.mask K C.H.length) p V:=by
 have hfree:mlt 0 p=true->RV P (C.mask K C.H.length) p V:=hv.free (fun b hb=>A0 fun hn=>It hn hb) rfl;cases hv with
 |mp hi hl hb=>
  rename_i i b;simp only[Wv,Aa,Ab]at ho;obtain⟨r,info,h1,h2,h3⟩:=hl;have hin:Tj K C.H.length i:=⟨ho.2,ho.1⟩;refine .mp (by rw[Ht (Al _)];exact hi) ⟨r,info,?_,h2,h3⟩ (by simp[Ctx.mask,hin,hb]);simp only[Ctx.mask];rw[Fy,Au,Ak ho.2,h1,AE,Ak ho.1]
 |_=>exact hfree (by simpa [Wv] using ho)
theorem du{K:List Nat}{p:PV}{V:Value}(hv:RV P C p V)(ho:ub K C.H.length p=true):RV P (C.mask K C.H.length) p V:=by
 cases hv with
 |agg hs hh=>exact .agg hs fun j c v h1 h2=>Eu (hh j c v h1 h2) (Ao.1 ho c (Ag h1))
 |any=>exact Eu .any ho
 |val=>exact Eu .val ho
 |ptr a b c d e=>exact Eu (.ptr a b c d e) ho
 |EF a b c d e f=>exact Eu (.EF a b c d e f) ho
 |sl a b c d=>exact Eu (.sl a b c d) ho
 |C9 a b c d e f g i j=>exact Eu (.C9 a b c d e f g i j) ho
 |El a b=>exact Eu (.El a b) ho
 |fn a b c d=>exact Eu (.fn a b c d) ho
 |Kp a=>exact Eu (.Kp a) ho
 |Ih a b c=>exact Eu (.Ih a b c) ho
 |mp a b c=>exact Eu (.mp a b c) ho
 |gv a b c d=>exact Eu (.gv a b c d) ho
 |bad a=>exact Eu (.bad a) ho
 |Lx a b=>exact Eu (.Lx a b) ho
theorem Pu{r:Option Nat}{E:Env}(hE:CG P E){ex:Ex}(hX:Ej P E ex){ro h0:Nat}{K0:List Nat}{S:List PV}{o:Oper}{p:PV}{H':List Row}{a:Act}(hR:RH P C)(hro:C.ro=ro)(hv:∀ x∈o.op.operands,RV P C (ev S x) (a.eval x))
  (h:Kt P E ex ro h0 K0 S C.H o=some (p,H')) {next:Act->World->Prop} {Q:Exit->Act->World->Prop} (hn:∀ v C',C'.H=H'->Ext C C'->RH P C'->RV P C' p v->next (a.put o.dst v) C'.w):o.wpIn (Fr r) 0 P a C.w next Q:=by
 unfold Kt at h;split at h
 ·rename_i T xa xv hst;have hop:o.op=.store T xa xv:=by
   unfold stOp at hst;split at hst
   ·rename_i e;cases hst;exact e
   ·cases hst
  split at h
  ·rename_i i n k j hpa;split at h
   ·obtain⟨H2,h2,he⟩:=Af.1 h;cases he;subst hro;have hA:=hv xa (by rw[hop];simp[Op.operands]);rw[hpa]at hA;obtain⟨C',g1,g2,_⟩:=JU hR hA (hv xv (by rw[hop];simp[Op.operands])) h2;have hrun:(execOp a.eval o).run P C.w=.ok .skip C'.w:=by
     unfold execOp;simp only[hop,Sem.run_bind,g1,Result.andThen_ok,Sem.run_pure]
    exact LD hrun (.inr ⟨rfl,rfl⟩) (hn undef C' g2.H g2.ext g2.rh .val)
   ·cases h
  ·cases h
 split at h
 ·rename_i f' args hwc;split at h
  ·have go:∀{q:PV} {H2:List Row},Rb P E ex ro f' args C.H=some (q,H2)\/Iu P E ex ro f' args C.H=some (q,H2)->q=p->H2=H'->o.wpIn (Fr r) 0 P a C.w next Q:=by
    rintro q H2 hcall rfl rfl
    unfold GY at hwc;split at hwc
    case h_2=>cases hwc
    rename_i c hop;split at hwc
    case h_2=>cases hwc
    rename_i g hcal;split at hwc
    case h_2=>cases hwc
    rename_i f' first cap hgf
    cases hwc;have hgm:g∈o.op.operands:=by rw[hop];simp[Op.operands,Call.operands,hcal]
    have hgv:=hv g hgm;rw[hgf]at hgv;generalize hG:a.eval g=G at hgv;cases hgv with
    | @fn _ _ _ F K q1 q2 q3 q4=>
     have hcs:=NC (a:=a) (S:=S) (xs:=c.args) ⟨q1,q3⟩ ⟨q2,q4⟩ (fun x hx=>hv x (by rw[hop];simp[Op.operands,Call.operands,hcal,hx]));obtain⟨z1,z2⟩:(∀ w,(callFunc f' (F++c.args.map a.eval++K)).run P w=.ok (.enter f' (F++c.args.map a.eval++K)) w)/\Calls P f' (F++c.args.map a.eval++K) C.w fun e w'=>∃ V C',e=.returned V/\C'.w=w'/\HE P C C' H2 q V:=by
      rcases hcall with hcall |hcall
      ·exact Pp (ro:=ro) hE hX hR hro hcs hcall
      ·exact Gj (ro:=ro) hE hX hR hro hcs hcall
     refine ND hop hcal hG z1 z2 fun e w' ⟨V,C',he,hw',hct⟩=>⟨V,he,?_⟩
     subst hw';exact hn V C' hct.H hct.ext hct.rh hct.rv
   split at h
   ·rename_i r0 hr0;obtain⟨h1,h2⟩:=Prod.mk.inj (Ah h);exact go (.inl (by unfold Rb;rw[hr0])) h1 h2
   ·split at h
    ·rename_i q H2 hcall;split at h
     ·obtain⟨h1,h2⟩:=Prod.mk.inj (Ah h);exact go (.inr hcall) h1 h2
     ·cases h
    ·cases h
  split at h
  ·rename_i hc;simp only[Aa,Ab]at hc;obtain⟨⟨hargs,hroC⟩,hokm⟩:=hc;split at h
   ·rename_i q H2 hcall;split at h
    ·rename_i hc2;simp only[Aa]at hc2;obtain⟨⟨hpl,hkm⟩,hdd⟩:=hc2;cases h;have hle:C.H.length<=C.H.length:=Al _;have htk:C.H.take C.H.length=C.H:=A_;have hRm:RH P (C.mask (FB args) C.H.length):=aF hR hle (by rw[hro];exact hroC) (by rw[htk];exact hokm);have hHm:(C.mask (FB args) C.H.length).H=EN (FB args) C.H:=by simp only[Ctx.mask];rw[htk]
     unfold GY at hwc;split at hwc
     case h_2=>cases hwc
     rename_i c hop;split at hwc
     case h_2=>cases hwc
     rename_i g hcal;split at hwc
     case h_2=>cases hwc
     rename_i f' first cap hgf
     cases hwc;have hgm:g∈o.op.operands:=by rw[hop];simp[Op.operands,Call.operands,hcal]
     have hgv:=hv g hgm;rw[hgf]at hgv;generalize hG:a.eval g=G at hgv;cases hgv with
     | @fn _ _ _ F K q1 q2 q3 q4=>
      have hcs:=NC (a:=a) (S:=S) (xs:=c.args) ⟨q1,q3⟩ ⟨q2,q4⟩ (fun x hx=>hv x (by rw[hop];simp[Op.operands,Call.operands,hcal,hx]));have hcm:Cs P (C.mask (FB (first++c.args.toList.map (ev S)++cap)) C.H.length) (first++c.args.toList.map (ev S)++cap) (F++c.args.map a.eval++K):=
       ⟨hcs.1,fun j cc v k1 k2=>du (hcs.2 j cc v k1 k2) (Ao.1 hargs cc (Ag k1))⟩
      obtain⟨z1,z2⟩:=Gj (ro:=ro) hE hX hRm (by show C.ro=ro;exact hro) hcm (by rw[hHm];exact hcall);refine ND hop hcal hG z1 z2 fun e w' ⟨V,C',he,hw',hct⟩=>⟨V,he,?_⟩
      subst hw';have hH2:=hct.H;have hl2:C.H.length<=C'.H.length:=by have:=hct.ext.len;rwa [Ht hle]at this
      refine hn V (C.back C' (FB (first++c.args.toList.map (ev S)++cap)) C.H.length) ?_ (Ou hR hle hct.ext) (Wj hR hle hct.ext hct.rh (by rw[hH2];exact hkm)) (hct.rv.plain hpl);apply Bf
      intro x;rw[GD hle hl2,H8,hH2];by_cases hxl:x<C.H.length
      ·have hx1:C.H[x]? = some C.H[x]:=Ae hxl;have hx2:H2[x]? = some (H2[x]'(by rw[<- hH2];omega)):=Ae _;by_cases hk:(FB (first++c.args.toList.map (ev S)++cap)).contains x=true
       ·rw[Ak ⟨hxl,hk⟩,hx1,AE,Ak hk,Av,hx2];rfl
       ·rw[Aq (fun hh=>hk hh.2),hx1,AE,Aq hk]
      ·rw[Aq (fun hh=>hxl hh.1),AG (by omega)];rfl
    ·cases h
   ·cases h
  ·cases h
 ·split at h
  ·rename_i q r1 hq;cases h;have hx1:=E9 hR r1;have hR1:=Hb hR r1;have hlen:(C.more r1).H.length=C.H.length+1:=by simp[Ctx.more]
   have hlive:r1.live=true:=Jo hq;have hrow:(C.more r1).row? C.H.length=some r1:=by
    show rowAt (C.H++[r1]) C.H.length=some r1
    unfold rowAt;simp[hlive]
   obtain⟨v,C',g1,g2⟩:=Ip (C:=C.more r1) (H:=C.H) (f:=ev S) (g:=a.eval) hR1 (by omega) (hR.GC (Al _)) hR.ro hrow (fun x hx=>(hv x hx).mono hx1) hq;exact D9 g1 (hn v C' (by rw[g2.H];rfl) (hx1.trans g2.ext) g2.rh g2.rv)
  ·split at h
   ·rename_i c x y hap;have hop:o.op=.call c/\c.callee=.builtin .append/\c.args.toList=[x,y]:=by
     unfold UG at hap;split at hap
     ·rename_i e;split at hap
      ·rename_i e2;split at hap
       ·rename_i e3;cases hap;exact⟨e,e2,e3⟩
       ·cases hap
      ·cases hap
     ·cases hap
    obtain⟨hop,hcal,hargs⟩:=hop;have hca:c.args = #[x,y]:=by apply BD;simpa using hargs
    split at h
    ·split at h
     ·rename_i q hq;split at h
      ·cases h;obtain⟨n,v,C',g1,gv,g2,g3⟩:=(MH hE hq).1 C a.eval o rfl hro rfl hR hv;exact LD g1 gv (hn v C' g2.H g2.ext g2.rh g3)
      ·cases h
     subst hro;obtain⟨v,C',g1,g2,g3,_⟩:=F2 hR (hv x (by rw[hop];simp[Op.operands,Call.operands,hca])) (hv y (by rw[hop];simp[Op.operands,Call.operands,hca])) h o.type;refine D9 (v:=v) (w':=C'.w) ?_ (hn v C' g2.H g2.ext g2.rh g3);unfold execOp;simp only[hop,resolve,hcal,hca,Sem.run_bind,Sem.run_pure,Result.andThen_ok,invoke,builtin,BM,AV,Bs,g1]
    ·cases h
   ·split at h
    ·rename_i q H2 hq;split at h
     ·cases h;obtain⟨n,v,C',g1,gv,g2,g3⟩:=(hE.Fz _ _ _ _ _ _ hq).1 C a.eval o rfl hro rfl hR hv;exact LD g1 gv (hn v C' g2.H g2.ext g2.rh g3)
     ·cases h
    ·cases h
theorem dw{E:Env}{ex:Ex}{ro h0:Nat}{K:List Nat}{S:List PV}{H H':List Row}{o:Oper}{p:PV}(h:Kt P E ex ro h0 K S H o=some (p,H'))(he:TL o.op=true):∃ T x k,E.Fz ro H (ev S) (.mapEntry T x k)=some (p,H'):=by
 obtain⟨dst,op,type,pos,after,guard⟩:=o;cases op <;> simp only[TL,A4]at he
 simp only[Kt,stOp,GY,KB,UG]at h;split at h
 ·rename_i q H2 hq;split at h
  ·cases h;exact⟨_,_,_,hq⟩
  ·cases h
 ·cases h
theorem WK{f:Operand->PV}{g:Operand->Value}{o:Oper}{p:PV}(hR:RH P C)(hb:He o.op=true)(hv:∀ x∈o.op.operands,RV P C (f x) (g x))(h:Wt P f o.op=some p):
  ∃ v w',(execOp g o).run P C.w=.ok (.value v) w'/\I8 C.w w'/\RV P (C.at w') p v:=by
 unfold Wt at h;split at h
 ·rename_i n l r hq;split at h
  ·rename_i hc;cases h;simp only[Aa,Ay]at hc;obtain⟨⟨hbv,hn⟩,rfl⟩:=hc;have hq2:KB P C.H f o.op=some (.sl C.H.length l 0 l,r):=by
    generalize o.op=op at hq hb;cases op <;> simp only[He,A4]at hb
    simp only[KB]at hq ⊢;obtain⟨y,hy,he⟩:=Af.1 hq;rw[hy,AE];cases he;rfl
   have hx1:=E9 hR r;have hR1:=Hb hR r;have hlive:r.live=true:=Jo hq2;have hlen:(C.more r).H.length=C.H.length+1:=by simp[Ctx.more]
   have hrow:(C.more r).row? C.H.length=some r:=by
    show rowAt (C.H++[r]) C.H.length=some r
    unfold rowAt;simp[hlive]
   obtain⟨v,C',g1,g2⟩:=Ip (C:=C.more r) (H:=C.H) (f:=f) (g:=g) hR1 (by omega) (hR.GC (Al _)) hR.ro hrow (fun x hx=>(hv x hx).mono hx1) hq2;have hx:=hx1.trans g2.ext;refine⟨v,C'.w,g1,⟨hx.os,hx.tape,hx.output,hx.size,g2.Pd⟩,?_⟩;have hH':C'.H=C.H++[r]:=g2.H;have hle:C.H.length<=C'.H.length:=by rw[hH'];simp
   have hfz:Go.Hx.frz C'.H C.H.length (.sl C.H.length l 0 l)=.C9 false r.t ((r.es.drop 0).take l):=by
    unfold Go.Hx.frz;rw[Ak (Al _),hH'];have:rowAt (C.H++[r]) C.H.length=some r:=hrow;rw[this];dsimp only;rw[Ak (by simp[hbv,hn])]
   have hr:=g2.rv.frz g2.rh (ro:=C.ro) hle (by rw[hfz];rfl);rw[hfz,AF,A7 (by omega)]at hr;have e:C'.cut C.H.length False C.ro=C.at C'.w:=by
    have e1:(fun i=>if i<C.H.length then C'.ρ i else none)=C.ρ:=by
     funext i
     by_cases hi:i<C.H.length
     ·rw[Ak hi,g2.ρ i (by omega)];rfl
     ·rw[Aq hi];exact(hR.GC (by omega)).symm
    have e2:C'.H.take C.H.length=C.H:=by rw[hH'];simp
    have e3:(fun b=>C'.fo b\/(False/\∃ i,C.H.length<=i/\C'.ρ i=some b))=C.fo:=by
     funext b
     rw[show C'.fo=C.fo from hx.fo];simp
    show(⟨_,_,_,_,_⟩:Ctx)=⟨C.ρ,C.H,C'.w,C.fo,C.ro⟩
    rw[e1,e2,e3]
   rw[e]at hr;exact hr
  ·cases h
 ·cases h
theorem WL{E:Env}{ex:Ex}{ro h0:Nat}{K:List Nat}{S:List PV}{H H':List Row}{o:Oper}{p:PV}(h:Kt P E ex ro h0 K S H o=some (p,H'))(he:Nv P o.op=true):
  ∃ T z,o.op=.alloc T/\E8 P T=some z/\Uw (.val z)=true/\z.cells.size=P.cellsOf T/\p=.ptr H.length 1 0 0/\H'=H++[DX P T [.val z]]:=by
 obtain⟨dst,op,type,pos,after,guard⟩:=o;cases op <;> simp only[Nv,A4]at he
 rename_i T;split at he
 ·rename_i z hz;simp only[Kt,stOp,GY,KB,hz]at h;rw[Ak he]at h;cases h;simp only[Aa,Ay]at he;exact⟨T,z,rfl,hz,he.1,he.2,rfl,rfl⟩
 ·cases he
theorem mj{b:Nat}{T:TypeId}{z:Value}(ho:Uw (.val z)=true)(hl:z.cells.size=P.cellsOf T)(hh:C.w.heap[b]? = some (.cells z.cells T (0,0))):RB P C b (DX P T [.val z]):=by
 have hcs:=(RV.val (P:=P) (C:=C) (v:=z)).JR ho;have hlen:(PV.val z).cells.length=P.cellsOf T:=by rw[<- hcs.1,hl]
 refine⟨rfl,⟨z.cells,(0,0),fun _ j=>z.cells.getD j undef,hh,fun _ off _=>by simp,?_,fun k e j p h1 h2=>?_⟩,fun e he=>?_,fun hb e he=>?_⟩
 ·show [PV.val z].length*P.cellsOf T<=_
  simp[hl]
 ·match k with
  |0=>
   have h1':[PV.val z][0]? = some e:=h1;simp at h1';subst h1';have hlt:j<z.cells.size:=by rw[hcs.1];exact(Ad.1 h2).1
   have g:z.cells[j]? = some z.cells[j]:=AD hlt;have g2:z.cells.getD j undef=z.cells[j]:=by rw[Bk,g];rfl
   refine⟨?_,?_⟩
   ·show z.cells[0*_+j]? = some (z.cells.getD j undef)
    rw[g2,CW,AM];exact g
   ·show RV P C p (z.cells.getD j undef)
    rw[g2];exact hcs.2 j p _ h2 g
  |k+1=>
   have h1':[PV.val z][k+1]? = some e:=h1;simp at h1'
 ·have he':e∈[PV.val z]:=he;simp at he';subst he';exact hlen
 ·have:=Ao.1 hb e he;exact this
set_option maxHeartbeats 2000000 in
theorem WM{P:Program}{E:Env}(hE:CG P E){ex:Ex}(hX:Ej P E ex){ro id:Nat}{ops:Array Oper}{S S':List PV}{H H':List Row}{W:List (List Nat)}{sf:Bool}(hok:GF P ops.toList=true)
  (hpv:Nw P sf (DO ops.toList []) ops.toList=true) (h:K4 (KZ sf (Mq sf (DO ops.toList []) ops.toList) P E ex ro H.length W (DO ops.toList []) ops.size) ops 0 ops.toList S H=some (S',H')):ET P (.region id ops true) ro S H .normal S' H':=by
 obtain⟨Sf,Hf,pf,e1,e2,e3,e4,hone⟩:=UN ops.toList 0 h;generalize hL:ops.toList=L at *;have hLa:L.toArray=ops:=by rw[<- hL]
 unfold Nw at hpv;rw[Aa]at hpv;obtain⟨hE0,hpv⟩:=hpv;generalize hf0:YA sf (DO L []) L=f0 at *;generalize hF:Mq sf (DO L []) L=F at *;have hget:∀ j,ops[j]? = L[j]?:=fun j=>by rw[<- hL,AL]
 have hsize:ops.size=L.length:=by rw[<- hL];simp
 simp only[GF,Aa]at hok;obtain⟨⟨hmix,_⟩,hall⟩:=hok
 have hchk:∀(j:Nat) o,L[j]? = some o->(∀ e,e∈o.after->Region.binds .any e=true->e.on<j)/\∀(i:Nat) q,L[i]? = some q->i<j->q.apart ops o=true\/Reach L j i:=by
  intro j o ho;have h1:=Ao.1 hall (o,j) (by rw[A6];simpa using ho);simp only[Aa]at h1;refine⟨fun e he hb=>?_,fun i q hq hij=>?_⟩
  ·have:=BN.1 h1.1 e he;simpa [hb] using this
  ·have h2:=Ao.1 h1.2 (q,i) (by rw[A6];simpa using hq);simp only[A2,Am,AQ]at h2;rcases h2 with (h2 |h2) |h2
   ·exact absurd hij h2
   ·refine .inl ?_;have:L.toArray=ops:=by rw[<- hL]
    rwa [this]at h2
   ·exact .inr (DG L [] (by simp) (fun j i hb=>by simp at hb) j i h2)
 have hlen:∀ j,j<=L.length->(Sf j).length=S.length:=by
  intro j;induction j with
  |zero=>intro _;rw[e1]
  |succ j ih=>
   intro hj;have ho:L[j]? = some (L[j]'(by omega)):=Ae _;rw[(hone j _ ho).1];have:=ih (by omega);cases(L[j]'(by omega)).dst <;> simp[D6,this]
 let Ch:Nat->Prop:=fun j=>∃ o,L[j]? = some o/\EG ops (Sf j) o=some (true,Sf j)/\GW P (kill (Gg W (DO L []) ops.size j) ((Hf j).take H.length)) (ev (Sf j)) o.op=none/\(sf&&GZ o.op)=false/\(F.getD j false&&He o.op)=false
 have hstep:∀(j:Nat) o,L[j]? = some o->EG ops (Sf j) o=some (true,Sf j)->KZ sf F P E ex ro H.length W (DO L []) ops.size j (Sf j) (Hf j) o=some (pf j,Hf (j+1))->(GW P (kill (Gg W (DO L []) ops.size j) ((Hf j).take H.length)) (ev (Sf j)) o.op=some (pf j)/\Hf (j+1)=Hf j)\/(GW P (kill (Gg W (DO L []) ops.size j) ((Hf j).take H.length)) (ev (Sf j)) o.op=none/\chainB o.op=true/\(sf&&GZ o.op)=true/\E.GO (Hf j) (ev (Sf j)) o.op=some (pf j)/\Hf (j+1)=Hf j) \/
   (GW P (kill (Gg W (DO L []) ops.size j) ((Hf j).take H.length)) (ev (Sf j)) o.op=none/\chainB o.op=true/\((sf&&GZ o.op)=false/\(F.getD j false&&He o.op)=false)/\Kt P E ex ro H.length (W.getD j []) (Sf j) (Hf j) o=some (pf j,Hf (j+1))) \/
   (GW P (kill (Gg W (DO L []) ops.size j) ((Hf j).take H.length)) (ev (Sf j)) o.op=none/\chainB o.op=true/\(F.getD j false&&He o.op)=true/\Wt P (ev (Sf j)) o.op=some (pf j)/\Hf (j+1)=Hf j):=by
  intro j o _ _ hs;unfold KZ at hs;split at hs
  ·rename_i q hq;obtain⟨z1,z2⟩:=Prod.mk.inj (Ah hs);exact .inl ⟨by rw[hq,z1],z2.symm⟩
  ·rename_i hq;split at hs
   ·rename_i hb;split at hs
    ·rename_i hfr;obtain⟨p,hp,he⟩:=Af.1 hs;obtain⟨z1,z2⟩:=Prod.mk.inj he;exact .inr (.inr (.inr ⟨hq,hb,hfr,by rw[hp,z1],z2.symm⟩))
    rename_i hfr;split at hs
    ·rename_i hsf;obtain⟨p,hp,he⟩:=Af.1 hs;obtain⟨z1,z2⟩:=Prod.mk.inj he;exact .inr (.inl ⟨hq,hb,hsf,by rw[hp,z1],z2.symm⟩)
    ·rename_i hsf;exact .inr (.inr (.inl ⟨hq,hb,⟨by simpa using hsf,by simpa using hfr⟩,hs⟩))
   ·cases hs
 have hchb:∀ j,Ch j->∃ o,L[j]? = some o/\chainB o.op=true:=by
  rintro j ⟨o,ho,hg,hq,_⟩
  rcases(hone j o ho).2 with ⟨h1,_,_⟩ |⟨_,h2⟩
  ·rw[hg]at h1;cases h1
  ·rw[AM]at h2;rcases hstep j o ho hg h2 with ⟨h3,_⟩ |⟨_,h3,_⟩ |⟨_,h3,_⟩ |⟨_,h3,_⟩
   ·rw[hq]at h3;cases h3
   ·exact⟨o,ho,h3⟩
   ·exact⟨o,ho,h3⟩
   ·exact⟨o,ho,h3⟩
 have hchs:∀ j o,Ch j->L[j]? = some o->(sf&&GZ o.op)=false:=by
  rintro j o ⟨o',ho',_,_,h,_⟩ ho
  rw[ho]at ho';cases ho';exact h
 have hfree:∀ j o,L[j]? = some o->F.getD j false=true->He o.op=true:=by
  intro j o ho hf;rw[<- hF]at hf;unfold Mq at hf;rw[Av,An,BB,ho]at hf;simp only[AE,AM,Bx,pz,Aa]at hf;exact hf.1.2
 have hchf:∀ j,Ch j->F.getD j false=false:=by
  rintro j ⟨o,ho,_,_,_,h⟩
  cases hf:F.getD j false with
  |false=>rfl
  |true=>rw[hf,hfree j o ho hf]at h;cases h
 have hpair:∀ i j q o,i<j->L[i]? = some q->L[j]? = some o->chainB q.op=true->chainB o.op=true->F.getD i false=false->F.getD j false=false->j≠f0->Reach L j i\/Ws sf o.op q.op=true:=by
  intro i j q o hij hq ho hqb hob hfi hfj hjf;have h1:=Ao.1 hpv (o,j) (by rw[A6];simpa using ho);simp only[hob,BX,Bt]at h1;have h2:=Ao.1 h1 (q,i) (by rw[A6];simpa using hq);simp only[hqb,hfi,hfj,BX,CL,A2,Am,AQ]at h2;rcases h2 with ((h2 |h2) |h2) |h2
  ·exact absurd hij h2
  ·exact .inl (DG L [] (by simp) (fun j i hb=>by simp at hb) j i h2)
  ·exact .inr h2
  ·exact absurd (Bp h2) hjf
 have hord:∀ i j,i<j->Ch i->Ch j->j≠f0->Reach L j i:=by
  intro i j hij hi hj hjf;obtain⟨q,hq,hqb⟩:=hchb i hi;obtain⟨o,ho,hob⟩:=hchb j hj;rcases hpair i j q o hij hq ho hqb hob (hchf i hi) (hchf j hj) hjf with h |h
  ·exact h
  ·have a1:=hchs i q hi hq;have a2:=hchs j o hj ho;unfold Ws at h;cases sf <;> simp_all
 have hdown:∀ j i,Reach L j i->i<j:=by
  intro j i hr;induction hr with
  |one ho he hb=>exact(hchk _ _ ho).1 _ he hb
  |more ho he hb _ ih=>have:=(hchk _ _ ho).1 _ he hb;omega
 have hearly:∀ a,L[f0]? = some a->Nv P a.op=true/\∀(j:Nat) o,L[j]? = some o->j≠f0->GZ o.op=false/\o.dst≠a.dst /\
   (f0<j->(chainB o.op=true\/∃ d,a.dst=some d/\d∈o.looksAt ops)->Reach L j f0/\∀(i:Nat) q,L[i]? = some q->i<f0->chainB q.op=true->Reach L j i):=by
  intro a ha;unfold aH at hE0;rw[ha]at hE0;dsimp only at hE0;rw[Aa]at hE0;refine⟨hE0.1,fun j o ho hjf=>?_⟩;have h1:=Ao.1 hE0.2 (o,j) (by rw[A6];simpa using ho);simp only[Wu,A2,Aa,Am,AQ,AR]at h1;rcases h1 with h1 |⟨⟨h1,h2⟩,h3⟩
  ·exact absurd (Bp h1) hjf
  ·refine⟨h1,h2,fun hlt hc=>?_⟩;rcases h3 with (h3 |h3) |⟨h3,h4⟩
   ·exact absurd hlt h3
   ·exfalso
    simp only[BK]at h3;rcases hc with hc |⟨d,hd,hl⟩
    ·rw[hc]at h3;cases h3.1
    ·rw[hd,hLa]at h3;have:=h3.2;simp[hl]at this
   ·refine⟨DG L [] (by simp) (fun j i hb=>by simp at hb) j f0 h3,fun i q hq hif hqb=>?_⟩;have h5:=Ao.1 h4 (q,i) (by rw[A6];simpa using hq);simp only[A2,Am,AQ]at h5;rcases h5 with (h5 |h5) |h5
    ·exact absurd hif h5
    ·rw[hqb]at h5;cases h5
    ·exact DG L [] (by simp) (fun j i hb=>by simp at hb) j i h5
 have hEch:∀ j,Ch j->Ch f0->f0<j->Reach L j f0/\∀ i,i<f0->Ch i->Reach L j i:=by
  intro j hj hf hlt;obtain⟨a,ha,_⟩:=hchb f0 hf;obtain⟨o,ho,hob⟩:=hchb j hj;obtain⟨g1,g2⟩:=((hearly a ha).2 j o ho (by omega)).2.2 hlt (.inl hob);exact⟨g1,fun i hi hci=>by
   obtain⟨q,hq,hqb⟩:=hchb i hci;exact g2 i q hq hi hqb⟩
 have hEz:Ch f0->∃ T z,(∃ a,L[f0]? = some a/\a.op=.alloc T)/\E8 P T=some z/\Uw (.val z)=true/\z.cells.size=P.cellsOf T/\pf f0=.ptr (Hf f0).length 1 0 0/\Hf (f0+1)=Hf f0++[DX P T [.val z]]:=by
  rintro⟨a,ha,hg,hq,hs⟩
  rcases(hone f0 a ha).2 with ⟨h1,_,_⟩ |⟨_,h2⟩
  ·rw[hg]at h1;cases h1
  ·rw[AM]at h2;rcases hstep f0 a ha hg h2 with ⟨h3,_⟩ |⟨_,_,h4,_⟩ |⟨_,_,_,h3⟩ |⟨_,_,h4,_⟩
   ·rw[hq]at h3;cases h3
   ·rw[hs.1]at h4;cases h4
   ·obtain⟨T,z,z1,z2,z3,z4,z5,z6⟩:=WL h3 (hearly a ha).1;exact⟨T,z,⟨a,ha,z1⟩,z2,z3,z4,z5,z6⟩
   ·rw[hs.2]at h4;cases h4
 have hkeep:∀ j,j<L.length->¬Ch j->Hf (j+1)=Hf j:=by
  intro j hj hne;have ho:L[j]? = some (L[j]'hj):=Ae _;rcases(hone j _ ho).2 with ⟨_,_,h2⟩ |⟨hg,h2⟩
  ·exact h2
  ·rw[AM]at h2;rcases hstep j _ ho hg h2 with ⟨_,h3⟩ |⟨_,_,_,_,h3⟩ |⟨h3,_,h4,_⟩ |⟨_,_,_,_,h3⟩
   ·exact h3
   ·exact h3
   ·exact absurd ⟨_,ho,hg,h3,h4⟩ hne
   ·exact h3
 have hflat:∀ d a,a+d<=L.length->(∀ j,a<=j->j<a+d->¬Ch j)->Hf (a+d)=Hf a:=by
  intro d;induction d with
  |zero=>intro a _ _;rfl
  |succ d ih=>intro a hd hn;rw[<- B3,hkeep (a+d) (by omega) (hn _ (by omega) (by omega)),ih a (by omega) (fun j h1 h2=>hn j h1 (by omega))]
 have hsame:∀ a b,a<=L.length->b<=L.length->(∀ j,j<L.length->Ch j->(j<a ↔ j<b))->Hf a=Hf b:=by
  intro a b ha hb hc;rcases Nat.le_total a b with hab |hab
  ·have:=hflat (b-a) a (by omega) (fun j h1 h2 hj=>by have:=hc j (by omega) hj;omega);rw[show a+(b-a)=b by omega]at this;exact this.symm
  ·have:=hflat (a-b) b (by omega) (fun j h1 h2 hj=>by have:=hc j (by omega) hj;omega);rw[show b+(a-b)=a by omega]at this;exact this
 have hrows1:∀ j,j<L.length->(Hf j).length<=(Hf (j+1)).length/\∀ x,x<(Hf j).length->x<H.length->(Ch j->j≠f0->x∉W.getD j [])->rowAt (Hf (j+1)) x=rowAt (Hf j) x:=by
  intro j hj;by_cases hcf:Ch j/\j=f0
  ·obtain⟨hcf,rfl⟩:=hcf;obtain⟨T,z,_,_,_,_,_,z6⟩:=hEz hcf;rw[z6];exact⟨by simp,fun x h1 _ _=>D5 h1⟩
  have ho:L[j]? = some (L[j]'hj):=Ae _;rcases(hone j _ ho).2 with ⟨_,_,h2⟩ |⟨hg,h2⟩
  ·rw[h2];exact⟨Al _,fun _ _ _ _=>rfl⟩
  ·rw[AM]at h2;rcases hstep j _ ho hg h2 with ⟨_,h3⟩ |⟨_,_,_,_,h3⟩ |⟨h3,_,hs,h4⟩ |⟨_,_,_,_,h3⟩
   ·rw[h3];exact⟨Al _,fun _ _ _ _=>rfl⟩
   ·rw[h3];exact⟨Al _,fun _ _ _ _=>rfl⟩
   rotate_left
   ·rw[h3];exact⟨Al _,fun _ _ _ _=>rfl⟩
   ·obtain⟨z1,z2⟩:=YL hE h4;exact⟨z1,fun x h5 h6 h7=>z2 x h5 h6 (h7 ⟨_,ho,hg,h3,hs⟩ fun e=>hcf ⟨⟨_,ho,hg,h3,hs⟩,e⟩)⟩
 have hlens:∀ j,j<=L.length->H.length<=(Hf j).length:=by
  intro j;induction j with
  |zero=>intro _;rw[e2];exact Al _
  |succ j ih=>intro hj;exact Bc (ih (by omega)) (hrows1 j (by omega)).1
 have hrng:∀ d a x,a+d<=L.length->x<H.length->(∀ j,a<=j->j<a+d->Ch j->j≠f0->x∉W.getD j [])->rowAt (Hf (a+d)) x=rowAt (Hf a) x:=by
  intro d;induction d with
  |zero=>intro a x _ _ _;rfl
  |succ d ih=>
   intro a x hd hx hn;have:=hlens (a+d) (by omega);rw[<- B3,(hrows1 (a+d) (by omega)).2 x (by omega) hx (hn _ (by omega) (by omega)),ih a x (by omega) hx fun j h1 h2=>hn j h1 (by omega)]
 have hmove:∀ d a,a+d<=L.length->(∀ j,a<=j->j<a+d->Ch j->∃ o,L[j]? = some o/\TL o.op=true)->∀ f op q,E.GO (Hf a) f op=some q ↔ E.GO (Hf (a+d)) f op=some q:=by
  intro d;induction d with
  |zero=>intro a _ _ f op q;exact Iff.rfl
  |succ d ih=>
   intro a hd hn f op q;rw[ih a (by omega) (fun j h1 h2=>hn j h1 (by omega)) f op q,<- B3];have hj:a+d<L.length:=by omega
   have ho:L[a+d]? = some (L[a+d]'hj):=Ae _;by_cases hc:Ch (a+d)
   ·obtain⟨o,ho',he⟩:=hn (a+d) (by omega) (by omega) hc;rw[ho]at ho';cases ho';rcases(hone (a+d) _ ho).2 with ⟨h1,_,_⟩ |⟨hg,h2⟩
    ·obtain⟨o',ho',hg',_⟩:=hc;rw[ho]at ho';cases ho';rw[hg']at h1;cases h1
    ·rw[AM]at h2;rcases hstep (a+d) _ ho hg h2 with ⟨_,h3⟩ |⟨_,_,_,_,h3⟩ |⟨_,_,_,h3⟩ |⟨_,_,_,_,h3⟩
     ·rw[h3]
     ·rw[h3]
     rotate_left
     ·rw[h3]
     ·obtain⟨T,x,k,h4⟩:=dw h3 he;exact hE.EY _ _ _ _ _ _ _ _ h4 f op q
   ·rw[hkeep (a+d) hj hc]
 have hsub:∀ i m,i<L.length->m<=L.length->(∀ j,j<L.length->j≠i->Ch j->j≠f0->(((DO L []).getD i 0).testBit j=true->j<m)/\(((DO L []).getD j 0).testBit i=true->¬j<m))->¬Ch i ->
   ∀ x r,rowAt (kill (Gg W (DO L []) ops.size i) ((Hf i).take H.length)) x=some r->rowAt (Hf m) x=some r:=by
  intro i m hi hm hord2 hnc x r hr;unfold rowAt at hr;have hk:(kill (Gg W (DO L []) ops.size i) ((Hf i).take H.length))[x]? = ((Hf i).take H.length)[x]?.map fun q=>if (Gg W (DO L []) ops.size i).contains x then IX q else q:=by
   simp only[kill,An,BB,AM,Ce];congr 1
   funext q
   simp only[Function.comp];cases(Gg W (DO L []) ops.size i).contains x <;> rfl
  rw[hk,Au]at hr;by_cases hx:x<H.length
  ·rw[Ak hx]at hr;cases hq0:(Hf i)[x]? with
   |none=>rw[hq0]at hr;cases hr
   |some q0=>
    rw[hq0,AE]at hr;by_cases hc:(Gg W (DO L []) ops.size i).contains x=true
    ·rw[Ak hc]at hr;have hd:(IX q0).live=false:=by unfold IX;cases hh:q0.live <;> simp
     simp[hd]at hr
    ·rw[Aq hc]at hr;have hxK:x∉Gg W (DO L []) ops.size i:=fun hm=>hc (by simpa using hm)
     have free:∀ j,j<L.length->j≠i->(((DO L []).getD i 0).testBit j=true->False)->(((DO L []).getD j 0).testBit i=true->False)->x∉W.getD j []:=by
      intro j hj hne h1 h2 hxw;rcases Oy (by rw[hsize];exact hj) hne hxw hxK with h3 |h3
      ·exact h1 h3
      ·exact h2 h3
     have heq:rowAt (Hf m) x=rowAt (Hf i) x:=by
      rcases Nat.le_total m i with hle |hle
      ·have:=hrng (i-m) m x (by omega) hx fun j h1 h2 hj hjf=>by
        refine free j (by omega) (by omega) (fun h3=>?_) (fun h3=>?_)
        ·have:=(hord2 j (by omega) (by omega) hj hjf).1 h3;omega
        ·have:=hdown _ _ (DG L [] (by simp) (fun j i hb=>by simp at hb) j i h3);omega
       rw[show m+(i-m)=i by omega]at this;exact this.symm
      ·have:=hrng (m-i) i x (by omega) hx fun j h1 h2 hj hjf=>by
        have hne:j≠i:=fun e=>hnc (e▸hj)
        refine free j (by omega) hne (fun h3=>?_) (fun h3=>?_)
        ·have:=hdown _ _ (DG L [] (by simp) (fun j i hb=>by simp at hb) i j h3);omega
        ·exact(hord2 j (by omega) hne hj hjf).2 h3 (by omega)
       rw[show i+(m-i)=m by omega]at this;exact this
     rw[heq];unfold rowAt;rw[hq0];exact hr
  ·rw[Aq hx]at hr;cases hr
 have hslots:=Iw (L:=L) (S:=S) (pf:=pf) e1 hlen fun j o ho=>(hone j o ho).1
 intro r C a hH hro hR hs _ Q hQ;refine wpIn_region_any hmix ?_
 let D:Array Bool->Nat->Prop:=fun listed j=>listed.getD j false=true
 let De:Array Bool->Nat->Prop:=fun listed j=>D listed j/\(j=f0->Ch f0->∀ i,i<f0->Ch i->D listed i)
 let Er:Array Bool->Prop:=fun listed=>Ch f0/\D listed f0/\¬De listed f0
 let Gh:Array Bool->Ctx->Act->Prop:=fun listed C1 a1=>(¬Er listed->C1.fo=C.fo)/\(Er listed->∃ b T z,(∃ o,L[f0]? = some o/\o.op=.alloc T/\∀ t v,o.dst=some t->a1.tmps[t]? = some v->v=.pointer (some ⟨b,0,none⟩)) /\
  E8 P T=some z/\(∀ x,C1.fo x ↔ C.fo x\/x=b)/\¬C.fo b/\C.w.heap.size<=b/\C1.w.heap[b]? = some (.cells z.cells T (0,0)))
 let Inv:Array Bool->Act->World->Prop:=fun listed a1 w=>∃ C1:Ctx,C1.w=w/\(∃ m,m<=L.length/\C1.H=Hf m/\∀ j,j<L.length->Ch j->(De listed j ↔ j<m))/\Ext C (C1.fw C.fo)/\RH P C1/\a1.tmps.size=S.length/\a1.defers=a.defers /\
  (∀ t p v,(Er listed->(L[f0]?).bind (·.dst)≠some t)->DR L S pf (De listed) L.length t=some p->a1.tmps[t]? = some v->RV P C1 p v)/\Gh listed C1 a1
 have hchl:∀ j,Ch j->j<L.length:=fun j ⟨o,ho,_⟩=>(Ad.1 ho).1
 have final:∀ listed a1 w,(∀ j,j<L.length->D listed j)->Inv listed a1 w->Q .normal a1 w:=by
  rintro listed a1 w hd ⟨C1,rfl,h1,h2,h3,h4,h5,h7,h8⟩
  have hde:∀ j,j<L.length->De listed j:=fun j hj=>⟨hd j hj,fun _ _ i _ hc=>hd i (hchl i hc)⟩
  have hner:¬Er listed:=fun h=>h.2.2 (hde f0 (hchl f0 h.1))
  have hfo:=h8.1 hner;have h2:Ext C C1:=by
   have:C1.fw C.fo=C1:=by rw[<- hfo];rfl
   rw[this]at h2;exact h2
  have h1:C1.H=H':=by
   obtain⟨m,m1,m2,m3⟩:=h1;rw[m2,<- e4];exact hsame m L.length m1 (Al _) fun j hj hc=>⟨fun _=>hj,fun _=>(m3 j hj hc).1 (hde j hj)⟩
  refine hQ a1 C1 (.of_eq h5) h1 h2 h3 ⟨by rw[h4,<- e3,hlen _ (Al _)],fun t p v g1 g2=>h7 t p v (fun h=>absurd h hner) ?_ g2⟩;rw[DP (D':=fun _=>True) _ fun j hj _=>⟨fun _=>trivial,fun _=>hde j hj⟩,hslots _ (Al _),e3];exact g1
 have hready:∀ listed,HeadInv .any ops ops.size listed->Region.ready .any ops listed=[]->∀ j,j<L.length->D listed j:=by
  intro listed hinv hnil j;induction j using Nat.strongRecOn with
  |_ j ih=>
   intro hj;by_cases hDj:D listed j
   ·exact hDj
   ·exfalso
    have ho:L[j]? = some (L[j]'hj):=Ae _;have hlj:j<listed.size:=by rw[hinv.size,hsize];exact hj
    have:j∈Region.ready .any ops listed:=mem_ready.2 ⟨getD_in hlj (by simpa [D] using hDj),L[j]'hj,by rw[hget];exact ho,fun e he hb=>by
     have hlt:=(hchk j _ ho).1 e he hb;exact ih e.on hlt (by omega)⟩
    rw[hnil]at this;cases this
 have main:∀ fuel listed a1 w,HeadInv .any ops ops.size listed->(List.range L.length).countP (fun j=>!listed.getD j false)<=fuel->Inv listed a1 w->wpAnyIn (Fr r) 0 P .any ops Q fuel listed a1 w:=by
  intro fuel;induction fuel with
  |zero=>
   intro listed a1 w hinv hc hI;have hd:∀ j,j<L.length->D listed j:=by
    intro j hj;by_cases hDj:D listed j
    ·exact hDj
    ·exfalso
     have:0<(List.range L.length).countP (fun j=>!listed.getD j false):=CI.2 ⟨j,Bo.2 hj,by simpa [D] using hDj⟩;omega
   refine⟨?_,final listed a1 w hd hI⟩;cases hr:Region.ready .any ops listed with
   |nil=>rfl
   |cons x xs=>
    exfalso
    have hx:x∈Region.ready .any ops listed:=by rw[hr];simp
    obtain⟨h1,o,ho,_⟩:=mem_ready.1 hx;have hxl:x<L.length:=by rw[hget]at ho;exact(Ad.1 ho).1
    have h9:listed.getD x false=true:=hd x hxl;rw[getD_both h1]at h9;cases h9
  |succ fuel ih=>
   intro listed a1 w hinv hc hI;refine⟨fun hnil=>final listed a1 w (hready listed hinv hnil) hI,fun i hi=>?_⟩;obtain⟨h1,o,ho,hedges⟩:=mem_ready.1 hi;have hoL:L[i]? = some o:=by rw[<- hget];exact ho
   have hiL:i<L.length:=(Ad.1 hoL).1;have hnD:¬D listed i:=by show ¬listed.getD i false=true;rw[getD_both h1];simp
   have hil:i<listed.size:=by rw[hinv.size,hsize];exact hiL
   have hclosed:∀ j o e,L[j]? = some o->D listed j->e∈o.after->Region.binds .any e=true->D listed e.on:=fun j o e hj hDj he hb=>hinv.closed j o (by rw[hget];exact hj) hDj e he hb
   have hpreds:∀ j,Reach L i j->D listed j:=fun j hr=>hr.ready hclosed fun o' e ho' he hb=>by
    have:o'=o:=Ah (ho'.symm.trans hoL);subst this;exact hedges e he hb
   have hsuccs:∀ j,Reach L j i->¬D listed j:=fun j hr hDj=>hnD (hr.closed hclosed hDj)
   have hinv':=hinv.set hi (by rw[hsize];exact hiL);have hcount:(List.range L.length).countP (fun j=>!(listed.setIfInBounds i true).getD j false)<=fuel:=by
    have:=countP_set (p:=fun j=>!listed.getD j false) (q:=fun j=>!(listed.setIfInBounds i true).getD j false) (i:=i) (Cw (n:=L.length)) (Bo.2 hiL)
     (by simp only[Am];exact getD_both h1) (by simp[hil]) (fun j hj=>by simp only[getD_set_ne false (fun e=>hj e.symm)])
    omega
   have hD':∀ j,D (listed.setIfInBounds i true) j ↔ D listed j\/j=i:=by
    intro j;by_cases hji:j=i
    ·subst hji;simp[D,hil]
    ·simp only[D,getD_set_ne false (fun e=>hji e.symm),hji,Cu]
   obtain⟨C1,rfl,c1,c2,c3,c4,c5,c7,c8⟩:=hI;obtain⟨m,m1,m2,m3⟩:=c1;have hmono:De listed f0->De (listed.setIfInBounds i true) f0:=fun h=>⟨(hD' _).2 (.inl h.1),fun e hc j hj hcj=>(hD' j).2 (.inl (h.2 e hc j hj hcj))⟩
   have hCi:Ch i->(i=f0->∀ j,j<f0->Ch j->D listed j)->C1.H=Hf i:=fun hci hall=>by
    rw[m2];refine hsame m i m1 (by omega) fun j hj hc=>?_
    rw[<- m3 j hj hc];constructor
    ·intro hDj;rcases Co j i with h1 |h1 |h1
     ·exact h1
     ·subst h1;exact absurd hDj.1 hnD
     ·by_cases hjf:j=f0
      ·exact absurd (hDj.2 hjf (hjf▸hc) i (by omega) hci) hnD
      ·exact absurd hDj.1 (hsuccs j (hord i j h1 hci hc hjf))
    ·intro hji;refine⟨?_,fun hjf hcf i' h1 h2=>hpreds i' ((hEch i hci hcf (by omega)).2 i' h1 h2)⟩;by_cases hif:i=f0
     ·exact hall hif j (by omega) hc
     ·exact hpreds j (hord j i hji hc hci hif)
   have hnext:Ch i->(i=f0->∀ j,j<f0->Ch j->D listed j)->(Er listed->¬De (listed.setIfInBounds i true) f0)->∀ j,j<L.length->Ch j->(De (listed.setIfInBounds i true) j ↔ j<i+1):=fun hci hall hnb j hj hc=>by
    constructor
    ·intro hDe;rcases(hD' j).1 hDe.1 with h1 |h1
     ·rcases Bv j (i+1) with h2 |h2
      ·exact h2
      ·exfalso
       by_cases hjf:j=f0
       ·subst hjf;exact hnb ⟨hc,h1,fun h=>hnD (h.2 rfl hc i (by omega) hci)⟩ hDe
       ·exact hsuccs j (hord i j (by omega) hci hc hjf) h1
     ·omega
    ·intro h1;rcases Bv j i with h2 |h2
     ·refine⟨(hD' j).2 (.inl ?_),fun hjf hcf i' h3 h4=>(hD' i').2 (.inl (hpreds i' ((hEch i hci hcf (by omega)).2 i' h3 h4)))⟩;by_cases hif:i=f0
      ·exact hall hif j (by omega) hc
      ·exact hpreds j (hord j i h2 hc hci hif)
     ·have e:j=i:=by omega
      subst e;exact⟨(hD' j).2 (.inr rfl),fun hjf _ i' h3 h4=>(hD' i').2 (.inl (hall hjf i' h3 h4))⟩
   have hstay:¬Ch i->∀ j,j<L.length->Ch j->(De (listed.setIfInBounds i true) j ↔ j<m):=fun hci j hj hc=>by
    rw[<- m3 j hj hc];have hDD:∀ j,Ch j->(D (listed.setIfInBounds i true) j ↔ D listed j):=fun j hc=>by
     rw[hD' j];exact⟨fun h1=>h1.resolve_right fun e=>hci (e▸hc),fun h1=>.inl h1⟩
    exact⟨fun h=>⟨(hDD j hc).1 h.1,fun e hf i' h3 h4=>(hDD i' h4).1 (h.2 e hf i' h3 h4)⟩,fun h=>⟨(hDD j hc).2 h.1,fun e hf i' h3 h4=>(hDD i' h4).2 (h.2 e hf i' h3 h4)⟩⟩
   have hread:∀ t∈o.looksAt ops,∀ p v,(Sf i)[t]? = some p->a1.tmps[t]? = some v->RV P C1 p v:=by
    intro t ht p v g1 g2;have hrd:∀ a0,L[f0]? = some a0->a0.dst=some t->f0<i->∀ i',i'<f0->Ch i'->D listed i':=fun a0 ha0 hd0 hlt i' h3 h4=>by
     obtain⟨q,hq,hqb⟩:=hchb i' h4;exact hpreds i' ((((hearly a0 ha0).2 i o hoL (by omega)).2.2 hlt (.inr ⟨t,hd0,ht⟩)).2 i' q hq h3 hqb)
    have hbefore:∀ j,j<i->(L[j]?).bind (·.dst)=some t->D listed j:=fun j hj hd=>by
     obtain⟨q,hq,hqd⟩:=AH.1 hd;rcases(hchk i o hoL).2 j q hq hj with hap |hr
     ·exact absurd ht ((Oper.apart_spec hap).1 t hqd)
     ·exact hpreds j hr
    refine c7 t p v (fun hEr hd=>?_) ?_ g2
    ·obtain⟨a0,ha0,hd0⟩:=AH.1 hd;rcases Co i f0 with h1 |h1 |h1
     ·rcases(hchk f0 a0 ha0).2 i o hoL h1 with hap |hr
      ·exact absurd ht ((Oper.apart_spec hap).2.2 t hd0)
      ·exact hsuccs f0 hr hEr.2.1
     ·subst h1;exact hnD hEr.2.1
     ·exact hEr.2.2 ⟨hEr.2.1,fun _ _ i' h3 h4=>hrd a0 ha0 hd0 h1 i' h3 h4⟩
    rw[D7 i L.length (by omega) fun j hij hjn hd=>?_,DP (D':=fun _=>True) i fun j hj hd=>⟨fun _=>trivial,fun _=>⟨hbefore j hj hd,fun hjf _ i' h3 h4=>by
     obtain⟨q,hq,hqd⟩:=AH.1 hd;subst hjf;exact hrd q hq hqd hj i' h3 h4⟩⟩,hslots i (by omega)]
    ·exact g1
    ·-- a writer behind
     refine fun hDe=>?_
     revert hDe
     refine fun hDe=>(?_:¬D listed j) hDe.1
     by_cases hji:j=i
     ·subst hji;exact hnD
     ·obtain⟨q,hq,hqd⟩:=AH.1 hd;rcases(hchk j q hq).2 i o hoL (by omega) with hap |hr
      ·exact absurd ht ((Oper.apart_spec hap).2.2 t hqd)
      ·exact hsuccs j hr
   have hopnd:∀ x∈o.op.operands,RV P C1 (ev (Sf i) x) (a1.eval x):=by
    intro x hx;cases x with
    |tmp t=>
     have ht:t∈o.looksAt ops:=by
      simp only[Oper.looksAt];exact BT _ (BZ.2 ⟨.tmp t,by simpa using hx,rfl⟩)
     show RV P C1 ((Sf i).getD t (.val undef)) (a1.tmps.getD t undef)
     have hl:=hlen i (by omega);by_cases htl:t<S.length
     ·have g1:(Sf i)[t]? = some ((Sf i)[t]'(by rw[hl];exact htl)):=Ae _;have g2:a1.tmps[t]? = some (a1.tmps[t]'(by rw[c4];exact htl)):=AD _;have:=hread t ht _ _ g1 g2;simpa [List.getD,Array.getD,htl,hl,c4] using this
     ·have g1:(Sf i).getD t (.val undef)=.val undef:=by simp[List.getD,List.getElem?_eq_none (show(Sf i).length<=t by rw[hl];exact Nat.le_of_not_lt htl)]
      have g2:a1.tmps.getD t undef=undef:=by simp[Array.getD,c4,htl]
      rw[g1,g2];exact .val
    |const v=>exact .val
    |global g=>exact .val
    |func f=>exact .fn rfl rfl (fun j c v h=>by simp at h) (fun j c v h=>by simp at h)
   have hwrite:∀(C2:Ctx) (v:Value),(∃ m,m<=L.length/\C2.H=Hf m/\∀ j,j<L.length->Ch j->(De (listed.setIfInBounds i true) j ↔ j<m))->Ext C (C2.fw C.fo)->(∀ p V,RV P C1 p V->RV P C2 p V)->RH P C2 ->
     ((Er (listed.setIfInBounds i true)->i≠f0)->RV P C2 (pf i) v)->(Er listed->De (listed.setIfInBounds i true) f0->∀ t u,(L[f0]?).bind (·.dst)=some t->a1.tmps[t]? = some u->RV P C2 (pf f0) u)->Gh (listed.setIfInBounds i true) C2 (a1.put o.dst v) ->
     wpAnyIn (Fr r) 0 P .any ops Q fuel (listed.setIfInBounds i true) (a1.put o.dst v) C2.w:=by
    intro C2 v k1 k2 kmono k3 k4 k5 k6;refine ih _ _ _ hinv' hcount ⟨C2,rfl,k1,k2,k3,?_,?_,fun t p u gx g1 g2=>?_,k6⟩
    ·cases o.dst <;> simp[Act.put,c4]
    ·cases o.dst <;> exact c5
    ·by_cases hdt:o.dst=some t
     ·-- its own slot
      have htl:t<S.length:=by
       have h9:=(At.1 g2).1;rw[hdt]at h9;simp only[Act.put,Ct,c4]at h9;exact h9
      have hDei:De (listed.setIfInBounds i true) i:=by
       refine⟨(hD' i).2 (.inr rfl),fun hif hcf i' h3 h4=>?_⟩;subst hif;have hne:¬Er (listed.setIfInBounds i true):=fun h=>gx h (by rw[hoL];exact hdt)
       refine A0 fun hnn=>hne ⟨hcf,(hD' i).2 (.inr rfl),fun hde=>hnn (hde.2 rfl hcf i' h3 h4)⟩
      have hself:DR L S pf (De (listed.setIfInBounds i true)) L.length t=some (pf i):=by
       rw[D7 (i+1) L.length (by omega) fun j hij hjn hd=>?_]
       ·simp only[DR];rw[Ak ⟨hDei,by simp[hoL,hdt],htl⟩]
       ·obtain⟨q,hq,hqd⟩:=AH.1 hd;intro hDj;rcases(hD' j).1 hDj.1 with hDj |hji
        ·rcases(hchk j q hq).2 i o hoL (by omega) with hap |hr
         ·exact(Oper.apart_spec hap).2.1 t hdt hqd
         ·exact hsuccs j hr hDj
        ·omega
      rw[hself]at g1;cases g1;rw[hdt]at g2;simp only[Act.put]at g2;rw[AW,Ak rfl]at g2;split at g2
      ·cases g2;exact k4 fun hEr hif=>by subst hif;exact hEr.2.2 hDei
      ·cases g2
     ·-- another's
      have g3:a1.tmps[t]? = some u:=by
       cases hod:o.dst with
       |none=>rw[hod]at g2;exact g2
       |some d=>
        rw[hod]at g2 hdt;simp only[Act.put]at g2;rw[AW,Aq (fun e=>hdt (by rw[e]))]at g2;exact g2
      by_cases hx:(L[f0]?).bind (·.dst)=some t/\Er listed/\De (listed.setIfInBounds i true) f0
      ·obtain⟨x1,x2,x3⟩:=hx;obtain⟨a0,ha0,hd0⟩:=AH.1 x1;have htl:t<S.length:=by
        have h9:=(At.1 g3).1;rw[c4]at h9;exact h9
       have hfl:f0<L.length:=hchl f0 x2.1;have hself:DR L S pf (De (listed.setIfInBounds i true)) L.length t=some (pf f0):=by
        rw[D7 (f0+1) L.length (by omega) fun j hij hjn hd=>?_]
        ·simp only[DR];rw[Ak ⟨x3,x1,htl⟩]
        ·obtain⟨q,hq,hqd⟩:=AH.1 hd;exact absurd (hqd.trans hd0.symm) ((hearly a0 ha0).2 j q hq (by omega)).2.1
       rw[hself]at g1;cases g1;exact k5 x2 x3 t u x1 g3
      ·have hsame:DR L S pf (De (listed.setIfInBounds i true)) L.length t=DR L S pf (De listed) L.length t:=by
        refine DP _ fun j hj hd=>?_
        have hji:j≠i:=fun e=>by
         subst e;rw[hoL]at hd;exact hdt hd
        by_cases hjf:j=f0
        ·subst hjf;refine⟨fun hh=>?_,hmono⟩;have hD0:D listed j:=((hD' j).1 hh.1).resolve_right hji;refine A0 fun hnn=>hx ⟨hd,⟨?_,hD0,hnn⟩,hh⟩
         refine A0 fun hnc=>hnn ⟨hD0,fun _ hc=>absurd hc hnc⟩
        ·exact⟨fun hh=>⟨((hD' j).1 hh.1).resolve_right hji,fun e=>absurd e hjf⟩,fun hh=>⟨(hD' j).2 (.inl hh.1),fun e=>absurd e hjf⟩⟩
       rw[hsame]at g1;refine kmono _ _ (c7 t p u (fun hEr hd=>?_) g1 g3);refine gx ⟨hEr.1,(hD' f0).2 (.inl hEr.2.1),fun hde=>hx ⟨hd,hEr,hde⟩⟩ hd
   have hblk:∀ C2:Ctx,Ext C1 C2->∀ b o',C1.fo b->C1.w.heap[b]? = some o'->C2.w.heap[b]? = some o':=fun C2 k2 b o' h1 h2=>by
    rw[k2.block b (At.1 h2).1 fun ho=>?_]
    ·exact h2
    ·obtain⟨x,_,hx⟩:=ho;exact c3.IU x b hx h1
   have htmp:Er listed->∀ a0,L[f0]? = some a0->∀(w:Value) t u,a0.dst=some t->(a1.put o.dst w).tmps[t]? = some u->a1.tmps[t]? = some u:=fun hEr a0 ha0 w t u hd0 hu=>by
    have hif:i≠f0:=fun e=>by subst e;exact hnD hEr.2.1
    have hne:o.dst≠a0.dst:=((hearly a0 ha0).2 i o hoL hif).2.1;rw[hd0]at hne;cases hod:o.dst with
    |none=>rw[hod]at hu;exact hu
    |some d=>
     rw[hod]at hu hne;simp only[Act.put]at hu;rw[AW,Aq (fun e=>hne (by rw[e]))]at hu;exact hu
   have hgo:∀(C2:Ctx) (v:Value),(∃ m,m<=L.length/\C2.H=Hf m/\∀ j,j<L.length->Ch j->(De (listed.setIfInBounds i true) j ↔ j<m))->Ext C1 C2->RH P C2->RV P C2 (pf i) v->(Er listed->¬De (listed.setIfInBounds i true) f0)->(Er (listed.setIfInBounds i true)->i≠f0) ->
     wpAnyIn (Fr r) 0 P .any ops Q fuel (listed.setIfInBounds i true) (a1.put o.dst v) C2.w:=fun C2 v k1 k2 k3 k4 k5 k6=>by
    refine hwrite C2 v k1 (c2.trans k2.fw) (fun p V h=>h.mono k2) k3 (fun _=>k4) (fun h1 h2=>absurd h2 (k5 h1)) ⟨fun hne=>?_,fun hEr'=>?_⟩
    ·rw[k2.fo];exact c8.1 fun hEr=>hne ⟨hEr.1,(hD' f0).2 (.inl hEr.2.1),k5 hEr⟩
    ·have hEr:Er listed:=⟨hEr'.1,((hD' f0).1 hEr'.2.1).resolve_right fun e=>k6 hEr' e.symm,fun h=>hEr'.2.2 (hmono h)⟩;obtain⟨b,T,z,⟨a0,ha0,hop0,htm⟩,z2,z3,z4,z5,z6⟩:=c8.2 hEr;exact⟨b,T,z,⟨a0,ha0,hop0,fun t u hd hu=>htm t u hd (htmp hEr a0 ha0 v t u hd hu)⟩,z2,fun x=>by rw[k2.fo];exact z3 x,z4,z5,hblk C2 k2 b _ ((z3 b).2 (.inr rfl)) z6⟩
   have hnc5:¬Ch i->Er listed->¬De (listed.setIfInBounds i true) f0:=fun hci hEr hde=>hEr.2.2 ⟨hEr.2.1,fun _ hcf i' h3 h4=>((hD' i').1 (hde.2 rfl hcf i' h3 h4)).resolve_right fun e=>hci (e▸h4)⟩
   have hnc6:¬Ch i->Er (listed.setIfInBounds i true)->i≠f0:=fun hci hEr e=>hci (e▸hEr.1)
   unfold wpOpIn;simp only[ho];obtain⟨_,hcase⟩:=hone i o hoL;rcases hcase with ⟨hg,hp,hHe⟩ |⟨hg,hst⟩
   ·have hw:=EZ (by rw[c4,hlen i (by omega)]) hread hg;rw[hw,Aq (by simp)];have hn:¬Ch i:=by
     rintro⟨o',ho',hg',_⟩
     rw[hoL]at ho';cases ho';rw[hg]at hg';cases hg'
    exact⟨fun _ _=>trivial,hgo C1 undef ⟨m,m1,m2,hstay hn⟩ (.refl C1) c3 (by rw[hp];exact .val) (hnc5 hn) (hnc6 hn)⟩
   ·have hw:=EZ (by rw[c4,hlen i (by omega)]) hread hg;rw[hw,Ak rfl];rw[AM]at hst;rcases hstep i o hoL hg hst with ⟨hq,hHe⟩ |⟨hq,hb,hsf,hsr,hHe⟩ |⟨hq,hb,⟨hsf,hff⟩,hc⟩ |⟨hq,hb,hfr,hfq,hHe⟩
    ·have hn:¬Ch i:=by
      rintro⟨o',ho',_,hq',_⟩
      rw[hoL]at ho';cases ho';rw[hq]at hq';cases hq'
     obtain⟨v,g1,g2⟩:=JT (g:=a1.eval) c3 (fun x r hx=>by
      show rowAt C1.H x=some r
      rw[m2];refine hsub i m hiL m1 (fun j hj hne hc hjf=>⟨fun hb=>?_,fun hb hlt=>?_⟩) hn x r hx
      ·exact(m3 j hj hc).1 ⟨hpreds j (DG L [] (by simp) (fun j i hb=>by simp at hb) i j hb),fun e=>absurd e hjf⟩
      ·exact hsuccs j (DG L [] (by simp) (fun j i hb=>by simp at hb) j i hb) ((m3 j hj hc).2 hlt).1) hopnd hq
     exact D9 g1 (hgo C1 v ⟨m,m1,m2,hstay hn⟩ (.refl C1) c3 g2 (hnc5 hn) (hnc6 hn))
    ·-- what only reads
     have hn:¬Ch i:=fun hc=>by have:=hchs i o hc hoL;rw[hsf]at this;cases this
     have hnf:F.getD i false=false:=by
      cases hf:F.getD i false with
      |false=>rfl
      |true=>
       have h5:=hfree i o hoL hf;rw[Aa]at hsf;have h6:=hsf.2;generalize o.op=op at h5 h6;cases op <;> simp only[He,GZ,A4]at h5 h6
     have hnf0:∀ j,j<L.length->j≠f0:=fun j hj e=>by
      subst e;have ha:=Ae hj;rw[Aa]at hsf;by_cases hij:i=j
      ·subst hij;rw[hoL]at ha;have h1:=(hearly o hoL).1;have h2:=hsf.2;generalize o.op=op at h1 h2;cases op <;> simp only[Nv,GZ,A4]at h1 h2
      ·have:=((hearly _ ha).2 i o hoL hij).1;rw[hsf.2]at this;cases this
     have hent:∀ j,j<L.length->Ch j->¬Reach L i j->¬Reach L j i->∃ o',L[j]? = some o'/\TL o'.op=true:=by
      intro j hj hcj n1 n2;obtain⟨q,hq',hqb⟩:=hchb j hcj;have a1:=hchs j q hcj hq';refine⟨q,hq',?_⟩;rcases Co i j with h |h |h
      ·rcases hpair i j o q h hoL hq' hb hqb hnf (hchf j hcj) (hnf0 j hj) with h3 |h3
       ·exact absurd h3 n2
       ·unfold Ws at h3;cases sf <;> simp_all
      ·subst h;exact absurd hcj hn
      ·rcases hpair j i q o h hq' hoL hqb hb (hchf j hcj) hnf (hnf0 i hiL) with h3 |h3
       ·exact absurd h3 n1
       ·unfold Ws at h3;cases sf <;> simp_all
     have hsm:E.GO (Hf m) (ev (Sf i)) o.op=some (pf i):=by
      rcases Nat.le_total m i with hle |hle
      ·have:=hmove (i-m) m (by omega) (fun j j1 j2 hcj=>hent j (by omega) hcj (fun hr=>by have:=(m3 j (by omega) hcj).1 ⟨hpreds j hr,fun e=>absurd e (hnf0 j (by omega))⟩;omega) (fun hr=>by have:=hdown _ _ hr;omega)) (ev (Sf i)) o.op (pf i);rw[show m+(i-m)=i by omega]at this;exact this.2 hsr
      ·have:=hmove (m-i) i (by omega) (fun j j1 j2 hcj=>hent j (by omega) hcj (fun hr=>by have:=hdown _ _ hr;omega) (fun hr=>hsuccs j hr ((m3 j (by omega) hcj).2 (by omega)).1)) (ev (Sf i)) o.op (pf i);rw[show i+(m-i)=m by omega]at this;exact this.1 hsr
     obtain⟨v,g1,g2⟩:=hE.GO _ _ _ _ hsm C1 a1.eval o rfl m2 c3 hopnd;exact D9 g1 (hgo C1 v ⟨m,m1,m2,hstay hn⟩ (.refl C1) c3 g2 (hnc5 hn) (hnc6 hn))
    ·have hci:Ch i:=⟨o,hoL,hg,hq,hsf,hff⟩;have hro1:C1.ro=ro:=(show(C1.fw C.fo).ro=ro by rw[c2.ro];exact hro);by_cases hearl:i=f0/\¬ ∀ j,j<f0->Ch j->D listed j
     ·-- it is carried out early
      obtain⟨hif,hnall⟩:=hearl;subst hif;have hnEr:¬Er listed:=fun h=>hnD h.2.1
      obtain⟨T,z,⟨a0,ha0,hop0⟩,z2,z3,z4,z5,z6⟩:=hEz hci;have e0:a0=o:=Ah (ha0.symm.trans hoL);subst e0;have hDn:∀ j,j<i->Ch j->D (listed.setIfInBounds i true) j->D listed j:=fun j h1 _ h2=>((hD' j).1 h2).resolve_right (by omega)
      have hEr':Er (listed.setIfInBounds i true):=⟨hci,(hD' i).2 (.inr rfl),fun hde=>hnall fun j h1 h2=>hDn j h1 h2 (hde.2 rfl hci j h1 h2)⟩;have hfo:=c8.1 hnEr;have hrun:(execOp a1.eval a0).run P C1.w=.ok (.value (.pointer (some ⟨C1.w.heap.size,0,none⟩))) (C1.Iq (.cells z.cells T (0,0))).w:=by
       unfold execOp;simp only[hop0,Instr.alloc,Sem.run_bind,Fx z2,Result.andThen_ok];rfl
      refine D9 hrun (hwrite (C1.Iq (.cells z.cells T (0,0))) _ ⟨m,m1,m2,fun j hj hc=>?_⟩ (c2.trans (gj _ _)) (fun p V h=>h.E0 (WJ c3 _)) (mh c3 _) (fun h=>absurd rfl (h hEr')) (fun h=>absurd h hnEr) ⟨fun h=>absurd hEr' h,fun _=>⟨C1.w.heap.size,T,z,⟨a0,hoL,hop0,fun t u hd hu=>?_⟩,z2,fun x=>?_,fun hh=>?_,c2.size,?_⟩⟩)
      ·rw[<- m3 j hj hc];by_cases hji:j=i
       ·subst hji;exact⟨fun h=>absurd h hEr'.2.2,fun h=>absurd h.1 hnD⟩
       ·exact⟨fun h=>⟨((hD' j).1 h.1).resolve_right hji,fun e=>absurd e hji⟩,fun h=>⟨(hD' j).2 (.inl h.1),fun e=>absurd e hji⟩⟩
      ·rw[hd]at hu;simp only[Act.put]at hu;rw[AW,Ak rfl]at hu;split at hu
       ·cases hu;rfl
       ·cases hu
      ·show C1.fo x\/x=C1.w.heap.size ↔ _
       rw[hfo]
      ·rw[<- hfo]at hh;have:=c3.Kq _ hh;omega
      ·show(C1.w.heap.push _)[C1.w.heap.size]? = _
       simp
     have hall:i=f0->∀ j,j<f0->Ch j->D listed j:=fun hif=>A0 fun hn=>hearl ⟨hif,hn⟩
     rw[<- hCi hci hall]at hc;by_cases hB:Er listed/\De (listed.setIfInBounds i true) f0
     ·-- the last one before an alloc that was carried out early
      obtain⟨hEr,hde⟩:=hB;obtain⟨b,T,z,⟨a0,ha0,hop0,htm⟩,z2,z3,z4,z5,z6⟩:=c8.2 hEr;obtain⟨T',z',⟨a1',ha1,hop1⟩,y2,y3,y4,y5,y6⟩:=hEz hEr.1;have e0:a1'=a0:=Ah (ha1.symm.trans ha0);subst e0;rw[hop0]at hop1;cases hop1;rw[z2]at y2;cases y2;have hif:i<f0:=by
       refine A0 fun hge=>hEr.2.2 ⟨hEr.2.1,fun _ hcf i' h3 h4=>((hD' i').1 (hde.2 rfl hcf i' h3 h4)).resolve_right (by omega)⟩
      have hDl:∀ j,j<f0->j≠i->Ch j->D listed j:=fun j h1 h2 h3=>((hD' j).1 (hde.2 rfl hEr.1 j h1 h3)).resolve_right h2
      have hfl:f0<L.length:=hchl f0 hEr.1;have hHf:Hf (i+1)=Hf f0:=hsame (i+1) f0 (by omega) (by omega) fun j hj hcj=>⟨fun h=>by omega,fun h=>by
       refine A0 fun hn=>?_
       exact hsuccs j (hord i j (by omega) hci hcj (by omega)) (hDl j h (by omega) hcj)⟩
      refine Pu hE hX c3 hro1 hopnd hc fun v C' k1 k2 k3 k4=>?_
      have hF:∀ x,C'.fo x ↔ C.fo x\/x=b:=fun x=>by rw[k2.fo];exact z3 x
      have hhb:C'.w.heap[b]? = some (.cells z.cells T (0,0)):=hblk C' k2 b _ ((z3 b).2 (.inr rfl)) z6;have hx0:=TQ k3 (DX P T [.val z]) hF;have hCH:C'.H=Hf f0:=by rw[k1,hHf]
      refine hwrite (C'.forth C.fo b (DX P T [.val z])) v ⟨f0+1,by omega,by rw[y6,<- hCH];rfl,fun j hj hcj=>?_⟩ (TR (c2.trans k2.fw) hR.ro z5) (fun p V h=>(h.mono k2).E0 hx0) (gi k3 hF z4 rfl (mj y3 y4 hhb)) (fun _=>k4.E0 hx0) (fun _ _ t u hd hu=>?_) ⟨fun _=>rfl,fun h=>absurd hde h.2.2⟩
      ·constructor
       ·intro h;refine A0 fun hn=>?_
        rcases(hD' j).1 h.1 with h1 |h1
        ·exact hsuccs j ((hEch j hcj hEr.1 (by omega)).2 i hif hci) h1
        ·omega
       ·intro h;by_cases hjf:j=f0
        ·subst hjf;exact hde
        ·exact⟨hde.2 rfl hEr.1 j (by omega) hcj,fun e=>absurd e hjf⟩
      ·rw[ha0]at hd;have hu':=htm t u hd hu;subst hu';rw[y5,<- hCH];have hrow:(C'.forth C.fo b (DX P T [.val z])).row? C'.H.length=some (DX P T [.val z]):=by
        show rowAt (C'.H++[DX P T [.val z]]) C'.H.length=_
        unfold rowAt;simp[DX]
       refine .ptr ⟨_,rfl⟩ (by omega) (by simp[Ctx.forth]) (fun r' hr'=>?_) fun r' hr' _=>⟨b,by simp[Ctx.forth],by simp⟩
       rw[hrow]at hr';cases hr';simp[DX]
     ·refine Pu hE hX c3 hro1 hopnd hc fun v C' k1 k2 k3 k4=>hgo C' v ⟨i+1,by omega,k1,hnext hci hall fun h1 h2=>hB ⟨h1,h2⟩⟩ k2 k3 k4 (fun h1 h2=>hB ⟨h1,h2⟩) fun hEr' hif=>?_
      subst hif;exact hEr'.2.2 ⟨hEr'.2.1,fun _ _ j h1 h2=>(hD' j).2 (.inl (hall rfl j h1 h2))⟩
    ·-- a literal slice,made as a list
     have hn:¬Ch i:=by
      rintro⟨o',ho',_,_,_,hf'⟩
      rw[hoL]at ho';cases ho';rw[hfr]at hf';cases hf'
     rw[Aa]at hfr;obtain⟨v,w',g1,g2,g3⟩:=WK (g:=a1.eval) c3 hfr.2 hopnd hfq;exact D9 g1 (hgo (C1.at w') v ⟨m,m1,m2,hstay hn⟩ g2.ext (g2.rh c3) g3 (hnc5 hn) (hnc6 hn))
 refine main ops.size _ _ _ ⟨by simp,fun j oj _ hl=>(by rw[getD_replicate_false]at hl;cases hl),fun t h1 h2=>absurd h2 (by omega)⟩ ?_ ?_
 ·rw[hsize];exact Bc CB (by simp)
 ·refine⟨C.dr,rfl,⟨0,by omega,by rw[e2];exact hH,fun j _ _=>⟨(fun hj=>by have hj:=hj.1;simp only[D,getD_replicate_false]at hj;cases hj),fun hj=>by omega⟩⟩,FW C,Mk hR,hs.1,rfl,fun t p v _ g1 g2=>?_,fun _=>rfl,fun h=>by have h:=h.2.1;simp only[D,getD_replicate_false]at h;cases h⟩;have:DR L S pf (De (Array.replicate ops.size false)) L.length t=S[t]?:=by
   rw[D7 0 L.length (by omega) fun j _ _ _ hDj=>by
    have hDj:=hDj.1;simp only[D,getD_replicate_false]at hDj;cases hDj]
   rfl
  rw[this]at g1;exact(hs.2 t p v g1 g2).mono (FW C)
theorem Hh{E:Env}(hE:CG P E)(n:Nat):Ej P E (exec P E n):=
 Rr hE (fun hX _ _ _ _ _ _ _ hd h=>YH hE hX hd h) (fun hX _ _ _ _ _ _ _ _ _ hd h=>dq hE hX hd h) (fun hX _ _ _ _ _ _ _ _ hd hp h=>WI hE hX hd hp h) (fun hX _ _ _ _ _ _ _ _ _ hd hp h=>WM hE hX hd hp h) n
end Go.Hx


