import Derived.Test.YtggmhenfkidjbaaPart4
import Derived.Test.YtggmhenfkidjbaaPart3
import Derived.ProofKit
import Derived.OpenShut
import Derived.ShutString
import Derived.ChangeOld
import Derived.Below
noncomputable section
namespace Go.Hx
open Go.ChangeMaps (setBlock)
structure ML where
 i1:Nat
 o1:Oper
 o2:Oper
 gN:Array Oper
 q:Tmp
 out:Nat
 nx:Nat
 i2:Nat
 ops:Array Oper
 oe:Oper
 tl:List Oper
 rest:Code
 it:Tmp
 d1:Tmp
 de:Tmp
def HW:Code->Option ML
 |.seq (.region i1 gN false) (.seq (.cond (.tmp q) .skip (.exit out)) (.block nx (.seq (.region i2 ops false) rest)))=>
  match gN.toList,ops.toList with
  | [o1,o2],oe::tl=>
   match o1.op,o1.dst,o2.op,o2.dst,oe.op,oe.dst with
   |.next (.tmp it) false,some d1,.extract (.tmp d2) 0,some q2,.entry (.tmp it2),some de=>
    if o1.guard.isNone&&o2.guard.isNone&&oe.guard.isNone&&d1==d2&&q==q2&&it==it2&&it != d1&&it != q&&d1 != q then
     some ⟨i1,o1,o2,gN,q,out,nx,i2,ops,oe,tl,rest,it,d1,de⟩ else none
   |_,_,_,_,_,_=>none
  |_,_=>none
 |_=>none
structure MLS(b:Code)(m:ML):Prop where
 b:b=.seq (.region m.i1 m.gN false) (.seq (.cond (.tmp m.q) .skip (.exit m.out)) (.block m.nx (.seq (.region m.i2 m.ops false) m.rest)))
 o1:m.gN.toList=[m.o1,m.o2]
 oe:m.ops.toList=m.oe::m.tl
 p1:m.o1.op=.next (.tmp m.it) false
 d1:m.o1.dst=some m.d1
 p2:m.o2.op=.extract (.tmp m.d1) 0
 d2:m.o2.dst=some m.q
 pe:m.oe.op=.entry (.tmp m.it)
 de:m.oe.dst=some m.de
 g1:m.o1.guard=none
 g2:m.o2.guard=none
 ge:m.oe.guard=none
 n1:m.it≠m.d1
 n2:m.it≠m.q
 n3:m.d1≠m.q
theorem U2{b:Code}{m:ML}(h:HW b=some m):MLS b m:=by
 unfold HW at h;split at h
 ·split at h
  ·rename_i e1 e2;split at h
   ·rename_i p1 d1 p2 d2 pe de;split at h
    ·rename_i hc;simp only[Aa,Ay,CO,ne_eq,Ba]at hc;obtain⟨⟨⟨⟨⟨⟨⟨⟨c1,c2⟩,c3⟩,rfl⟩,rfl⟩,rfl⟩,c7⟩,c8⟩,c9⟩:=hc;cases h;exact⟨rfl,e1,e2,p1,d1,p2,d2,pe,de,c1,c2,c3,c7,c8,c9⟩
    ·cases h
   ·cases h
  ·cases h
 ·cases h
def Xd(P:Program)(E:CY)(n:Nat)(f:FuncId)(m:ML)(l:List Tmp)(S:List PV)(H:List Row)(k v:PV):Option (List PV×List Row):=
 dE (WW P E (Fb P E n) 0) m.ops m.tl (((S.set m.d1 .any).set m.q (.val (.bool true))).set m.de (.El [k,v])) H fun S1 H1=>
  Fb P E n 0 f m.rest S1 H1 fun x S2 H2=>
   DM (decide (H.length<=H2.length)&&DF H.length (H2.take H.length))
    (match x with
    |.normal=>Mr H2 H.length (Fh (some l) S2) fun S3=>some (Iv H.length S3,H2.take H.length)
    |.exit j=>match Nat.beq j m.nx with |true=>Mr H2 H.length (Fh (some l) S2) fun S3=>some (Iv H.length S3,H2.take H.length) |false=>none
    |.ret=>none)
theorem Zj{P:Program}{E:CY}(hE:CG P E.env){n:Nat}{f:FuncId}{m:ML}{l:List Tmp}{S S':List PV}{H H':List Row}{k v:PV}(hb:EB P f m.rest)(h:Xd P E n f m l S H k v=some (S',H')){r:Option Nat}{C:Ctx}{a:Act}
  (hH:C.H=H) (hro:C.ro=0) (hR:RH P C) (hs:FV P C (((S.set m.d1 .any).set m.q (.val (.bool true))).set m.de (.El [k,v])) a.tmps) (hro2:FE r C.w) {Q:Exit->Act->World->Prop}
  (hQ:∀(a':Act) (C':Ctx),LU C.w a C'.w a'->C'.H=H'->Ext C C'->RH P C'->FV P C' S' a'.tmps->Q .normal a' C'.w):
  wpListIn (Fr r) 0 P m.ops (Exit.then (m.rest.wpIn (Fr r) 0 P (Exit.inBlock m.nx Q)) (Exit.inBlock m.nx Q)) m.tl a C.w:=by
 obtain⟨S1,H1,h1,h2⟩:=Ju (st:=Mo P E.env (exec P E.env n) 0) (fun S H o k r h=>MM (Fc n) h) h;obtain⟨x,S2,H2,h3,h4⟩:=Fc n _ _ _ _ _ _ _ h2;obtain⟨h5,h6⟩:=Da h4;simp only[Aa,Ab]at h5;subst hH;refine JX hE (Hh hE n) h1 hro hR hs _ fun a1 C1 hd1 hH1 hx1 hR1 hs1=>?_
 subst hH1;have hw:=Hh hE n _ _ _ _ _ _ _ _ h3 hb;show m.rest.wpIn (Fr r) 0 P (Exit.inBlock m.nx Q) a1 C1.w
 have fin:∀(a':Act) (C':Ctx),LU C1.w a1 C'.w a'->C'.H=H2->Ext C1 C'->RH P C'->FV P C' S2 a'.tmps->S'=Iv C.H.length (Hp H2 C.H.length (Fh (some l) S2))->H'=H2.take C.H.length->Q .normal a' C'.w:=by
  rintro a' C' hd hH' hx hR' hs' rfl rfl
  subst hH';have hx2:=hx1.trans hx;have hd2:LU C.w a C'.w a':=(LU.of_eq hd1).trans hx1.size hR1 hx hd;exact hQ a' (C'.cut C.H.length False C'.ro) hd2 rfl (hx2.cut (Al _) h5.1 hR.ro) (hR'.cut h5.1 (by rw[hx2.ro];exact hR.ro) h5.2) (Pz hR' h5.1 (EI (some l) hs'))
 refine hw r C1 a1 rfl (by rw[hx1.ro];exact hro) hR1 hs1 (hro2.mono hx1) _ fun a' C' hd hH' hx hR' hs'=>?_
 cases x with
 |normal=>cases Fl h6;exact fin a' C' hd hH' hx hR' hs' rfl rfl
 |ret=>cases h6
 |exit j=>
  dsimp only at h6;split at h6
  ·rename_i hj;cases Fl h6;show(if j=m.nx then Q .normal a' C'.w else Q (.exit j) a' C'.w)
   rw[Ak (Bp hj)];exact fin a' C' hd hH' hx hR' hs' rfl rfl
  ·cases h6
theorem gO{es:Array MapEntry}{seen:Array Nat}{e:MapEntry}(h:e∈(leftOf es seen).toList):∃ j:Nat,es[j]? = some e/\seen.contains e.born=false:=by
 obtain⟨h1,h2⟩:=Go.mem_left h;obtain⟨j,hj⟩:=Bh h1;exact⟨j,by rw[AL]at hj;exact hj,h2⟩
structure T4(P:Program)(E:CY)(n:Nat)(f:FuncId)(m:ML)(l:List Tmp)(i mi N:Nat)(Ok:Nat->PV×PV->Prop)(st:List (Nat×(PV×PV))->List PV×List Row):Prop where
 ne:mi≠i
 hd:∀ vis,m.d1<(st vis).1.length/\m.q<(st vis).1.length
 hS:∀ vis,(st vis).1[m.it]? = some (.mp i)
 hi:∀ vis,(st vis).2[i]? = some (Dz (.mp mi) .some)
 hm:∀ vis,∃ r info,(st vis).2[mi]? = some r/\r.lp=some info/\r.live=false
 H9:∀ vis (C:Ctx) (bm:Nat) (s:lQ),C.H=(st vis).2.set i (Dz (.mp mi) s)->RH P C->C.ρ mi=some bm->∃ es,C.w.heap[bm]? = some (.map es N)/\es.size=N/\∀(j:Nat) e,es[j]? = some e->e.born=j/\∃ kv,Ok j kv/\RV P C kv.1 e.key/\RV P C kv.2 e.val
 step:∀ vis j kv bm s seen c,(∀ x∈vis,Ok x.1 x.2)->Ok j kv->(vis.map (·.1)).Nodup->j∉vis.map (·.1)->(∀ x∈vis,x.1<N)->j<N ->
  Xd P E n f m l (st vis).1 ((st vis).2.set i (Dz (.mp mi) (.at bm s seen c))) kv.1 kv.2=some ((st (vis++[(j,kv)])).1,(st (vis++[(j,kv)])).2.set i (Dz (.mp mi) (.at bm s seen c)))
theorem Xe{H:List Row}{i:Nat}{a b:Row}:(H.set i a).set i b=H.set i b:=List.set_set ..
theorem NQ{H:List Row}{i:Nat}{r a:Row}(h:H[i]? = some r):(H.set i a)[i]? = some a:=by
 rw[Ax,Ak rfl,Ak (Ad.1 h).1]
theorem OE{P:Program}{C:Ctx}(hR:RH P C){H:List Row}{i br:Nat}{p:PV}{s s':lQ}{r0:Row}(hr0:H[i]? = some r0)(hH:C.H=H.set i (Dz p s))(hρ:C.ρ i=some br)(hro:C.ro=0){W:World}
  (w1:W.os=C.w.os) (w2:W.tape=C.w.tape) (w3:W.output=C.w.output) (w4:W.heap.size=C.w.heap.size) (w5:∀ x,x≠br->W.heap[x]? = C.w.heap[x]?)
  (hI:∀ C':Ctx,C'.w=W->QV P C' br ⟨RX p,.iter s'⟩ s'):I7 P C { C with H:=H.set i (Dz p s'),w:=W } (H.set i (Dz p s')):=by
 have g1:C.H[i]? = some (Dz p s):=by rw[hH];exact NQ hr0
 obtain⟨o,ho,hes⟩:=((hR.Ii i br _ ⟨RX p,.iter s⟩ hρ g1 rfl rfl).aq s rfl).obj;have:=RW (st:=.iter s') hR g1 (info:=⟨RX p,.iter s⟩) rfl rfl hρ (by rw[hro];exact AT _) hes ho w1 w2 w3 w4 w5 fun C' _ hw=>
  ⟨fun hf=>(by cases hf),fun _ _ _ he=>(by cases he),fun _ _ _ he=>(by cases he),fun t he=>by cases he;exact hI C' hw⟩
 have e:C.H.set i { Dz p s with lp:=some ⟨RX p,.iter s'⟩ }=H.set i (Dz p s'):=by rw[hH,Xe];rfl
 rw[show(⟨RX p,.iter s⟩:FD).k=RX p from rfl,e]at this;exact this
theorem Zk{es:Array MapEntry}(h:∀(j:Nat) e,es[j]? = some e->e.born=j):es.toList.map (·.born)=List.range es.size:=by
 refine Bf fun j=>?_
 rw[An,AL];by_cases hj:j<es.size
 ·rw[AD hj,Be hj,AE,h j _ (AD hj)]
 ·rw[Array.getElem?_eq_none (by omega),AG (by simp;omega)];rfl
theorem eval_put{a:Act}{d:Tmp}{v:Value}(h:d<a.tmps.size):(a.put (some d) v).eval (.tmp d)=v:=by
 simp[Act.put,Act.eval,Array.getD,h]
theorem PC{a:Act}{d t:Tmp}{v:Value}(h:t≠d):(a.put (some d) v).eval (.tmp t)=a.eval (.tmp t):=by
 simp only[Act.put,Act.eval];rw[Bk,Bk,AW,Aq (fun e=>h e.symm)]
theorem Mu(a:Act)(d:Option Tmp)(v:Value):(a.put d v).tmps.size=a.tmps.size:=by cases d <;> simp[Act.put]
theorem put_defers(a:Act)(d:Option Tmp)(v:Value):(a.put d v).defers=a.defers:=by cases d <;> rfl
theorem NR{P:Program}{w:World}{vs:Array Value}{v:Value}{n:Nat}(h:vs[n]? = some v):(Instr.extract (.tuple vs) n).run P w=.ok v w:=by
 unfold Instr.extract;simp only[h];rfl
section
variable {P:Program} {E:CY} {n:Nat} {f:FuncId} {b:Code} {m:ML} {l:List Tmp} {i mi N:Nat} {Ok:Nat->PV×PV->Prop} {st:List (Nat×(PV×PV))->List PV×List Row}
theorem uy(hE:CG P E.env)(hml:MLS b m)(hb:EB P f m.rest)(L:T4 P E n f m l i mi N Ok st){r:Option Nat}{Q:Exit->Act->World->Prop}{K:Act->World->Prop}{br bm:Nat}
  {vis:List (Nat×(PV×PV))} {seen:Array Nat} {C:Ctx} {a:Act} (hok:∀ x∈vis,Ok x.1 x.2) (hlt:∀ x∈vis,x.1<N) (hnd:(vis.map (·.1)).Nodup) (hseen:seen.toList=vis.map (·.1))
  (hH:C.H=(st vis).2.set i (Dz (.mp mi) (.at bm N seen N))) (hro:C.ro=0) (hR:RH P C) (hs:FV P C (st vis).1 a.tmps) (hro2:FE r C.w) (hρi:C.ρ i=some br) (hρm:C.ρ mi=some bm)
  (hover:∀(a':Act) (C':Ctx),(vis.map (·.1)).Perm (List.range N)->LU C.w a C'.w a'->C'.H=(st vis).2.set i (Dz (.mp mi) .some)->Ext C C'->RH P C'->FV P C' (((st vis).1.set m.d1 .any).set m.q .any) a'.tmps->Q (.exit m.out) a' C'.w)
  (hgo:∀ j kv (a':Act) (C':Ctx),Ok j kv->j∉vis.map (·.1)->j<N->LU C.w a C'.w a'->C'.H=(st (vis++[(j,kv)])).2.set i (Dz (.mp mi) (.at bm N (seen.push j) N))->Ext C C'->RH P C'->FV P C' (st (vis++[(j,kv)])).1 a'.tmps->K a' C'.w):
  b.wpIn (Fr r) 0 P (Exit.then K Q) a C.w:=by
 obtain⟨es,hes,hsz,hent⟩:=L.H9 vis C bm _ hH hR hρm;have hri:C.H[i]? = some (Dz (.mp mi) (.at bm N seen N)):=by rw[hH];exact NQ (L.hi vis)
 have hr:C.w.heap[br]? = some (.mapIter (some bm) N seen N):=(hR.Ii i br _ ⟨RX (.mp mi),.iter (.at bm N seen N)⟩ hρi hri rfl rfl).aq _ rfl;have hbr:bm≠br:=fun e=>by rw[e,hr]at hes;cases hes
 have hbo:=Zk fun j e h=>(hent j e h).1
 have hold:∀ x∈es.toList,x.born<N:=fun x hx=>by
  have:x.born∈es.toList.map (·.born):=Br hx;rw[hbo,hsz]at this;exact Bo.1 this
 have hev:a.eval (.tmp m.it)=.pointer (some ⟨br,0,none⟩):=by
  have h1:=hs.ev (.tmp m.it);have h2:ev (st vis).1 (.tmp m.it)=.mp i:=by show(st vis).1.getD m.it _=_;rw[Av,L.hS vis];rfl
  rw[h2]at h1;generalize a.eval (.tmp m.it)=V at h1;cases h1 with
  |mp q1 q2 q3=>
   obtain⟨r',info,g1,g2,g3,rfl⟩:=q2;rw[hri]at g1;cases g1;cases g2;rw[hρi]at q3;cases q3;rfl
 have hd1:m.d1<a.tmps.size:=by rw[hs.1];exact(L.hd vis).1
 have hq1:m.q<a.tmps.size:=by rw[hs.1];exact(L.hd vis).2
 rw[hml.b];refine wpIn_seq (wpIn_region_list ?_);rw[hml.o1];refine wpListIn_plain hml.g1 fun K1 hK1=>?_
 rcases run_next_at (P:=P) C.w m.o1.type br bm N N seen es N hr hes hold (Al _) with ⟨h0,hrun⟩ |⟨e,he,w1,hal,hrun⟩
 ·have hx1:(execOp a.eval m.o1).run P C.w=.ok (.value (.tuple #[.bool false])) C.w:=by
   unfold execOp;simp only[hml.p1,Sem.run_bind,hev,hrun,Result.andThen_ok];rfl
  refine D9 hx1 (hK1 _ _ (wpListIn_plain hml.g2 fun K2 hK2=>?_));have hx2:(execOp (a.put m.o1.dst (.tuple #[.bool false])).eval m.o2).run P C.w=.ok (.value (.bool false)) C.w:=by
   unfold execOp;rw[hml.d1];simp only[hml.p2,Sem.run_bind,eval_put hd1,NR (vs:=#[.bool false]) (n:=0) rfl,Result.andThen_ok];rfl
  refine D9 hx2 (hK2 _ _ (wpListIn_nil ?_));have T:=OE (s':=.some) hR (L.hi vis) hH hρi hro (W:=C.w) rfl rfl rfl rfl (fun _ _=>rfl) fun C' hw=>⟨_,_,_,_,by rw[hw];exact hr⟩
  have hs2:FV P C (((st vis).1.set m.d1 .any).set m.q .any) ((a.put m.o1.dst (.tuple #[.bool false])).put m.o2.dst (.bool false)).tmps:=by
   have h1:=hs.put (d:=m.o1.dst) (p:=.any) (v:=.tuple #[.bool false]) .any;have h2:=h1.put (d:=m.o2.dst) (p:=.any) (v:=.bool false) .any;rw[hml.d1,hml.d2]at h2;rw[hml.d1,hml.d2];exact h2
  have hperm:(vis.map (·.1)).Perm (List.range N):=by
   refine(List.perm_ext_iff_of_nodup hnd Cw).2 fun j=>⟨fun hj=>?_,fun hj=>?_⟩
   ·obtain⟨x,hx,rfl⟩:=AX.1 hj;exact Bo.2 (hlt x hx)
   ·have hj':=Bo.1 hj;have hje:es[j]? = some (es[j]'(by rw[hsz];exact hj')):=AD _;have:=Go.all_seen es seen h0 _ (Array.mem_toList_iff.2 (Array.getElem_mem _):es[j]'(by rw[hsz];exact hj')∈es.toList);rw[(hent j _ hje).1]at this;have h3:j∈seen.toList:=by simpa using this
    rw[hseen]at h3;exact h3
  have fin:=hover _ _ hperm (.of_eq (by rw[put_defers,put_defers])) T.H T.ext T.rh (hs2.mono T.ext);refine wpIn_seq (wpIn_cond (t:=false) ?_ (wpIn_exit fin));rw[hml.d2];exact eval_put (by rw[Mu];exact hq1)
 ·obtain⟨j,hj,hnc⟩:=gO he;obtain⟨hbj,kv,hOk,hk,hv⟩:=hent j e hj;have Tm:j<N:=by rw[<- hsz];exact(At.1 hj).1
  have hjn:j∉vis.map (·.1):=fun hm=>by
   rw[<- hseen]at hm;rw[hbj]at hnc;have:seen.contains j=true:=by simpa using hm
   rw[this]at hnc;cases hnc
  rw[hbj]at hrun;have w1o:w1.os=C.w.os/\w1.tape=C.w.tape/\w1.output=C.w.output/\w1.heap=C.w.heap:=by rcases hal with rfl |rfl <;> exact⟨rfl,rfl,rfl,rfl⟩
  have hbl:br<C.w.heap.size:=(At.1 hr).1;have hWo:∀ x,x≠br->(setBlock w1 br (.mapIter (some bm) N (seen.push j) N)).heap[x]? = C.w.heap[x]?:=fun x hx=>by
   show(w1.heap.setIfInBounds br _)[x]? = _
   rw[AW,Aq (fun h=>hx h.symm),w1o.2.2.2]
  have hWn:(setBlock w1 br (.mapIter (some bm) N (seen.push j) N)).heap[br]? = some (.mapIter (some bm) N (seen.push j) N):=by
   show(w1.heap.setIfInBounds br _)[br]? = _
   rw[AW,Ak rfl,Ak (by rw[w1o.2.2.2];exact hbl)]
  have T:=OE (s':=.at bm N (seen.push j) N) hR (L.hi vis) hH hρi hro (W:=setBlock w1 br (.mapIter (some bm) N (seen.push j) N)) w1o.1 w1o.2.1 w1o.2.2.1 (by show(w1.heap.setIfInBounds br _).size=_;simp[w1o.2.2.2]) hWo fun C' hw=>by
   show C'.w.heap[br]? = _
   rw[hw];exact hWn
  generalize hW:setBlock w1 br (.mapIter (some bm) N (seen.push j) N)=W at T hrun hWo hWn;have hx1:(execOp a.eval m.o1).run P C.w=.ok (.value (.tuple #[.bool true,e.key,e.val])) W:=by
   unfold execOp;simp only[hml.p1,Sem.run_bind,hev,hrun,Result.andThen_ok];rfl
  refine D9 hx1 (hK1 _ _ (wpListIn_plain hml.g2 fun K2 hK2=>?_));have hx2:(execOp (a.put m.o1.dst (.tuple #[.bool true,e.key,e.val])).eval m.o2).run P W=.ok (.value (.bool true)) W:=by
   unfold execOp;rw[hml.d1];simp only[hml.p2,Sem.run_bind,eval_put hd1,NR (vs:=#[.bool true,e.key,e.val]) (n:=0) rfl,Result.andThen_ok];rfl
  refine D9 hx2 (hK2 _ _ (wpListIn_nil ?_));refine wpIn_seq (wpIn_cond (t:=true) (by rw[hml.d2];exact eval_put (by rw[Mu];exact hq1)) (wpIn_skip ?_));show(Code.block m.nx (.seq (.region m.i2 m.ops false) m.rest)).wpIn (Fr r) 0 P (Exit.then K Q) _ W
  refine wpIn_block (wpIn_seq (wpIn_region_list ?_));rw[hml.oe];refine wpListIn_plain hml.ge fun K3 hK3=>?_
  have hev2:((a.put m.o1.dst (.tuple #[.bool true,e.key,e.val])).put m.o2.dst (.bool true)).eval (.tmp m.it)=.pointer (some ⟨br,0,none⟩):=by
   rw[hml.d1,hml.d2,PC hml.n2,PC hml.n1,hev]
  have hx3:(execOp ((a.put m.o1.dst (.tuple #[.bool true,e.key,e.val])).put m.o2.dst (.bool true)).eval m.oe).run P W=.ok (.value (.tuple #[e.key,e.val])) W:=by
   unfold execOp;simp only[hml.pe,Sem.run_bind,hev2,run_entry_at W br bm N seen es N e (by rw[hbj];exact hWn) (by rw[hWo bm hbr];exact hes) (mem_left he).1 (by rw[hbo];exact Cw),Result.andThen_ok];rfl
  refine D9 hx3 (hK3 _ _ ?_);have hs3:FV P { C with H:=(st vis).2.set i (Dz (.mp mi) (.at bm N (seen.push j) N)),w:=W } ((((st vis).1.set m.d1 .any).set m.q (.val (.bool true))).set m.de (.El [kv.1,kv.2]))
    (((a.put m.o1.dst (.tuple #[.bool true,e.key,e.val])).put m.o2.dst (.bool true)).put m.oe.dst (.tuple #[e.key,e.val])).tmps:=by
   have h1:=(hs.mono T.ext).put (d:=m.o1.dst) (p:=.any) (v:=.tuple #[.bool true,e.key,e.val]) .any;have h2:=h1.put (d:=m.o2.dst) (p:=.val (.bool true)) (v:=.bool true) .val;have h3:=h2.put (d:=m.oe.dst) (p:=.El [kv.1,kv.2]) (v:=.tuple #[e.key,e.val]) (.El rfl fun x c u q1 q2=>by
    match x with
    |0=>simp at q1 q2;subst q1;subst q2;exact hk.mono T.ext
    |1=>simp at q1 q2;subst q1;subst q2;exact hv.mono T.ext
    |x+2=>simp at q1)
   rw[hml.d1,hml.d2,hml.de]at h3;rw[hml.d1,hml.d2,hml.de];exact h3
  refine Zj hE hb (L.step vis j kv bm N (seen.push j) N hok hOk hnd hjn hlt Tm) (C:={ C with H:=(st vis).2.set i (Dz (.mp mi) (.at bm N (seen.push j) N)),w:=W }) rfl hro T.rh hs3 (hro2.mono T.ext) fun a' C' hd hH' hx hR' hs'=>?_
  have hd0:LU C.w a W (((a.put m.o1.dst (.tuple #[.bool true,e.key,e.val])).put m.o2.dst (.bool true)).put m.oe.dst (.tuple #[e.key,e.val])):=.of_eq (by rw[put_defers,put_defers,put_defers]);have hd2:LU C.w a C'.w a':=LU.trans (C:={ C with H:=(st vis).2.set i (Dz (.mp mi) (.at bm N (seen.push j) N)),w:=W }) hd0 T.ext.size T.rh hx hd;exact hgo j kv a' C' hOk hjn Tm hd2 hH' (T.ext.trans hx) hR' hs'
theorem mM(hE:CG P E.env)(hml:MLS b m)(hb:EB P f m.rest)(L:T4 P E n f m l i mi N Ok st){r:Option Nat}{C0:Ctx}{a0:Act}{Q:Exit->Act->World->Prop}{br bm:Nat}
  (hQ:∀ vis (a':Act) (C':Ctx),(∀ x∈vis,Ok x.1 x.2)->(vis.map (·.1)).Perm (List.range N)->LU C0.w a0 C'.w a'->C'.H=(st vis).2.set i (Dz (.mp mi) .some)->Ext C0 C'->RH P C'->FV P C' (((st vis).1.set m.d1 .any).set m.q .any) a'.tmps->Q (.exit m.out) a' C'.w):
  ∀(k:Nat) (vis:List (Nat×(PV×PV))) (seen:Array Nat) (C:Ctx) (a:Act),N<=vis.length+k->(∀ x∈vis,Ok x.1 x.2)->(∀ x∈vis,x.1<N)->(vis.map (·.1)).Nodup->seen.toList=vis.map (·.1) ->
   LU C0.w a0 C.w a->Ext C0 C->C.H=(st vis).2.set i (Dz (.mp mi) (.at bm N seen N))->C.ro=0->RH P C->FV P C (st vis).1 a.tmps->FE r C.w->C.ρ i=some br->C.ρ mi=some bm ->
   Code.roundsIn (Fr r) 0 P b Q (k+1) a C.w:=by
 have one:∀(k:Nat) (vis:List (Nat×(PV×PV))) (seen:Array Nat) (C:Ctx) (a:Act),(∀ x∈vis,Ok x.1 x.2)->(∀ x∈vis,x.1<N)->(vis.map (·.1)).Nodup->seen.toList=vis.map (·.1) ->
   LU C0.w a0 C.w a->Ext C0 C->C.H=(st vis).2.set i (Dz (.mp mi) (.at bm N seen N))->C.ro=0->RH P C->FV P C (st vis).1 a.tmps->FE r C.w->C.ρ i=some br->C.ρ mi=some bm ->
   (∀ j kv (a':Act) (C':Ctx),Ok j kv->j∉vis.map (·.1)->j<N->LU C0.w a0 C'.w a'->Ext C0 C'->C'.H=(st (vis++[(j,kv)])).2.set i (Dz (.mp mi) (.at bm N (seen.push j) N))->C'.ro=0->RH P C'->FV P C' (st (vis++[(j,kv)])).1 a'.tmps->FE r C'.w->C'.ρ i=some br->C'.ρ mi=some bm->Code.roundsIn (Fr r) 0 P b Q k a' C'.w) ->
   Code.roundsIn (Fr r) 0 P b Q (k+1) a C.w:=by
  intro k vis seen C a hok hlt hnd hseen hd hx hH hro hR hs hro2 hρi hρm hgo;rw[roundsIn_succ];have hri:C.H[i]? = some (Dz (.mp mi) (.at bm N seen N)):=by rw[hH];exact NQ (L.hi vis)
  obtain⟨rm,im,q1,q2,q3⟩:=L.hm vis;have hrm:C.H[mi]? = some rm:=by rw[hH,Ax,Aq (fun e=>L.ne e.symm)];exact q1
  refine uy hE hml hb L hok hlt hnd hseen hH hro hR hs hro2 hρi hρm (fun a' C' hp hd' hH' hx' hR' hs'=>hQ vis a' C' hok hp (hd.trans hx.size hR hx' hd') hH' (hx.trans hx') hR' hs') fun j kv a' C' hOk hjn Tm hd' hH' hx' hR' hs'=>?_
  exact hgo j kv a' C' hOk hjn Tm (hd.trans hx.size hR hx' hd') (hx.trans hx') hH' (by rw[hx'.ro];exact hro) hR' hs' (hro2.mono hx') ((hx'.lp i _ _ hri rfl rfl).2 br hρi) ((hx'.lp mi rm im hrm q2 q3).2 bm hρm)
 intro k;induction k with
 |zero=>
  intro vis seen C a hk hok hlt hnd hseen hd hx hH hro hR hs hro2 hρi hρm;refine one 0 vis seen C a hok hlt hnd hseen hd hx hH hro hR hs hro2 hρi hρm fun j kv a' C' hOk hjn Tm=>?_
  have h1:(j::vis.map (·.1)).Nodup:=Ca.2 ⟨hjn,hnd⟩;have h2:(j::vis.map (·.1)) ⊆ List.range N:=fun x hx=>by
   rcases AK.1 hx with rfl |hx
   ·exact Bo.2 Tm
   ·obtain⟨y,hy,rfl⟩:=AX.1 hx;exact Bo.2 (hlt y hy)
  have:=List.Nodup.length_le_of_subset h1 h2;simp at this;omega
 |succ k ih=>
  intro vis seen C a hk hok hlt hnd hseen hd hx hH hro hR hs hro2 hρi hρm;refine one (k+1) vis seen C a hok hlt hnd hseen hd hx hH hro hR hs hro2 hρi hρm fun j kv a' C' hOk hjn Tm hd' hx' hH' hro' hR' hs' hro2' hρi' hρm'=>?_
  refine ih (vis++[(j,kv)]) (seen.push j) C' a' (by simp;omega) (fun x hx=>?_) (fun x hx=>?_) ?_ (by simp[hseen]) hd' hx' hH' hro' hR' hs' hro2' hρi' hρm'
  ·rcases A3.1 hx with hx |hx
   ·exact hok x hx
   ·rw[AI]at hx;subst hx;exact hOk
  ·rcases A3.1 hx with hx |hx
   ·exact hlt x hx
   ·rw[AI]at hx;subst hx;exact Tm
  ·rw[Bz,AV,Bs];refine CX.2 ⟨hnd,by simp,fun x hx y hy=>?_⟩;rw[AI]at hy;subst hy;exact fun e=>hjn (e▸hx)
theorem yP(hE:CG P E.env)(hml:MLS b m)(hb:EB P f (.loop b))(L:T4 P E n f m l i mi N Ok st){r:Option Nat}{C:Ctx}{a:Act}{Q:Exit->Act->World->Prop}
  (hH:C.H=(st []).2.set i (Dz (.mp mi) (.fresh N))) (hro:C.ro=0) (hR:RH P C) (hs:FV P C (st []).1 a.tmps) (hro2:FE r C.w)
  (hQ:∀ vis (a':Act) (C':Ctx),(∀ x∈vis,Ok x.1 x.2)->(vis.map (·.1)).Perm (List.range N)->LU C.w a C'.w a'->C'.H=(st vis).2.set i (Dz (.mp mi) .some)->Ext C C'->RH P C'->FV P C' (((st vis).1.set m.d1 .any).set m.q .any) a'.tmps->Q (.exit m.out) a' C'.w):
  (Code.loop b).wpIn (Fr r) 0 P Q a C.w:=by
 have hri:C.H[i]? = some (Dz (.mp mi) (.fresh N)):=by rw[hH];exact NQ (L.hi [])
 have h1:=hs.ev (.tmp m.it);have h2:ev (st []).1 (.tmp m.it)=.mp i:=by show(st []).1.getD m.it _=_;rw[Av,L.hS []];rfl
 rw[h2]at h1;obtain⟨br,hρi⟩:∃ br,C.ρ i=some br:=by cases h1 with |mp _ _ q3=>exact⟨_,q3⟩
 obtain⟨bm,hsl,hr⟩:=(hR.Ii i br _ ⟨RX (.mp mi),.iter (.fresh N)⟩ hρi hri rfl rfl).aq _ rfl;have hmv:RV P C (.mp mi) (.map (some bm)):=hsl.2 0 _ _ rfl rfl;have hρm:C.ρ mi=some bm:=by
  generalize hV:Value.map (some bm)=V at hmv;cases hmv with
  |mp _ q2 q3=>
   obtain⟨r',info,_,_,_,e⟩:=q2;rw[e]at hV;unfold fg at hV;split at hV
   ·cases hV;exact q3
   ·cases hV
 have T:=OE (s':=.at bm N #[] N) hR (L.hi []) hH hρi hro (W:=C.w) rfl rfl rfl rfl (fun _ _=>rfl) fun C' hw=>by show C'.w.heap[br]? = _;rw[hw];exact hr
 have hb':EB P f m.rest:=by
  have h3:EB P f b:=hb.sub (.loop .here);rw[hml.b]at h3;exact h3.sub (.V0 (.V0 (.block (.V0 .here))))
 refine wpIn_loop_rounds (N+1) (mM hE hml hb' L (C0:=C) (a0:=a) hQ N [] #[] { C with H:=(st []).2.set i (Dz (.mp mi) (.at bm N #[] N)),w:=C.w } a (by simp) (fun x hx=>by cases hx) (fun x hx=>by cases hx) (by simp) rfl (.of_eq rfl) T.ext T.H hro T.rh (hs.mono T.ext) hro2 hρi hρm)
end
end Go.Hx
namespace Go.Hx
variable{P:Program}{C:Ctx}
def Wk(P:Program)(S:List PV)(H:List Row)(S':List PV)(H':List Row):Prop:=
 ∀(C:Ctx) (t:Array Value),C.H=H->C.ro=0->RH P C->FV P C S t->∃ C':Ctx,C'.w=C.w/\Ext C C'/\C'.H=H'/\C'.ro=0/\RH P C'/\FV P C' S' t
theorem Wk.refl{S:List PV}{H:List Row}:Wk P S H S H:=fun C _ hH hro hR hs=>⟨C,rfl,.refl C,hH,hro,hR,hs⟩
theorem Wk.trans{S1 S2 S3:List PV}{H1 H2 H3:List Row}(h:Wk P S1 H1 S2 H2)(k:Wk P S2 H2 S3 H3):Wk P S1 H1 S3 H3:=fun C t hH hro hR hs=>by
 obtain⟨C1,e1,x1,h1,o1,r1,s1⟩:=h C t hH hro hR hs;obtain⟨C2,e2,x2,h2,o2,r2,s2⟩:=k C1 t h1 o1 r1 s1;exact⟨C2,e2.trans e1,x1.trans x2,h2,o2,r2,s2⟩
theorem Wk.KC{S:List PV}{H:List Row}(l:Option (List Tmp)):Wk P S H (Fh l S) H:=fun C _ hH hro hR hs=>⟨C,rfl,.refl C,hH,hro,hR,EI l hs⟩
theorem Wk.slot{S S':List PV}{H:List Row}(hl:S'.length=S.length)(h:∀(j:Nat) p p',S[j]? = some p->S'[j]? = some p'->∀(C:Ctx) (V:Value),RV P C p V->RV P C p' V):Wk P S H S' H:=fun C t hH hro hR hs=>by
 refine⟨C,rfl,.refl C,hH,hro,hR,by rw[hl];exact hs.1,fun j p' v g1 g2=>?_⟩;have hj:j<S.length:=by rw[<- hl];exact(Ad.1 g1).1
 exact h j _ p' (Ae hj) g1 C v (hs.2 j _ v (Ae hj) g2)
theorem Wk.drop{S:List PV}{H:List Row}(n:Nat)(h2:n<=H.length)(h3:DF n (H.take n)=true)(h4:((H.drop n).all fun r=>r.lp.isNone)=true):Wk P S H (S.map (YD P H n)) (H.take n++List.replicate (H.length-n) Dt):=fun C t hH hro hR hs=>by
 subst hH;have h1:C.ro<=n:=by rw[hro];exact AT _
 refine⟨(C.cut n False C.ro).Ek (C.H.length-n),rfl,NH h2 h1 h4,rfl,hro,NG _ (hR.cut h2 h1 h3),by rw[AP];exact hs.1,fun i p v g1 g2=>?_⟩;rw[An]at g1;obtain⟨q,hq,rfl⟩:=Af.1 g1;exact LF hR h2 h1 (hs.2 i q v hq g2)
theorem Wk.Gy{S:List PV}{H:List Row}{i:Nat}{K E:TypeId}{D D':List (PV×PV)}{k:Gf}(h:IA H i=some (k,K,E,D'))(hp:D'.Perm D)(hd:D.Pairwise fun x y=>x.1.cells≠y.1.cells)(r:Row)(hr:H[i]? = some r):
  Wk P S H S (H.set i { r with lp:=some ⟨k,.Gy K E D⟩ }):=fun C t hH hro hR hs=>by
 subst hH;obtain⟨r0,g1,g2,g3⟩:=J5 h;rw[hr]at g1;cases g1;cases hρ:C.ρ i with
 |some b=>
  have hB:=(hR.Ii i b r _ hρ hr g3 g2).map K E D' rfl;obtain⟨es,c,hes,_⟩:=hB.mem;have T:=RW (st:=.Gy K E D) (W:=C.w) hR hr g3 g2 hρ (by rw[hro];exact AT _) hes rfl rfl rfl rfl rfl (fun _ _=>rfl) fun C' hx hw=>
   ⟨fun hf=>(by cases hf),fun _ _ _ he=>(by cases he),fun K2 E2 D2 he=>by
    cases he;exact⟨D',hp,hB.via (fun _ _ _ hv=>hv.mono hx) (fun es c h'=>by rw[hw];exact h'),hd⟩,fun _ he=>(by cases he)⟩
  exact⟨{ C with H:=C.H.set i { r with lp:=some ⟨k,.Gy K E D⟩ } },rfl,T.ext,T.H,hro,T.rh,hs.mono T.ext⟩
 |none=>
  have hi:i<C.H.length:=(Ad.1 hr).1;have hrowi:C.row? i=none:=by unfold Ctx.row? rowAt;rw[hr];simp[g2]
  have hrow:∀ x,rowAt (C.H.set i { r with lp:=some ⟨k,.Gy K E D⟩ }) x=C.row? x:=by
   intro x;unfold rowAt;rw[Ax];by_cases hx:i=x
   ·subst hx;simp only[BV,hi,g2,A4,Cd,hrowi]
   ·rw[Aq hx];rfl
  have hx:Ext C { C with H:=C.H.set i { r with lp:=some ⟨k,.Gy K E D⟩ } }:=by
   refine⟨rfl,rfl,rfl,Al _,fun _ _ _=>rfl,fun x c e fr hh=>⟨c,fr,hh,rfl⟩,by simp,fun x r' _ hr'=>⟨r',by rw[<- hr'];exact(hrow x).symm,rfl,rfl,Al _,fun _=>⟨rfl,fun _ h=>h⟩⟩,fun _ h=>.inl h,fun _ h=>.inl h,rfl,rfl,fun x hx=>⟨?_,rfl⟩,fun x q info' q1 q2 q3=>⟨?_,fun _ h=>h⟩,fun x rc hh=>⟨rc,hh⟩⟩
   ·rw[hro]at hx;omega
   ·show ∃ r' st',(C.H.set i _)[x]? = some r'/\_
    by_cases hxi:i=x
    ·subst hxi;rw[hr]at q1;cases q1;rw[g3]at q2;cases q2;exact⟨{ r with lp:=some ⟨k,.Gy K E D⟩ },.Gy K E D,by rw[Ax,Ak rfl,Ak hi],rfl,g2⟩
    ·exact⟨q,info'.st,by rw[Ax,Aq hxi];exact q1,q2,q3⟩
  refine⟨{ C with H:=C.H.set i { r with lp:=some ⟨k,.Gy K E D⟩ } },rfl,hx,rfl,hro,⟨hR.inj,fun x c hx'=>?_,fun x c q q1 q2=>?_,by simpa using hR.ro,hR.IU,hR.Kq,fun x c q info' q1 q2 q3 q4=>?_,hR.LQ.mono hx⟩,hs.mono hx⟩
  ·rcases hR.Ly x c hx' with ⟨q,hq⟩ |⟨q,info',q1,q2,q3⟩
   ·exact .inl ⟨q,by rw[<- hq];exact hrow x⟩
   ·obtain⟨⟨q',st',z1,z2,z3⟩,_⟩:=hx.lp x q info' q1 q2 q3;exact .inr ⟨q',_,z1,z2,z3⟩
  ·exact(hR.GP x c q q1 (by rw[<- q2];exact(hrow x).symm)).mono hx rfl
  ·have hxi:i≠x:=fun e=>by subst e;rw[hρ]at q1;cases q1
   have hq2:(C.H.set i { r with lp:=some ⟨k,.Gy K E D⟩ })[x]? = some q:=q2;rw[Ax,Aq hxi]at hq2;exact(hR.Ii x c q info' q1 hq2 q3 q4).mono hx rfl
theorem CG.pJ{E:CY}(hE:CG P E.env){n:Nat}{k i:Nat}{fn:Func}{body b:Code}(hf:P.funcs[k]? = some fn)(hb:fn.body=some body)(h0:(loops body).filter (fun b=>Ew b==i)=[b])
  {ml:ML} (hml:HW b=some ml) (l _:List Tmp) (sel:List Bool) (sh:S1) {pre:LS->Bool} {fin:LS->DT (PX×List PV×List Row)}
  (hstep:∀ s r,pre s=true->(fin s).run=some r->r.1=.exit ml.out/\∃(ii mi N:Nat) (Ok:Nat->PV×PV->Prop) (st:List (Nat×(PV×PV))->List PV×List Row),
   T4 P E n k ml l ii mi N Ok st/\(sh.put s).1=(st []).1/\(sh.put s).2=(st []).2.set ii (Dz (.mp mi) (.fresh N)) /\
   ∀ vis,(∀ x∈vis,Ok x.1 x.2)->(vis.map (·.1)).Perm (List.range N)->Wk P (((st vis).1.set ml.d1 .any).set ml.q .any) ((st vis).2.set ii (Dz (.mp mi) .some)) r.2.1 r.2.2):
  CG P (E.Dl k i l sel sh pre fin).env:=
 hE.Lh hf hb h0 fun hs ro S H d x S' H' hc hd=>by
  obtain⟨rfl,s,hg,hp,hr⟩:=Xb hc hd;obtain⟨e1,e2⟩:=S1.FG S _ s hg;obtain⟨hx,ii,mi,N,Ok,st,L,h1,h2,h3⟩:=hstep s _ hp hr;refine OC sel ?_;rw[e2,e1];intro r C a hH hro hR hs' hro2 Q hQ;dsimp only at hx;subst hx;refine yP hE (U2 hml) hs L (by rw[hH];exact h2) hro hR (by rw[<- h1];exact hs') hro2 fun vis a' C' hok hpm hdf hH' hx' hR' hs2=>?_
  obtain⟨C2,w2,x2,hH2,_,hR2,hs3⟩:=h3 vis hok hpm C' a'.tmps hH' (by rw[hx'.ro];exact hro) hR' hs2;have:=hQ a' C2 (by rw[w2];exact hdf) hH2 (hx'.trans x2) hR2 hs3;rw[w2]at this;exact this
def posOf:List Nat->Nat->Option Nat
 | [],_=>none
 |k::ks,i=>match k==i with |true=>some 0 |false=>(posOf ks i).map (· + 1)
theorem Ef:∀{K:List Nat} {i j:Nat},posOf K i=some j->K[j]? = some i
 | [],i,j,h=>by simp[posOf]at h
 |k::ks,i,j,h=>by
  simp only[posOf]at h;split at h
  ·rename_i hk;cases h;simpa using hk
  ·obtain⟨m,hm,rfl⟩:=Af.1 h;simpa using Ef hm
theorem Gd:∀{K:List Nat} {i:Nat},posOf K i=none->i∉K
 | [],i,_=>by simp
 |k::ks,i,h=>by
  simp only[posOf]at h;split at h
  ·cases h
  ·rename_i hk;have:posOf ks i=none:=by simpa using h
   have h1:=Gd this;have h2:k≠i:=by simpa using hk
   simp only[AK,not_or];exact⟨fun e=>h2 e.symm,h1⟩
theorem NT{K:List Nat}(hn:K.Nodup){i j:Nat}(h:K[j]? = some i):posOf K i=some j:=by
 cases hp:posOf K i with
 |none=>exact absurd (Ag h) (Gd hp)
 |some m=>
  have:=Ef hp;have e:=(C6 (Ad.1 h).1 hn).1 (h.trans this.symm);rw[e]
def Ctx.pick(C:Ctx)(K:List Nat)(Hs:List Row)(m:Nat):Ctx:=
 { ρ:=fun j=>(K[j]?).bind C.ρ,H:=Hs,w:=C.w,fo:=fun b=>C.fo b\/∃ i,i∉K/\C.ρ i=some b,ro:=m }
structure Jw(C:Ctx)(K:List Nat)(Hs:List Row)(m:Nat):Prop where
 nodup:K.Nodup
 len:Hs.length=K.length
 get:∀(j:Nat) i,K[j]? = some i->C.H[i]? = Hs[j]? /\ (m<=j->C.ro<=i)
 most:m<=Hs.length
theorem Jw.lt{K:List Nat}{Hs:List Row}{m:Nat}(h:Jw C K Hs m){i:Nat}(hi:i∈K):i<C.H.length:=by
 obtain⟨j,hj⟩:=Bh hi;have h1:=(h.get j i hj).1;have h2:j<Hs.length:=by rw[h.len];exact(Ad.1 hj).1
 rw[Ae h2]at h1;exact(Ad.1 h1).1
theorem ID{K:List Nat}{Hs:List Row}{m:Nat}(h:Jw C K Hs m){j i:Nat}(hj:K[j]? = some i):(C.pick K Hs m).row? j=C.row? i:=by
 show rowAt Hs j=rowAt C.H i
 unfold rowAt;rw[(h.get j i hj).1]
theorem Sd{K:List Nat}{Hs:List Row}{m:Nat}{b:Nat}(hb:¬C.KI b):¬(C.pick K Hs m).KI b:=by
 rintro (⟨j,hj⟩ |hf |⟨i,_,hi⟩)
 ·simp only[Ctx.pick]at hj;obtain⟨i,_,hi⟩:=AH.1 hj;exact hb (.inl ⟨i,hi⟩)
 ·exact hb (.inr hf)
 ·exact hb (.inl ⟨i,hi⟩)
theorem Se{H:List Row}{i:Nat}{r:Row}(h:rowAt H i=some r):H[i]? = some r:=by
 unfold rowAt at h;split at h
 ·rename_i r' hr';split at h
  ·cases h;exact hr'
  ·cases h
 ·cases h
theorem m7(hR:RH P C){K:List Nat}{Hs:List Row}{m:Nat}(h:Jw C K Hs m)(hk:DF 0 Hs=true):RH P (C.pick K Hs m):=by
 have hfree:∀{p V},RV P C p V->mlt 0 p=true->RV P (C.pick K Hs m) p V:=fun hv hm=>hv.free (fun b hb=>A0 fun hn=>Sd hn hb) rfl hm
 refine⟨fun j j' b h1 h2=>?_,fun j b h1=>?_,fun j b r h1 h2=>?_,h.most,fun j b h1=>?_,fun b hb=>?_,fun j b r info h1 h2 h3 h4=>?_,fun g hl=>⟨Sd (hR.LQ g hl).1,(hR.LQ g hl).2⟩⟩
 ·obtain⟨i,k1,k2⟩:=AH.1 h1;obtain⟨i',k1',k2'⟩:=AH.1 h2;have:=hR.inj i i' b k2 k2';subst this;have e1:=NT h.nodup k1;have e2:=NT h.nodup k1';rw[e1]at e2;exact Ah e2
 ·obtain⟨i,k1,k2⟩:=AH.1 h1;rcases hR.Ly i b k2 with ⟨r,hr⟩ |⟨r,info,g1,g2,g3⟩
  ·exact .inl ⟨r,by rw[ID h k1];exact hr⟩
  ·exact .inr ⟨r,info,by show Hs[j]? = _;rw[<- (h.get j i k1).1];exact g1,g2,g3⟩
 ·obtain⟨i,k1,k2⟩:=AH.1 h1;have h2':rowAt Hs j=some r:=h2;rw[ID h k1]at h2;have hB:=hR.GP i b r k2 h2;obtain⟨c,fr,cv,m1,m2,m3,m4⟩:=hB.mem;refine⟨hB.sz,⟨c,fr,cv,m1,m2,m3,fun k e j' p hk1 hj1=>⟨(m4 k e j' p hk1 hj1).1,hfree (m4 k e j' p hk1 hj1).2 ?_⟩⟩,hB.len,hB.typed⟩;rcases Ir hk h2' with hb |hb
  ·exact EW (hB.typed hb e (Ag hk1)) 0 p (Ag hj1)
  ·exact Dv (hb e (Ag hk1)) hj1
 ·obtain⟨i,k1,k2⟩:=AH.1 h1
  rintro (hf |⟨i',hi',hj2⟩)
  ·exact hR.IU i b k2 hf
  ·have:=hR.inj i i' b k2 hj2;subst this;exact hi' (Ag k1)
 ·rcases hb with hf |⟨i,_,hi⟩
  ·exact hR.Kq b hf
  ·exact hR.lt hi
 ·obtain⟨i,k1,k2⟩:=AH.1 h1;have h2':Hs[j]? = some r:=h2;have h5:=Jl hk h2' h3;rw[<- (h.get j i k1).1]at h2';refine(hR.Ii i b r info k2 h2' h3 h4).via (fun p V hp hv=>hfree hv (Jk hp)) (fun t m5=>⟨m5.1,fun j p v g1 g2=>hfree (m5.2 j p v g1 g2) (Dv h5 g1)⟩) (fun hl=>?_) (fun _ _ h=>h);obtain⟨⟨rec,m1,m2,m3,m4,m5,m6⟩,ha,hb⟩:=hl;exact⟨⟨rec,m1,m2,m3,m4,⟨m5.1,fun j p v g1 g2=>hfree (m5.2 j p v g1 g2) (Dv h5 g1)⟩,m6⟩,ha,hb⟩
def GK(K:List Nat)(H Hs:List Row):List Row:=H.zipIdx.map fun x=>match posOf K x.2 with |some j=>Hs.getD j x.1 |none=>x.1
theorem PD(K:List Nat)(H Hs:List Row)(i:Nat):(GK K H Hs)[i]? = H[i]?.map fun r=>match posOf K i with |some j=>Hs.getD j r |none=>r:=by
 simp only[GK,An,BB,AM,Ce];congr 1
def Ctx.FL(C C':Ctx)(K:List Nat):Ctx:=
 { ρ:=fun i=>match posOf K i with |some j=>C'.ρ j |none=>C.ρ i,H:=GK K C.H C'.H,w:=C'.w,fo:=C.fo,ro:=C.ro }
section
variable {P:Program} {C C':Ctx} {K:List Nat} {Hs:List Row} {m:Nat}
theorem Ka(h:Jw C K Hs m)(hx:Ext (C.pick K Hs m) C'):K.length<=C'.H.length:=by have:=hx.len;simp only[Ctx.pick,h.len]at this;exact this
theorem F5(h:Jw C K Hs m)(hx:Ext (C.pick K Hs m) C'){i j:Nat}(hj:K[j]? = some i):(C.FL C' K).H[i]? = C'.H[j]?:=by
 show(GK K C.H C'.H)[i]? = _
 have hi:=h.lt (Ag hj);have hl:=Ka h hx;have hjl:j<C'.H.length:=AA (Ad.1 hj).1 hl;rw[PD,Ae hi,NT h.nodup hj,AE,Ae hjl];simp[List.getD,List.getElem?_eq_getElem hjl]
theorem FM{i:Nat}(hi:posOf K i=none):(C.FL C' K).H[i]? = C.H[i]?:=by
 show(GK K C.H C'.H)[i]? = _
 rw[PD,hi];cases C.H[i]? <;> rfl
theorem F6(h:Jw C K Hs m)(hx:Ext (C.pick K Hs m) C'){i j:Nat}(hj:K[j]? = some i):(C.FL C' K).row? i=C'.row? j:=by
 unfold Ctx.row? rowAt;rw[F5 h hx hj]
theorem IE{i:Nat}(hi:posOf K i=none):(C.FL C' K).row? i=C.row? i:=by
 unfold Ctx.row? rowAt;rw[FM hi]
theorem Sg(hx:Ext (C.pick K Hs m) C')(b:Nat)(hb:(C.FL C' K).KI b):C'.KI b:=by
 rcases hb with ⟨i,hi⟩ |hf
 ·simp only[Ctx.FL]at hi;split at hi
  ·exact .inl ⟨_,hi⟩
  ·rename_i hp;refine .inr ?_;rw[hx.fo];exact .inr ⟨i,Gd hp,hi⟩
 ·refine .inr ?_;rw[hx.fo];exact .inl hf
theorem ie(hR:RH P C){i b:Nat}(hk:i∉K)(hi:C.ρ i=some b):¬(C.pick K Hs m).own b:=by
 rintro⟨j,_,hj⟩
 obtain⟨i',k1,k2⟩:=AH.1 hj;have:=hR.inj i i' b hi k2;subst this;exact hk (Ag k1)
theorem Si(_hR:RH P C)(h:Jw C K Hs m)(hx:Ext (C.pick K Hs m) C'):Ext C (C.FL C' K):=by
 have hl:=Ka h hx;refine⟨hx.os,hx.tape,hx.output,hx.size,fun b hb ho=>hx.block b hb fun hm=>ho ?_,hx.shape,by simp[Ctx.FL,GK],fun i r' hi hr=>?_,fun b hb=>?_,fun b hb=>?_,rfl,rfl,fun i hi=>?_,fun i r info h1 h2 h3=>?_,hx.loop⟩
 ·obtain⟨j,hjm,hj⟩:=hm;obtain⟨i,k1,k2⟩:=AH.1 hj;exact⟨i,(h.get j i k1).2 hjm,k2⟩
 ·cases hp:posOf K i with
  |some j=>
   have hj:=Ef hp;rw[F6 h hx hj]at hr;obtain⟨r,a1,a2,a3,a4,a5⟩:=hx.rows j r' (by simp only[Ctx.pick,h.len];exact(Ad.1 hj).1) hr;rw[ID h hj]at a1;exact⟨r,a1,a2,a3,a4,fun e=>⟨(a5 e).1,fun b hb=>by
    show(match posOf K i with |some j=>C'.ρ j |none=>C.ρ i)=some b
    rw[hp];exact(a5 e).2 b (by simp only[Ctx.pick,hj,Bl];exact hb)⟩⟩
  |none=>
   rw[IE hp]at hr;exact⟨r',hr,rfl,rfl,Al _,fun _=>⟨rfl,fun b hb=>by
    show(match posOf K i with |some j=>C'.ρ j |none=>C.ρ i)=some b
    rw[hp];exact hb⟩⟩
 ·obtain⟨i,hi⟩:=hb;simp only[Ctx.FL]at hi;split at hi
  ·rcases hx.fresh b ⟨_,hi⟩ with ⟨j,hj⟩ |hs
   ·obtain⟨i',k1,k2⟩:=AH.1 hj;exact .inl ⟨i',k2⟩
   ·exact .inr hs
  ·exact .inl ⟨i,hi⟩
 ·obtain⟨i,hir,hi⟩:=hb;simp only[Ctx.FL]at hi hir;split at hi
  ·rename_i j0 hp0;by_cases hjm:m<=j0
   ·rcases hx.D8 b ⟨_,by rw[hx.ro];exact hjm,hi⟩ with ⟨j,hj0,hj⟩ |hs
    ·obtain⟨i',k1,k2⟩:=AH.1 hj;exact .inl ⟨i',(h.get j i' k1).2 hj0,k2⟩
    ·exact .inr hs
   ·have hl0:=(hx.low j0 (by show j0<m;omega)).2;rw[hi]at hl0;have hb0:=hl0.symm;simp only[Ctx.pick,Ef hp0,Bl]at hb0;exact .inl ⟨i,hir,hb0⟩
  ·exact .inl ⟨i,hir,hi⟩
 ·cases hp:posOf K i with
  |none=>
   refine⟨FM hp,?_⟩;show(match posOf K i with |some j=>C'.ρ j |none=>C.ρ i)=_
   rw[hp]
  |some j=>
   have hj:=Ef hp;have hjm:j<m:=by
    have:=(h.get j i hj).2;by_cases hm:m<=j
    ·have:=this hm;omega
    ·omega
   obtain⟨l1,l2⟩:=hx.low j hjm;refine⟨by rw[F5 h hx hj,l1];exact(h.get j i hj).1.symm,?_⟩;show(match posOf K i with |some j=>C'.ρ j |none=>C.ρ i)=_
   rw[hp];show C'.ρ j=C.ρ i
   rw[l2];simp only[Ctx.pick,hj,Bl]
 ·cases hp:posOf K i with
  |some j=>
   have hj:=Ef hp;obtain⟨⟨r',st,a1,a2,a3⟩,a4⟩:=hx.lp j r info (by show Hs[j]? = _;rw[<- (h.get j i hj).1];exact h1) h2 h3;refine⟨⟨r',st,by rw[F5 h hx hj];exact a1,a2,a3⟩,fun b hb=>?_⟩;show(match posOf K i with |some j=>C'.ρ j |none=>C.ρ i)=_
   rw[hp];exact a4 b (by simp only[Ctx.pick,hj,Bl];exact hb)
  |none=>
   refine⟨⟨r,info.st,by rw[FM hp];exact h1,h2,h3⟩,fun b hb=>?_⟩;show(match posOf K i with |some j=>C'.ρ j |none=>C.ρ i)=_
   rw[hp];exact hb
theorem dT(hR:RH P C)(h:Jw C K Hs m)(hx:Ext (C.pick K Hs m) C')(hR':RH P C')(hk:DF 0 (C'.H.take K.length)=true):RH P (C.FL C' K):=by
 have hl:=Ka h hx;have hxe:=Si hR h hx;have hfree:∀{p V},RV P C' p V->mlt 0 p=true->RV P (C.FL C' K) p V:=fun hv hm=>hv.free (Sg hx) rfl hm
 have hfo:∀ b,C'.fo b ↔ C.fo b\/∃ i,i∉K/\C.ρ i=some b:=fun b=>by rw[hx.fo];rfl
 have hold:∀ i b,i∉K->C.ρ i=some b->C'.w.heap[b]? = C.w.heap[b]?:=fun i b hk hi=>hx.block b (hR.lt hi) (ie hR hk hi)
 have hin:∀ i j b,posOf K i=some j->(C.FL C' K).ρ i=some b->C'.ρ j=some b:=fun i j b hp hi=>by
  have:(match posOf K i with |some j=>C'.ρ j |none=>C.ρ i)=some b:=hi;rwa [hp]at this
 have hout:∀ i b,posOf K i=none->(C.FL C' K).ρ i=some b->C.ρ i=some b:=fun i b hp hi=>by
  have:(match posOf K i with |some j=>C'.ρ j |none=>C.ρ i)=some b:=hi;rwa [hp]at this
 have htake:∀ i j r,posOf K i=some j->C'.H[j]? = some r->(C'.H.take K.length)[j]? = some r:=fun i j r hp hr=>by
  rw[Au,Ak (Ad.1 (Ef hp)).1];exact hr
 refine⟨fun i j b h1 h2=>?_,fun i b h1=>?_,fun i b r h1 h2=>?_,Bc hR.ro hxe.len,fun i b h1=>?_,fun b hb=>AA (hR.Kq b hb) hxe.size,fun i b r info h1 h2 h3 h4=>?_,hR.LQ.mono hxe⟩
 ·cases hp:posOf K i with
  |some p=>
   cases hq:posOf K j with
   |some q=>
    have e:=hR'.inj p q b (hin i p b hp h1) (hin j q b hq h2);subst e;have g1:=Ef hp;have g2:=Ef hq;rw[g1]at g2;exact Ah g2
   |none=>exact absurd ((hfo b).2 (.inr ⟨j,Gd hq,hout j b hq h2⟩)) (hR'.IU p b (hin i p b hp h1))
  |none=>
   cases hq:posOf K j with
   |some q=>exact absurd ((hfo b).2 (.inr ⟨i,Gd hp,hout i b hp h1⟩)) (hR'.IU q b (hin j q b hq h2))
   |none=>exact hR.inj i j b (hout i b hp h1) (hout j b hq h2)
 ·cases hp:posOf K i with
  |some p=>
   rcases hR'.Ly p b (hin i p b hp h1) with ⟨r,hr⟩ |⟨r,info,g1,g2,g3⟩
   ·exact .inl ⟨r,by rw[F6 h hx (Ef hp)];exact hr⟩
   ·exact .inr ⟨r,info,by rw[F5 h hx (Ef hp)];exact g1,g2,g3⟩
  |none=>
   rcases hR.Ly i b (hout i b hp h1) with ⟨r,hr⟩ |⟨r,info,g1,g2,g3⟩
   ·exact .inl ⟨r,by rw[IE hp];exact hr⟩
   ·exact .inr ⟨r,info,by rw[FM hp];exact g1,g2,g3⟩
 ·cases hp:posOf K i with
  |some p=>
   rw[F6 h hx (Ef hp)]at h2;have hB:=hR'.GP p b r (hin i p b hp h1) h2;obtain⟨c,fr,cv,m1,m2,m3,m4⟩:=hB.mem;refine⟨hB.sz,⟨c,fr,cv,m1,m2,m3,fun k e j q hk1 hj1=>⟨(m4 k e j q hk1 hj1).1,hfree (m4 k e j q hk1 hj1).2 ?_⟩⟩,hB.len,hB.typed⟩;have h2':rowAt C'.H p=some r:=h2;have h3:rowAt (C'.H.take K.length) p=some r:=by
    have g:=htake i p r hp (Se h2');unfold rowAt at h2' ⊢;rw[g];rw[Se (show rowAt C'.H p=some r from h2)]at h2';exact h2'
   rcases Ir hk h3 with hb |hb
   ·exact EW (hB.typed hb e (Ag hk1)) 0 q (Ag hj1)
   ·exact Dv (hb e (Ag hk1)) hj1
  |none=>
   rw[IE hp]at h2;exact(hR.GP i b r (hout i b hp h1) h2).mono hxe (hold i b (Gd hp) (hout i b hp h1))
 ·cases hp:posOf K i with
  |some p=>exact fun hf=>hR'.IU p b (hin i p b hp h1) ((hfo b).2 (.inl hf))
  |none=>exact hR.IU i b (hout i b hp h1)
 ·cases hp:posOf K i with
  |some p=>
   rw[F5 h hx (Ef hp)]at h2;have h5:=Jl hk (htake i p r hp h2) h3;refine(hR'.Ii p b r info (hin i p b hp h1) h2 h3 h4).via (fun p V hp hv=>hfree hv (Jk hp)) (fun t m5=>⟨m5.1,fun j p v g1 g2=>hfree (m5.2 j p v g1 g2) (Dv h5 g1)⟩) (fun hl=>?_) (fun _ _ h=>h);obtain⟨⟨rec,m1,m2,m3,m4,m5,m6⟩,ha,hb⟩:=hl;exact⟨⟨rec,m1,m2,m3,m4,⟨m5.1,fun j q v g1 g2=>hfree (m5.2 j q v g1 g2) (Dv h5 g1)⟩,m6⟩,ha,hb⟩
  |none=>
   rw[FM hp]at h2;exact(hR.Ii i b r info (hout i b hp h1) h2 h3 h4).mono hxe (hold i b (Gd hp) (hout i b hp h1))
end
def rowOf:PV->Option Nat |.ptr i _ _ _=>some i |.sl i _ _ _=>some i |.mp i=>some i |_=>none
def HX(args:List PV):List Nat:=args.flatMap fun p=>match p with |.fn _ first cap=>(first++cap).filterMap rowOf |.agg cs=>cs.filterMap rowOf |p=>(rowOf p).toList
def Xk(K:List Nat):PV->PV
 |.ptr i n k j=>match posOf K i with |some m=>.ptr m n k j |none=>.any
 |.sl i n k l=>match posOf K i with |some m=>.sl m n k l |none=>.any
 |.mp i=>match posOf K i with |some m=>.mp m |none=>.any
 |p=>p
def ig(K:List Nat):PV->PV
 |.fn f first cap=>.fn f (first.map (Xk K)) (cap.map (Xk K))
 |.agg cs=>.agg (cs.map (Xk K))
 |p=>Xk K p
def dU:PV->Bool
 |.ptr _ _ _ _=>true
 |.sl _ _ _ _=>true
 |.mp _=>true
 |p=>mlt 0 p
def m8:PV->Bool
 |.fn _ first cap=>first.all dU&&cap.all dU
 |.agg cs=>cs.all dU
 |p=>dU p
theorem Eh{K:List Nat}{Hs:List Row}{m:Nat}(h:Jw C K Hs m){p:PV}{V:Value}(hv:RV P C p V)(ho:dU p=true):RV P (C.pick K Hs m) (Xk K p) V:=by
 have hfree:mlt 0 p=true->RV P (C.pick K Hs m) p V:=hv.free (fun b hb=>A0 fun hn=>Sd hn hb) rfl;cases hv with
 |ptr hV hk hi hn h1=>
  rename_i i n k j;simp only[Xk];cases hp:posOf K i with
  |none=>exact .any
  |some m=>
   have hm:=Ef hp;refine .ptr hV hk (by show m<Hs.length;rw[h.len];exact(Ad.1 hm).1) (fun r hr=>hn r (by rw[<- ID h hm];exact hr)) fun r hr he=>?_
   obtain⟨b,g1,g2⟩:=h1 r (by rw[<- ID h hm];exact hr) he;exact⟨b,by simp only[Ctx.pick,hm,Bl];exact g1,g2⟩
 |sl hV hi hn h1=>
  rename_i i n k l;simp only[Xk];cases hp:posOf K i with
  |none=>exact .any
  |some m=>
   have hm:=Ef hp;refine .sl hV (by show m<Hs.length;rw[h.len];exact(Ad.1 hm).1) (fun r hr=>hn r (by rw[<- ID h hm];exact hr)) fun r hr he=>?_
   obtain⟨g0,a,cap,g1,g2,g3⟩:=h1 r (by rw[<- ID h hm];exact hr) he;refine⟨g0,a,cap,g1,g2,?_⟩;unfold E4 at g3 ⊢;split
   ·rename_i hnl;rw[Ak hnl]at g3;exact g3
   ·rename_i hnl;rw[Aq hnl]at g3;obtain⟨b,q1,q2⟩:=g3;exact⟨b,by simp only[Ctx.pick,hm,Bl];exact q1,q2⟩
 |mp hi hl hb=>
  rename_i i b;simp only[Xk];cases hp:posOf K i with
  |none=>exact .any
  |some m=>
   have hm:=Ef hp;obtain⟨r,info,g1,g2,g3⟩:=hl;have hg:Hs[m]? = C.H[i]?:=(h.get m i hm).1.symm;refine .mp (by show m<Hs.length;rw[h.len];exact(Ad.1 hm).1) ⟨r,info,by show Hs[m]? = some r;rw[hg];exact g1,g2,g3⟩ (by simp only[Ctx.pick,hm,Bl];exact hb)
 |_=>exact hfree (by simpa [dU] using ho)
theorem ij{K:List Nat}{Hs:List Row}{m:Nat}(h:Jw C K Hs m){p:PV}{V:Value}(hv:RV P C p V)(ho:m8 p=true):RV P (C.pick K Hs m) (ig K p) V:=by
 cases hv with
 |fn h1 h2 h3 h4=>
  simp only[m8,Aa]at ho;simp only[ig];refine .fn (by simpa using h1) (by simpa using h2) (fun j c v g1 g2=>?_) (fun j c v g1 g2=>?_)
  ·simp only[An,Af]at g1;obtain⟨x,hx,rfl⟩:=g1;exact Eh h (h3 j x v hx g2) (Ao.1 ho.1 x (Ag hx))
  ·simp only[An,Af]at g1;obtain⟨x,hx,rfl⟩:=g1;exact Eh h (h4 j x v hx g2) (Ao.1 ho.2 x (Ag hx))
 |any=>exact Eh h .any ho
 |val=>exact Eh h .val ho
 |ptr a b c d e=>exact Eh h (.ptr a b c d e) ho
 |sl a b c d=>exact Eh h (.sl a b c d) ho
 |EF a b c d e f=>exact Eh h (.EF a b c d e f) ho
 |C9 a b c d e f g i j=>exact Eh h (.C9 a b c d e f g i j) ho
 |agg h1 h2=>
  simp only[m8]at ho;simp only[ig];refine .agg (by simpa using h1) fun j c v g1 g2=>?_
  simp only[An,Af]at g1;obtain⟨x,hx,rfl⟩:=g1;exact Eh h (h2 j x v hx g2) (Ao.1 ho x (Ag hx))
 |El a b=>exact Eh h (.El a b) ho
 |Kp a=>exact Eh h (.Kp a) ho
 |Ih a b c=>exact Eh h (.Ih a b c) ho
 |mp a b c=>exact Eh h (.mp a b c) ho
 |gv a b c d=>exact Eh h (.gv a b c d) ho
 |bad a=>exact Eh h (.bad a) ho
 |Lx a b=>exact Eh h (.Lx a b) ho
def ik(n:Nat):PV->Bool
 |.sl m _ _ _=>decide (m<n)
 |p=>mlt 0 p
def il(K:List Nat):PV->PV
 |.sl m n k l=>.sl (K.getD m 0) n k l
 |p=>p
theorem m9{C C':Ctx}{K:List Nat}{Hs:List Row}{m:Nat}(h:Jw C K Hs m)(hx:Ext (C.pick K Hs m) C'){p:PV}{V:Value}(hv:RV P C' p V)(hb:ik K.length p=true):RV P (C.FL C' K) (il K p) V:=by
 have hplain:mlt 0 p=true->RV P (C.FL C' K) p V:=fun hp=>hv.free (Sg hx) rfl hp
 cases hv with
 |sl hV hi hn h1=>
  rename_i m n k l;simp only[ik,Ab]at hb;have hm:K[m]? = some (K.getD m 0):=by rw[Av,Ae hb];rfl
  simp only[il];refine .sl hV (by show K.getD m 0<(GK K C.H C'.H).length;simp only[GK,AP,List.length_zipIdx];exact h.lt (Ag hm)) (fun r hr=>hn r (by rw[<- F6 h hx hm];exact hr)) fun r hr he=>?_
  obtain⟨g0,a,cap,g1,g2,g3⟩:=h1 r (by rw[<- F6 h hx hm];exact hr) he;refine⟨g0,a,cap,g1,g2,?_⟩;unfold E4 at g3 ⊢;split
  ·rename_i hnl;rw[Ak hnl]at g3;exact g3
  ·rename_i hnl;rw[Aq hnl]at g3;obtain⟨b,q1,q2⟩:=g3;refine⟨b,?_,q2⟩;show(match posOf K (K.getD m 0) with |some j=>C'.ρ j |none=>C.ρ (K.getD m 0))=some b
   rw[NT h.nodup hm];exact q1
 |_=>exact hplain hb
def DT.iq{α:Type}(g:α->Bool):DT α->DT α
 |.leaf a=>match g a with |true=>.leaf a |false=>.no
 |.no=>.no
 |.br b x y=>.br b (x.iq g) (y.iq g)
theorem DT.Sj{α:Type}{g:α->Bool}{r:α}:∀{d:DT α},(d.iq g).run=some r->d.run=some r/\g r=true
 |.leaf a,h=>by
  simp only[DT.iq]at h;split at h
  ·rename_i hg;cases h;exact⟨rfl,hg⟩
  ·cases h
 |.no,h=>by cases h
 |.br b x y,h=>by
  cases b
  ·exact DT.Sj (d:=y) h
  ·exact DT.Sj (d:=x) h
def ir(c:List PV->List Row->Option (DT (PV×List Row)))(ro:Nat)(args:List PV)(H:List Row):Option (DT (PV×List Row)):=
 let K:=HX args
 match decide K.Nodup&&K.all (fun i=>decide (ro<=i)&&decide (i<H.length))&&args.all m8&&DF 0 (K.map fun i=>H.getD i default) with
 |true=>(c ((args.map (ig K)).map Tc) (K.map fun i=>H.getD i default)).map fun d=>(d.iq fun r=>ik K.length r.1&&r.2.length==K.length&&DF 0 r.2).map fun r=>(il K r.1,GK K H r.2)
 |false=>none
def CY.E7(E:CY)(k:FuncId)(c:List PV->List Row->Option (DT (PV×List Row))):CY:=E.RF k (ir c)
theorem CG.E7{E:CY}(hE:CG P E.env){k:FuncId}{c:List PV->List Row->Option (DT (PV×List Row))}(hent:Dd P k)
  (hc:∀ args H d p H',c args H=some d->d.run=some (p,H')->Fa P 0 k args H p H'):CG P (E.E7 k c).env:=by
 refine hE.RF hent fun ro args H d p H' h1 h2=>?_
 unfold ir at h1;dsimp only at h1;split at h1
 ·rename_i hk;simp only[Aa,Ab]at hk;obtain⟨⟨⟨hn,hK⟩,hargs⟩,hok⟩:=hk;obtain⟨d0,g1,rfl⟩:=Af.1 h1;obtain⟨⟨p0,H0⟩,g2,g3⟩:=DT.run_map h2;cases g3;obtain⟨g4,g5⟩:=DT.Sj g2;simp only[Aa,Ay]at g5;obtain⟨⟨gp,gl⟩,gk⟩:=g5;intro C hH hro hR Vs hv;subst hH;have hP:Jw C (HX args) ((HX args).map fun i=>C.H.getD i default) 0:=by
   refine⟨hn,by simp,fun j i hj=>?_,AT _⟩;have:=Ao.1 hK i (Ag hj);simp only[Aa,Ab]at this;refine⟨?_,fun _=>by rw[hro];exact this.1⟩;rw[An,hj,AE,Av,Ae this.2];rfl
  have hR1:=m7 hR hP hok;have hv1:Cs P (C.pick (HX args) ((HX args).map fun i=>C.H.getD i default) 0) (args.map (ig (HX args))) Vs:=by
   refine⟨by simpa using hv.1,fun j c v q1 q2=>?_⟩;simp only[An,Af]at q1;obtain⟨x,hx,rfl⟩:=q1;exact ij hP (hv.2 j x v hx q2) (Ao.1 hargs x (Ag hx))
  refine(hc _ _ _ _ _ g1 g4 _ rfl rfl hR1 Vs hv1.Tc).mono ?_
  rintro e w' ⟨V,C',rfl,rfl,hct⟩
  have hH':=hct.H;have hle:=Ka hP hct.ext;refine⟨V,C.FL C' (HX args),rfl,rfl,?_,Si hR hP hct.ext,dT hR hP hct.ext hct.rh ?_,m9 hP hct.ext hct.rv gp⟩
  ·show GK (HX args) C.H C'.H=GK (HX args) C.H H0
   rw[hH']
  ·rw[hH',A7 (by rw[gl];exact Al _)];exact gk
 ·cases h1
def Jx(P:Program)(E:CY)(n:Nat)(f:FuncId)(args:List PV)(H:List Row):Option (PV×List Row):=
 Ld P (Fb P E n) 0 f args H fun p H'=>YV H' H.length p fun q=>DM (mlt H.length q&&DF H.length (H'.take H.length)) (some (q,H'.take H.length))
theorem DH{E:CY}(hE:CG P E.env){n:Nat}{f:FuncId}{args:List PV}{H H':List Row}{p:PV}(h:Jx P E n f args H=some (p,H')):Dd P f/\Fa P 0 f args H p H':=by
 obtain⟨q,H1,h1,h2⟩:=Fj (Fc n) h;have h3:=Jt h2;obtain⟨h4,h5⟩:=Da h3;cases h5;refine⟨FT h1,fun C hH hro hR Vs hv=>?_⟩;subst hH;refine((Fi hE (Hh hE n) hR hro hv h1).2).mono ?_
 rintro e w' ⟨V,C',rfl,rfl,hc⟩
 obtain⟨C2,e1,e2⟩:=NA hR hc (show settle C.H.length q H1=(frz H1 C.H.length q,H1.take C.H.length) by unfold settle;rw[Ak h4]);exact⟨V,C2,rfl,e1,e2⟩
def nzP:Kind->PV->PV
 |.sl t,.val (.slice none 0 0)=>.C9 false t []
 |.sl _,.C9 _ t es=>.C9 false t es
 |_,p=>p
def NzR(q p:PV):Prop:=p=q\/(∃ t,q=.val (.slice none 0 0)/\p=.C9 false t [])\/∃ f t es,q=.C9 f t es/\p=.C9 false t es
def nH:List Kind->List PV->List PV
 |k::ks,c::cs=>nzP k c::nH ks cs
 |_,cs=>cs
def vd(ks:List Kind):PV->PV
 |.agg cs=>.agg (nH ks cs)
 |.val (.agg a)=>.agg (nH ks (a.toList.map .val))
 |e=>e
theorem Va:∀{ks:List Kind} {cs:List PV} {j:Nat} {p:PV},(nH ks cs)[j]? = some p->∃ q,cs[j]? = some q/\NzR q p
 | [],cs,j,p,h=>⟨p,h,.inl rfl⟩
 |k::ks,[],j,p,h=>by simp[nH]at h
 |k::ks,c::cs,0,p,h=>by
  simp only[nH,AZ,A5]at h;refine⟨c,rfl,?_⟩;unfold nzP at h;split at h
  ·exact .inr (.inl ⟨_,rfl,h.symm⟩)
  ·exact .inr (.inr ⟨_,_,_,rfl,h.symm⟩)
  ·exact .inl h.symm
 |k::ks,c::cs,j+1,p,h=>by
  simp only[nH,BO]at h;exact Va (cs:=cs) h
theorem Vb:∀{ks:List Kind} {cs:List PV},(nH ks cs).length=cs.length
 | [],_=>rfl
 |_::_,[]=>rfl
 |_::ks,_::cs=>by simp only[nH,As,Vb]
theorem bz{ks:List Kind}{e:PV}{j:Nat}{p:PV}(h:(vd ks e).cells[j]? = some p):∃ q,e.cells[j]? = some q/\NzR q p:=by
 unfold vd at h;split at h
 ·exact Va h
 ·exact Va h
 ·exact⟨p,h,.inl rfl⟩
theorem nJ{ks:List Kind}{e:PV}:(vd ks e).cells.length=e.cells.length:=by
 unfold vd;split
 ·exact Vb
 ·exact Vb
 ·rfl
def JD(P:Program)(b:Bool)(r:Row):Row:=
 match b&&r.live with
 |true=>{ r with es:=r.es.map (vd (kinds P r.t)),bv:=(r.es.map (vd (kinds P r.t))).all (wt P r.t) }
 |false=>r
theorem SD(P:Program)(b:Bool)(r:Row):(JD P b r).live=r.live:=by unfold JD;split <;> rfl
theorem Uh(P:Program)(b:Bool)(r:Row):Oq r (JD P b r):=by unfold JD;split <;> simp[Oq]
theorem SE{b:Bool}{r:Row}(h:r.live=false):JD P b r=r:=by unfold JD;rw[h,BC]
theorem RB.nz{b:Nat}{r:Row}(s:Bool)(h:RB P C b r):RB P C b (JD P s r):=by
 unfold JD;split
 ·obtain⟨c,fr,cv,m1,m2,m3,m4⟩:=h.mem;refine⟨h.sz,⟨c,fr,cv,m1,m2,by simpa using m3,fun k e j p hk hj=>?_⟩,fun e he=>?_,fun hb e he=>?_⟩
  ·simp only[An,Af]at hk;obtain⟨e0,hk0,rfl⟩:=hk;obtain⟨q,hq,hp⟩:=bz hj;obtain⟨g1,g2⟩:=m4 k e0 j q hk0 hq;refine⟨g1,?_⟩;rcases hp with rfl |⟨t,rfl,rfl⟩ |⟨f,t,es,rfl,rfl⟩
   ·exact g2
   rotate_left
   ·generalize cv k j=V at g2;cases g2 with
    |C9 b off cv hcap hfull ha hc hr ht=>exact .C9 b off cv hcap (fun h=>by cases h) ha hc hr ht
   ·generalize cv k j=V at g2;cases g2;exact .C9 0 0 (fun _ _=>undef) (Al _) (fun h=>by cases h) (fun h=>by simp at h) (fun x e j p h1 _=>by simp at h1) (fun x e j p h1 _=>by simp at h1) (fun e h1=>by cases h1)
  ·simp only[AX]at he;obtain⟨e0,he0,rfl⟩:=he;rw[nJ];exact h.len e0 he0
  ·exact Ao.1 hb e he
 ·exact h
def eZ(P:Program)(sel:List Bool)(H:List Row):List Row:=H.zipIdx.map fun x=>JD P (sel.getD x.2 false) x.1
theorem Vc(P:Program)(sel:List Bool)(H:List Row)(i:Nat):(eZ P sel H)[i]? = H[i]?.map (JD P (sel.getD i false)):=by
 simp only[eZ,An,BB,AM,Ce];congr 1
theorem Vd(sel:List Bool)(i:Nat):({ C with H:=eZ P sel C.H }:Ctx).row? i=(C.row? i).map (JD P (sel.getD i false)):=by
 show rowAt (eZ P sel C.H) i=(rowAt C.H i).map _
 unfold rowAt;rw[Vc];cases C.H[i]? with
 |none=>rfl
 |some r=>
  show(if (JD P _ r).live=true then some (JD P _ r) else none)=Option.map _ (if r.live=true then some r else none)
  rw[SD];by_cases hl:r.live=true
  ·rw[Ak hl,Ak hl];rfl
  ·rw[Aq hl,Aq hl];rfl
theorem QM(P:Program)(sel:List Bool)(C:Ctx):VT C { C with H:=eZ P sel C.H }:=by
 refine⟨rfl,rfl,rfl,rfl,by simp[eZ],fun i r' hr=>?_,fun i r hr=>?_,fun i r hr hl=>?_,fun i r hr hl=>?_⟩
 ·rw[Vd]at hr;obtain⟨r,a,rfl⟩:=Af.1 hr;exact⟨r,a,Uh P _ r⟩
 ·exact⟨_,by rw[Vd,hr];rfl,Uh P _ r⟩
 ·show(eZ P sel C.H)[i]? = _
  rw[Vc,hr,AE,SE hl]
 ·have hr':(eZ P sel C.H)[i]? = some r:=hr;rw[Vc]at hr';obtain⟨q,a,b⟩:=Af.1 hr';have:q.live=false:=by rw[<- SD P (sel.getD i false),b];exact hl
  rw[SE this]at b;rw[a];exact congrArg some b
theorem iU{c:Code}(sel:List Bool){S S':List PV}{H H':List Row}{x:PX}(h:ET P c 0 S (eZ P sel H) x S' H'):ET P c 0 S H x S' H':=by
 intro r C a hH hro hR hs hro2 Q hQ;subst hH;have hR1:RH P { C with H:=eZ P sel C.H }:=hR.Ot (QM P sel C) fun i b q h1 h2=>by
  rw[Vd]at h2;obtain⟨q0,a0,rfl⟩:=Af.1 h2;exact((hR.GP i b q0 h1 a0).nz (sel.getD i false)).Ot (QM P sel C)
 exact h r { C with H:=eZ P sel C.H } a rfl hro hR1 (hs.Ot (QM P sel C)) hro2 Q fun a' C' hd hH' hx hR' hs'=>hQ a' C' hd hH' (Ext.yJ (QM P sel C) hro hx) hR' hs'
def CY.Kw(E:CY)(P:Program)(sz:List Bool)(k i:Nat)(l:List Tmp)(sel:List Bool)(sh:S1)(pre:LS->Bool)(fin:LS->DT (PX×List PV×List Row)):CY:=
 E.Lh k i l fun ro S H=>match ro with |0=>J2 sel sh.get pre fin 0 S (eZ P sz H) |_+1=>none
theorem CG.Kw{E:CY}(hE:CG P E.env){n:Nat}{k i:Nat}{fn:Func}{body b:Code}(hf:P.funcs[k]? = some fn)(hb:fn.body=some body)(h0:(loops body).filter (fun b=>Ew b==i)=[b])
  (sz:List Bool) (l l':List Tmp) (sel:List Bool) (sh:S1) {pre:LS->Bool} (m:LS->Nat) {fin:LS->DT (PX×List PV×List Row)}
  (hstep:∀ s r,pre s=true->(fin s).run=some r->r.1≠.normal/\(Db P E n k b l l' (sh.put s).1 (sh.put s).2=some r \/
   ∃ s',Db P E n k b l l' (sh.put s).1 (sh.put s).2=some (.normal,sh.put s')/\pre s'=true/\m s'<m s/\(fin s').run=some r)):
  CG P (E.Kw P sz k i l sel sh pre fin).env:=
 hE.Lh hf hb h0 fun hs ro S H d x S' H' hc hd=>by
  cases ro with
  |zero=>exact iU sz (aT hE l l' sh.put S1.FG m hstep hs 0 S _ d x S' H' hc hd)
  |succ ro=>cases hc
def OV(P:Program)(ks:List TypeId)(H:List Row)(f:Operand->PV):Op->Option (PV×List Row)
 |.lookup T x k ok=>
  match P.underlying T,f x with
  |some (.map K E),.val (.map none)=>
   match E8 P E with
   |some z=>
    if ks.contains K&&FO P K (f k)&&ak P E (.val z) then
     some (if ok then .El [J4 P E (.val z),.val (.bool false)] else J4 P E (.val z),H) else none
   |_=>none
  |_,_=>none
 |_=>none
theorem PM{ks:List TypeId}{H:List Row}{f:Operand->PV}{op:Op}{p:PV}{H':List Row}(h:OV P ks H f op=some (p,H')):H'=H:=by
 unfold OV at h;split at h
 ·split at h
  ·split at h
   ·split at h
    ·cases h;rfl
    ·cases h
   ·cases h
  ·cases h
 ·cases h
theorem Vn{ks:List TypeId}(hks:∀ K,K∈ks->HL P K){ro:Nat}{H:List Row}{f:Operand->PV}{op:Op}{p:PV}{H':List Row}(h:OV P ks H f op=some (p,H')):Wy P ro H f op p H':=by
 intro C g o ho hro hH hR hv;obtain rfl:=PM h;subst hro;subst hH;unfold OV at h;split at h
 ·rename_i T x k ok;split at h
  ·rename_i K E hu hfx;split at h
   ·rename_i z hz;split at h
    ·rename_i hc;simp only[Aa,BJ,Ab]at hc;obtain⟨⟨hc1,hmk⟩,hmz⟩:=hc;have hKO:=hks _ hc1;have hx:=hv x (by simp[Op.operands]);have hk:=hv k (by simp[Op.operands]);rw[hfx]at hx;have hX:g x=.map none:=by generalize hg:g x=X at hx;cases hx;rfl
     have hch:=hKO.check C (f k) (g k) hmk hk true C.w;have hf:(Instr.findKey K (g k) []).run P C.w=.ok none C.w:=by
      have:=hKO.find C (f k) (g k) hmk hk [] [] rfl (fun x h=>by cases h) (fun i k v e h=>by simp at h) C.w;simpa [G1] using this
     have key:(Instr.lookup T (.map none) (g k) ok).run P C.w=.ok (if ok then .tuple #[z,.bool false] else z) C.w:=by
      unfold Instr.lookup;have h9:(#[]:Array MapEntry).isEmpty=true:=rfl;simp only[Sem.run_bind,run_underlying hu,Result.andThen_ok,Sem.run_pure,h9,hch,hf,Fx hz]
     have hE:RV P C (J4 P E (.val z)) z:=RV.J4 hmz .val;cases h;refine⟨_,if ok then .tuple #[z,.bool false] else z,C,?_,.inl rfl,⟨rfl,.refl C,hR⟩,?_⟩
     ·unfold execOp;simp only[ho,Sem.run_bind,hX,key,Result.andThen_ok];rfl
     ·cases ok
      ·exact hE
      ·refine .El rfl fun j c u g1 g2=>?_
       match j with
       |0=>simp at g1 g2;subst g1;subst g2;exact hE
       |1=>simp at g1 g2;subst g1;subst g2;exact .val
       |j+2=>simp at g1
    ·cases h
   ·cases h
  ·cases h
 ·cases h
def CY.SM(E:CY)(P:Program)(ks:List TypeId):CY:={ E with Fz:=fun ro H f op=>match OV P ks H f op with |some r=>some (.leaf r) |none=>E.Fz ro H f op }
theorem CG.SM{E:CY}(hE:CG P E.env){ks:List TypeId}(hks:∀ K,K∈ks->HL P K):CG P (E.SM P ks).env where
 H9:=hE.H9
 Hc:=hE.Hc
 FI:=hE.FI
 lo:=fun f fn b h1 h2=>Gv.mono (E:=E.env) (E':=(E.SM P ks).env) (fun _ _ _ _ _ _ _ h=>h) (hE.lo f fn b h1 h2)
 Ec:=hE.Ec
 GO:=hE.GO
 EY:=fun ro H f T x k p H' h=>hE.EY ro H f T x k p H' h
 Fz:=fun ro H f op p H' h=>by
  change (match OV P ks H f op with |some r=>some (DT.leaf r) |none=>E.Fz ro H f op).bind DT.run=some (p,H') at h
  split at h
  ·rename_i r hr;have:r=(p,H'):=by simpa [DT.run] using h
   subst this;exact⟨Vn hks hr,fun x=>by rw[PM hr]⟩
  ·exact hE.Fz ro H f op p H' h
def OW(H:List Row)(f:Operand->PV):Op->Option (PV×List Row)
 |.next x false=>
  match f x with
  |.mp i=>
   match H[i]? with
   |some r=>match r.live,r.lp with |false,some ⟨⟨0,[.any],_,_,_⟩,.iter .nil⟩=>some (.El [.val (.bool false)],H) |_,_=>none
   |none=>none
  |_=>none
 |_=>none
theorem PN{H:List Row}{f:Operand->PV}{op:Op}{p:PV}{H':List Row}(h:OW H f op=some (p,H')):H'=H:=by
 unfold OW at h;split at h
 ·split at h
  ·split at h
   ·split at h
    ·cases h;rfl
    ·cases h
   ·cases h
  ·cases h
 ·cases h
theorem Vo{ro:Nat}{H:List Row}{f:Operand->PV}{op:Op}{p:PV}{H':List Row}(h:OW H f op=some (p,H')):Wy P ro H f op p H':=by
 intro C g o ho hro hH hR hv;obtain rfl:=PN h;subst hro;subst hH;unfold OW at h;split at h
 ·rename_i x;split at h
  ·rename_i i hfx;split at h
   ·rename_i r hr;split at h
    ·rename_i hl hlp;cases h;have hx:=hv x (by simp[Op.operands]);rw[hfx]at hx;generalize hX:g x=X at hx;cases hx with
     |mp hi hl2 hb=>
      obtain⟨r',info,g1,g2,g3,rfl⟩:=hl2;rw[hr]at g1;cases g1;rw[hlp]at g2;cases g2;have hh:=(hR.Ii i _ r _ hb hr hlp hl).aq .nil rfl;refine⟨_,.tuple #[.bool false],C,?_,.inl rfl,⟨rfl,.refl C,hR⟩,.El rfl fun j c u g1 g2=>?_⟩
      ·unfold execOp;simp only[ho,Sem.run_bind,hX];unfold Instr.next
       have hgo:∀{b:Nat},C.w.heap[b]? = some (.mapIter none 0 #[] 0)->(getObj b).run P C.w=.ok (.mapIter none 0 #[] 0) C.w:=fun h=>by simp[getObj,Sem.run,h]
       simp only[fg,Sem.run_bind,hgo hh,Result.andThen_ok,Sem.run_pure]
      ·match j with
       |0=>simp at g1 g2;subst g1;subst g2;exact .val
       |j+1=>simp at g1
    ·cases h
   ·cases h
  ·cases h
 ·cases h
def CY.SN(E:CY):CY:={ E with Fz:=fun ro H f op=>match OW H f op with |some r=>some (.leaf r) |none=>E.Fz ro H f op }
theorem CG.SN{E:CY}(hE:CG P E.env):CG P E.SN.env where
 H9:=hE.H9
 Hc:=hE.Hc
 FI:=hE.FI
 lo:=fun f fn b h1 h2=>Gv.mono (E:=E.env) (E':=E.SN.env) (fun _ _ _ _ _ _ _ h=>h) (hE.lo f fn b h1 h2)
 Ec:=hE.Ec
 GO:=hE.GO
 EY:=fun ro H f T x k p H' h=>hE.EY ro H f T x k p H' h
 Fz:=fun ro H f op p H' h=>by
  change (match OW H f op with |some r=>some (DT.leaf r) |none=>E.Fz ro H f op).bind DT.run=some (p,H') at h
  split at h
  ·rename_i r hr;have:r=(p,H'):=by simpa [DT.run] using h
   subst this;exact⟨Vo hr,fun x=>by rw[PN hr]⟩
  ·exact hE.Fz ro H f op p H' h
abbrev IS(K E:TypeId)(D:List (PV×PV)):Row:={ es:=[],s:=0,t:=0,bv:=true,live:=false,lp:=some ⟨k0,.Gy K E D⟩ }
def Ctx.Jf(C:Ctx)(w':World)(b:Nat)(r:Row):Ctx:={ ρ:=fun x=>if x=C.H.length then some b else C.ρ x,H:=C.H++[r],w:=w',fo:=C.fo,ro:=C.ro }
theorem jP{w':World}(hs:I8 C.w w')(hro:C.ro<=C.H.length){b:Nat}(hb:C.w.heap.size<=b)(r:Row):Ext C (C.Jf w' b r):=
 TR (C:=C) (C':=C.at w') (hs.ext (C:=C)) hro hb
theorem jQ{w':World}(_:RH P C)(hs:I8 C.w w'){b:Nat}(hb:C.w.heap.size<=b)(r:Row):dt C (C.Jf w' b r) where
 size:=hs.size
 nb x hx hlt:=by
  refine⟨fun h=>?_,hs.block x hlt⟩;rcases h with ⟨i,hi⟩ |h
  ·simp only[Ctx.Jf]at hi;split at hi
   ·cases hi;omega
   ·exact hx (.inl ⟨i,hi⟩)
  ·exact hx (.inr h)
 shape x c e fr h:=⟨c,fr,by rw[<- h];exact hs.block x (At.1 h).1,rfl⟩
 len:=by simp[Ctx.Jf]
 rows i r' hi h:=by
  have h1:(C.Jf w' b r).row? i=C.row? i:=D5 hi;rw[h1]at h;exact⟨r',h,rfl,rfl,Al _,fun _=>⟨rfl,fun y hy=>by simp only[Ctx.Jf];rw[Aq (by omega)];exact hy⟩⟩
 lp i q info h1 h2 h3:=by
  have hi:i<C.H.length:=(Ad.1 h1).1;exact⟨⟨q,info.st,by show(C.H++[r])[i]? = _;rw[Aw hi];exact h1,h2,h3⟩,fun y hy=>by simp only[Ctx.Jf];rw[Aq (by omega)];exact hy⟩
theorem oi{w':World}(hR:RH P C)(hs:I8 C.w w'){b:Nat}(hb:C.w.heap.size<=b)(hlt:b<w'.heap.size){r:Row}{info:FD}(hr:r.live=false)(hlp:r.lp=some info)(hB:FJ P (C.Jf w' b r) b info):RH P (C.Jf w' b r):=by
 have hx:=jQ hR hs hb r;have hnew:(C.Jf w' b r).H[C.H.length]? = some r:=by simp[Ctx.Jf]
 have Pd:∀{i x},(C.Jf w' b r).ρ i=some x->(i=C.H.length/\x=b)\/(i<C.H.length/\C.ρ i=some x):=by
  intro i x h;simp only[Ctx.Jf]at h;split at h
  ·rename_i e;cases h;exact .inl ⟨e,rfl⟩
  ·exact .inr ⟨hR.KS h,h⟩
 have hrow:∀ i,i<C.H.length->(C.Jf w' b r).row? i=C.row? i:=fun i hi=>D5 hi
 refine⟨fun i j x h1 h2=>?_,fun i x h=>?_,fun i x q h1 h2=>?_,?_,fun i x h=>?_,fun x h=>AA (hR.Kq x h) hs.size,fun i x q info' h1 h2 h3 h4=>?_,hR.LQ.E0 hx⟩
 ·rcases Pd h1 with ⟨a1,a2⟩ |⟨a1,a2⟩ <;> rcases Pd h2 with ⟨b1,b2⟩ |⟨b1,b2⟩
  ·omega
  ·subst a2;have:=hR.lt b2;omega
  ·subst b2;have:=hR.lt a2;omega
  ·exact hR.inj i j x a2 b2
 ·rcases Pd h with ⟨a1,a2⟩ |⟨a1,a2⟩
  ·subst a1;exact .inr ⟨r,info,hnew,hlp,hr⟩
  ·rcases hR.Ly i x a2 with ⟨q,hq⟩ |⟨q,info',g1,g2,g3⟩
   ·exact .inl ⟨q,by rw[hrow i a1];exact hq⟩
   ·exact .inr ⟨q,info',by show(C.H++[r])[i]? = _;rw[Aw a1];exact g1,g2,g3⟩
 ·rcases Pd h1 with ⟨a1,a2⟩ |⟨a1,a2⟩
  ·subst a1;have:(C.Jf w' b r).row? C.H.length=none:=by
    show rowAt (C.H++[r]) C.H.length=none
    unfold rowAt;simp[hr]
   rw[this]at h2;cases h2
  ·rw[hrow i a1]at h2;exact(hR.GP i x q a2 h2).E0 hx (hs.block x (hR.lt a2))
 ·have:=hR.ro;show C.ro<=(C.H++[r]).length
  simp only[Ap,BW];omega
 ·rcases Pd h with ⟨a1,a2⟩ |⟨a1,a2⟩
  ·subst a2;exact fun hf=>by have:=hR.Kq _ hf;omega
  ·exact hR.IU i x a2
 ·rcases Pd h1 with ⟨a1,a2⟩ |⟨a1,a2⟩
  ·subst a1 a2;rw[hnew]at h2;cases h2;rw[hlp]at h3;cases h3;exact hB
  ·have h2':(C.H++[r])[i]? = some q:=h2;rw[Aw a1]at h2';exact(hR.Ii i x q info' a2 h2' h3 h4).E0 hx (hs.block x (hR.lt a2))
theorem XP{E:CY}(hE:CG P E.env){n:Nat}{f:FuncId}{args:List PV}{i:Nat}{H2:List Row}{K Et:TypeId}{D:List (PV×PV)}(hm:E5 0 args=true)(h:OA P E n 0 f args []=some (.mp i,H2))
  (hM:∀(C:Ctx) (V:Value),RH P C->C.H=H2->RV P C (.mp i) V->∃ b,V=.map (some b)/\C.ρ i=some b/\∃ D',D'.Perm D/\QU P C b K Et D'/\D.Pairwise fun x y=>x.1.cells≠y.1.cells) (hf:∀ x∈D,x.2.flat=true):
  Dd P f/\∀ ro H,Fa P ro f args H (.mp H.length) (H++[IS K Et D]):=by
 obtain⟨q,H3,hI,h2⟩:=Fj (Fc n) h;cases h2;refine⟨FT hI,fun ro H C hCH _ hR Vs hv=>?_⟩;subst hCH;have hRc:RH P (C.cut 0 True 0):=hR.cut (AT _) (Al _) (by simp[DF]);have hvc:Cs P (C.cut 0 True 0) args Vs:=⟨hv.1,fun j c v h1 h2=>(hv.2 j c v h1 h2).cut (AT _) (Dv hm h1)⟩;have g2:=(Fi hE (Hh hE n) (C:=C.cut 0 True 0) hRc rfl hvc hI).2;refine g2.mono ?_
 rintro e w' ⟨V,C',rfl,rfl,hc⟩
 have hs:I8 C.w C'.w:=H7 hc.ext;obtain⟨b,rfl,hρ,D',hp,hB,hd⟩:=hM C' V hc.rh hc.H hc.rv;have hb:C.w.heap.size<=b:=by
  rcases hc.ext.fresh b ⟨i,hρ⟩ with ⟨j,hj⟩ |hs
  ·simp[Ctx.cut]at hj
  ·exact hs
 obtain⟨⟨es,c,h1,h2,h3,h4⟩,hk,hvl⟩:=hB;have hlt:b<C'.w.heap.size:=(At.1 h1).1;have hL:FJ P (C.Jf C'.w b (IS K Et D)) b ⟨k0,.Gy K Et D⟩:=by
  refine⟨fun hf=>(by cases hf),fun _ _ _ he=>(by cases he),fun K2 E2 D2 he=>?_,fun _ he=>(by cases he)⟩;cases he;exact⟨D',hp,⟨⟨es,c,h1,h2,h3,fun j a v e g1 g2=>⟨(h4 j a v e g1 g2).1,(h4 j a v e g1 g2).2.1.flat (Gb (hk _ (Ag g1))),(h4 j a v e g1 g2).2.2.flat (hf _ (hp.subset (Ag g1)))⟩⟩,hk,hvl⟩,hd⟩
 refine⟨_,C.Jf C'.w b (IS K Et D),rfl,rfl,rfl,jP hs hR.ro hb _,oi hR hs hb hlt rfl rfl hL,?_⟩;have hh:(C.Jf C'.w b (IS K Et D)).H[C.H.length]? = some (IS K Et D):=by simp[Ctx.Jf]
 exact .mp (by simp[Ctx.Jf]) ⟨_,_,hh,rfl,rfl,rfl⟩ (by simp[Ctx.Jf])
theorem er{E:CY}(hE:CG P E.env){n:Nat}{f:FuncId}{args:List PV}{i:Nat}{H2:List Row}{k:Gf}{K Et:TypeId}{D:List (PV×PV)}(hm:E5 0 args=true)(h:OA P E n 0 f args []=some (.mp i,H2))(hM:MS H2 i=some (k,K,Et,D))(hf:∀ x∈D,x.2.flat=true):
  Dd P f/\∀ ro H,Fa P ro f args H (.mp H.length) (H++[IS K Et D]):=
 XP hE hm h (fun C V hR hH hv=>NP hR hv (by rw[hH];exact hM)) hf
theorem jR{E:CY}(hE:CG P E.env){n:Nat}{f:FuncId}{args:List PV}{i:Nat}{H2:List Row}{k:Gf}{K Et:TypeId}{D:List (PV×PV)}(hm:E5 0 args=true)(h:OA P E n 0 f args []=some (.mp i,H2))(hM:IA H2 i=some (k,K,Et,D))(hf:∀ x∈D,x.2.flat=true)
  (hd:D.Pairwise fun x y=>x.1.cells≠y.1.cells):Dd P f/\∀ ro H,Fa P ro f args H (.mp H.length) (H++[IS K Et D]):=
 XP hE hm h (fun C V hR hH hv=>by
  obtain⟨b,h1,h2,h3⟩:=NN hR hv (by rw[hH];exact hM);exact⟨b,h1,h2,D,.refl _,h3,hd⟩) hf
def CY.cb(E:CY)(k:FuncId)(K Et:TypeId)(c:List PV->Option (Bool×List (PV×PV))):CY:=
 (E.RF k fun _ a H=>match c a with |some r=>some (.br r.1 (.leaf (.mp H.length,H++[IS K Et r.2])) .no) |none=>none).FX k
theorem CG.cb{E:CY}(hE:CG P E.env){k:FuncId}{K Et:TypeId}{c:List PV->Option (Bool×List (PV×PV))}(hent:Dd P k)
  (hc:∀ args r,c args=some r->r.1=true->∀ ro H,Fa P ro k args H (.mp H.length) (H++[IS K Et r.2])):CG P (E.cb k K Et c).env:=
 (hE.RF hent fun ro args H d p H' h1 h2=>by
  split at h1
  ·rename_i r hr;cases h1;cases hb:r.1 with
   |true=>
    rw[hb]at h2;cases h2;exact hc _ _ hr hb ro H
   |false=>rw[hb]at h2;cases h2
  ·cases h1).FX k
def Ctx.E7(C:Ctx)(w':World)(ob:Nat->Option Nat)(R:List Row):Ctx:={ ρ:=fun x=>if x<C.H.length then C.ρ x else ob (x-C.H.length),H:=C.H++R,w:=w',fo:=C.fo,ro:=C.ro }
section
variable {C:Ctx} {w':World} {ob:Nat->Option Nat} {R:List Row}
theorem N9{i:Nat}(hi:i<C.H.length):(C.E7 w' ob R).row? i=C.row? i:=by
 show rowAt (C.H++R) i=rowAt C.H i
 unfold rowAt;rw[Aw hi]
theorem SS(j:Nat):(C.E7 w' ob R).row? (C.H.length+j)=rowAt R j:=by
 show rowAt (C.H++R) (C.H.length+j)=rowAt R j
 unfold rowAt;rw[Bn (by omega),show C.H.length+j-C.H.length=j by omega]
theorem LP{i:Nat}(hi:i<C.H.length):(C.E7 w' ob R).ρ i=C.ρ i:=Ak hi
theorem XV(j:Nat):(C.E7 w' ob R).ρ (C.H.length+j)=ob j:=by
 show(if C.H.length+j<C.H.length then _ else ob (C.H.length+j-C.H.length))=_
 rw[Aq (by omega),show C.H.length+j-C.H.length=j by omega]
theorem Ga{i b:Nat}(_:RH P C)(h:(C.E7 w' ob R).ρ i=some b):(i<C.H.length/\C.ρ i=some b)\/∃ j,i=C.H.length+j/\ob j=some b:=by
 by_cases hi:i<C.H.length
 ·rw[LP hi]at h;exact .inl ⟨hi,h⟩
 ·obtain⟨j,rfl⟩:∃ j,i=C.H.length+j:=⟨i-C.H.length,by omega⟩;rw[XV]at h;exact .inr ⟨j,rfl,h⟩
theorem ke(hR:RH P C)(hs:I8 C.w w')(hb:∀ j b,ob j=some b->C.w.heap.size<=b):Ext C (C.E7 w' ob R):=by
 refine⟨hs.os,hs.tape,hs.output,hs.size,fun b h1 _=>hs.block b h1,fun b c e fr h=>⟨c,fr,by rw[<- h];exact hs.block b (At.1 h).1,rfl⟩,by simp[Ctx.E7],fun i r' hi hr=>?_,fun x hx=>?_,fun x hx=>?_,rfl,rfl,fun i hi=>?_,fun i q info h1 h2 h3=>?_,fun b rec h=>⟨rec,by rw[<- h];exact hs.block b (At.1 h).1⟩⟩
 ·rw[N9 hi]at hr;exact⟨r',hr,rfl,rfl,Al _,fun _=>⟨rfl,fun y hy=>by rw[LP hi];exact hy⟩⟩
 ·obtain⟨i,hi⟩:=hx;rcases Ga hR hi with ⟨_,h⟩ |⟨j,_,h⟩
  ·exact .inl ⟨i,h⟩
  ·exact .inr (hb j x h)
 ·obtain⟨i,hi0,hi⟩:=hx;rcases Ga hR hi with ⟨_,h⟩ |⟨j,_,h⟩
  ·exact .inl ⟨i,hi0,h⟩
  ·exact .inr (hb j x h)
 ·have hro:=hR.ro;refine⟨?_,LP (by omega)⟩;show(C.H++R)[i]? = _
  rw[Aw (by omega)]
 ·have hi:i<C.H.length:=(Ad.1 h1).1;exact⟨⟨q,info.st,by show(C.H++R)[i]? = _;rw[Aw hi];exact h1,h2,h3⟩,fun y hy=>by rw[LP hi];exact hy⟩
theorem kg(hR:RH P C)(hs:I8 C.w w')(hb:∀ j b,ob j=some b->C.w.heap.size<=b):dt C (C.E7 w' ob R) where
 size:=hs.size
 nb x hx hlt:=by
  refine⟨fun h=>?_,hs.block x hlt⟩;rcases h with ⟨i,hi⟩ |h
  ·rcases Ga hR hi with ⟨_,h⟩ |⟨j,_,h⟩
   ·exact hx (.inl ⟨i,h⟩)
   ·have:=hb j x h;omega
  ·exact hx (.inr h)
 shape x c e fr h:=⟨c,fr,by rw[<- h];exact hs.block x (At.1 h).1,rfl⟩
 len:=by simp[Ctx.E7]
 rows i r' hi h:=by
  rw[N9 hi]at h;exact⟨r',h,rfl,rfl,Al _,fun _=>⟨rfl,fun y hy=>by rw[LP hi];exact hy⟩⟩
 lp i q info h1 h2 h3:=by
  have hi:i<C.H.length:=(Ad.1 h1).1;exact⟨⟨q,info.st,by show(C.H++R)[i]? = _;rw[Aw hi];exact h1,h2,h3⟩,fun y hy=>by rw[LP hi];exact hy⟩
theorem oz(hR:RH P C)(hs:I8 C.w w')(hb:∀ j b,ob j=some b->C.w.heap.size<=b)(hi:∀ j j' b,ob j=some b->ob j'=some b->j=j')(hl:∀ j b,ob j=some b->∃ r,rowAt R j=some r/\RB P (C.E7 w' ob R) b r):RH P (C.E7 w' ob R):=by
 have hx:=kg (ob:=ob) (R:=R) hR hs hb;refine⟨fun i j x h1 h2=>?_,fun i x h=>?_,fun i x q h1 h2=>?_,?_,fun i x h=>?_,fun x h=>AA (hR.Kq x h) hs.size,fun i x q info' h1 h2 h3 h4=>?_,hR.LQ.E0 hx⟩
 ·rcases Ga hR h1 with ⟨a1,a2⟩ |⟨a,rfl,a2⟩ <;> rcases Ga hR h2 with ⟨b1,b2⟩ |⟨b,rfl,b2⟩
  ·exact hR.inj i j x a2 b2
  ·have:=hR.lt a2;have:=hb b x b2;omega
  ·have:=hR.lt b2;have:=hb a x a2;omega
  ·rw[hi a b x a2 b2]
 ·rcases Ga hR h with ⟨a1,a2⟩ |⟨j,rfl,a2⟩
  ·rcases hR.Ly i x a2 with ⟨q,hq⟩ |⟨q,info',g1,g2,g3⟩
   ·exact .inl ⟨q,by rw[N9 a1];exact hq⟩
   ·exact .inr ⟨q,info',by show(C.H++R)[i]? = _;rw[Aw a1];exact g1,g2,g3⟩
  ·obtain⟨r,h1,_⟩:=hl j x a2;exact .inl ⟨r,by rw[SS];exact h1⟩
 ·rcases Ga hR h1 with ⟨a1,a2⟩ |⟨j,rfl,a2⟩
  ·rw[N9 a1]at h2;exact(hR.GP i x q a2 h2).E0 hx (hs.block x (hR.lt a2))
  ·obtain⟨r,g1,g2⟩:=hl j x a2;rw[SS,g1]at h2;cases h2;exact g2
 ·have:=hR.ro;show C.ro<=(C.H++R).length
  simp only[Ap];omega
 ·rcases Ga hR h with ⟨a1,a2⟩ |⟨j,rfl,a2⟩
  ·exact hR.IU i x a2
  ·exact fun hf=>by have:=hR.Kq _ hf;have:=hb j x a2;omega
 ·rcases Ga hR h1 with ⟨a1,a2⟩ |⟨j,rfl,a2⟩
  ·have h2':(C.H++R)[i]? = some q:=h2;rw[Aw a1]at h2';exact(hR.Ii i x q info' a2 h2' h3 h4).E0 hx (hs.block x (hR.lt a2))
  ·obtain⟨r,g1,_⟩:=hl j x a2;have h2':(C.H++R)[C.H.length+j]? = some q:=h2;rw[Bn (by omega),show C.H.length+j-C.H.length=j by omega]at h2';unfold rowAt at g1;rw[h2']at g1;simp[h4]at g1
end
theorem RB.free{C C':Ctx}{b:Nat}{r:Row}(h:RB P C b r)(hw:C'.w=C.w)(hb:∀ x,C'.KI x->C.KI x)(hf:∀ e∈r.es,∀ c∈e.cells,mlt 0 c=true):RB P C' b r:=by
 obtain⟨c,fr,cv,h1,h2,h3,h4⟩:=h.mem;exact⟨h.sz,⟨c,fr,cv,by rw[hw,h1],h2,h3,fun k e j p g1 g2=>⟨(h4 k e j p g1 g2).1,(h4 k e j p g1 g2).2.free hb hw (hf e (Ag g1) p (Ag g2))⟩⟩,h.len,h.typed⟩
inductive Shd(idx:List Nat)(h:Nat):PV->PV->Prop
 |free {p:PV} (hp:mlt 0 p=true):Shd idx h p p
 |sl {x i n l:Nat} (hx:idx[x]? = some i):Shd idx h (.sl i n 0 l) (.sl (h+x) n 0 l)
theorem eB{E:CY}(hE:CG P E.env){n:Nat}{f:FuncId}{args:List PV}{ps qs:Nat->List PV}{H2:List Row}{idx:List Nat}{R:List Row}(hm:E5 0 args=true)(h:OA P E n 0 f args []=some (.El (ps 0),H2))(hnd:idx.Nodup)
  (hR2:∀(x i:Nat),idx[x]? = some i->∃ r,rowAt H2 i=some r/\rowAt R x=some r) (hlR:R.length=idx.length) (hf:∀ r∈R,∀ e∈r.es,∀ c∈e.cells,mlt 0 c=true)
  (hsh:∀ h,(qs h).length=(ps 0).length/\∀(j:Nat) p q,(ps 0)[j]? = some p->(qs h)[j]? = some q->Shd idx h p q):
  Dd P f/\∀ ro H,Fa P ro f args H (.El (qs H.length)) (H++R):=by
 obtain⟨q,H3,hI,h2⟩:=Fj (Fc n) h;cases h2;refine⟨FT hI,fun ro H C hCH _ hR Vs hv=>?_⟩;subst hCH;have hRc:RH P (C.cut 0 True 0):=hR.cut (AT _) (Al _) (by simp[DF]);have hvc:Cs P (C.cut 0 True 0) args Vs:=⟨hv.1,fun j c v h1 h2=>(hv.2 j c v h1 h2).cut (AT _) (Dv hm h1)⟩;have g2:=(Fi hE (Hh hE n) (C:=C.cut 0 True 0) hRc rfl hvc hI).2;refine g2.mono ?_
 rintro e w' ⟨V,C',rfl,rfl,hc⟩
 have hs:I8 C.w C'.w:=H7 hc.ext;have hH2:=hc.H;subst hH2
 let ob:Nat->Option Nat:=fun x=>(idx[x]?).bind C'.ρ
 have hob:∀ j b,ob j=some b->∃ i,idx[j]? = some i/\C'.ρ i=some b:=fun j b hb=>AH.1 hb
 have hfr:∀ j b,ob j=some b->C.w.heap.size<=b:=fun j b hb=>by
  obtain⟨i,_,h2⟩:=hob j b hb;rcases hc.ext.fresh b ⟨i,h2⟩ with ⟨j,hj⟩ |hs
  ·simp[Ctx.cut]at hj
  ·exact hs
 have hban:∀ x,(C.E7 C'.w ob R).KI x->C'.KI x:=fun x hx=>by
  rcases hx with ⟨i,hi⟩ |hx
  ·rcases Ga hR hi with ⟨a1,a2⟩ |⟨j,rfl,a2⟩
   ·refine .inr ?_;rw[hc.ext.fo];simp only[Ctx.cut]
    first |exact .inl ⟨trivial,⟨i,by omega,a2⟩⟩ |exact .inr ⟨trivial,⟨i,by omega,a2⟩⟩ |exact .inr ⟨⟨i,by omega,a2⟩,trivial⟩ |simp_all
   ·obtain⟨i,_,h2⟩:=hob j x a2;exact .inl ⟨i,h2⟩
  ·refine .inr ?_;rw[hc.ext.fo];simp only[Ctx.cut]
   first |exact .inl hx |exact .inr hx |simp_all
 have hRB:∀ j b,ob j=some b->∃ r,rowAt R j=some r/\RB P (C.E7 C'.w ob R) b r:=fun j b hb=>by
  obtain⟨i,h1,h2⟩:=hob j b hb;obtain⟨r,g1,g2⟩:=hR2 j i h1;have hmem:r∈R:=by
   unfold rowAt at g2;split at g2
   ·rename_i r' hr';split at g2
    ·cases g2;exact Ag hr'
    ·cases g2
   ·cases g2
  exact⟨r,g2,(hc.rh.GP i b r h2 g1).free rfl hban (hf r hmem)⟩
 have hinj:∀ j j' b,ob j=some b->ob j'=some b->j=j':=fun j j' b h1 h2=>by
  obtain⟨i,a1,a2⟩:=hob j b h1;obtain⟨i',b1,b2⟩:=hob j' b h2;have e:=hc.rh.inj i i' b a2 b2;subst e;exact(C6 (Ad.1 a1).1 hnd).1 (a1.trans b1.symm)
 have hR3:=oz hR hs hfr hinj hRB;have hrv:=hc.rv;cases hrv with
 | @El _ Vs2 hz hh=>
  obtain⟨l1,l2⟩:=hsh C.H.length;refine⟨_,C.E7 C'.w ob R,rfl,rfl,rfl,ke hR hs hfr,hR3,.El (by rw[hz,l1]) fun j q v g1 g2=>?_⟩;have hj:j<(ps 0).length:=by rw[<- l1];exact(Ad.1 g1).1
  have g0:(ps 0)[j]? = some (ps 0)[j]:=Ae hj;have hv1:=hh j _ v g0 g2;have hS:=l2 j _ q g0 g1;generalize (ps 0)[j]=p at hv1 hS;cases hS with
  |free hp=>exact hv1.free hban rfl hp
  | @sl x i n l hx=>
   obtain⟨r,k1,k2⟩:=hR2 x i hx;have hxl:x<R.length:=by rw[hlR];exact(Ad.1 hx).1
   have hrow:(C.E7 C'.w ob R).row? (C.H.length+x)=some r:=by rw[SS];exact k2
   cases hv1 with
   |sl hV hi hn hh2=>
    refine .sl hV (by show _<(C.H++R).length;rw[Ap];omega) (fun r' hr'=>?_) fun r' hr' hl=>?_
    ·rw[hrow]at hr';cases hr';exact hn r k1
    ·rw[hrow]at hr';cases hr';obtain⟨q1,a,cap,q2,q3,q4⟩:=hh2 r k1 hl;refine⟨q1,a,cap,q2,q3,?_⟩;unfold E4 at q4 ⊢;split
     ·rename_i hnl;rw[Ak hnl]at q4;exact q4
     ·rename_i hnl;rw[Aq hnl]at q4;obtain⟨b,z1,z2⟩:=q4;exact⟨b,by rw[XV];show(idx[x]?).bind C'.ρ=_;rw[hx];exact z1,z2⟩
mutual
/-- Rows have other numbers: row K[j] is row j. -/
def w6(K:List Nat):PV->PV
 |.ptr i n k j=>match posOf K i with |some m=>.ptr m n k j |none=>.any
 |.sl i n k l=>match posOf K i with |some m=>.sl m n k l |none=>.any
 |.mp i=>match posOf K i with |some m=>.mp m |none=>.any
 |.Ih i=>match posOf K i with |some m=>.Ih m |none=>.any
 |.agg cs=>.agg (Z3 K cs)
 |.El cs=>.El (Z3 K cs)
 |.fn f a b=>.fn f (Z3 K a) (Z3 K b)
 |.Kp t v=>.Kp t (w6 K v)
 |p=>p
def Z3(K:List Nat):List PV->List PV
 | []=>[]
 |p::ps=>w6 K p::Z3 K ps
end
mutual
/-- What names no row stays. -/
theorem Ur{K:List Nat}:∀{p:PV},mlt 0 p=true->w6 K p=p
 |.val _,_=>rfl
 |.any,_=>rfl
 |.C9 _ _ _,_=>rfl
 |.EF _ _ _,_=>rfl
 |.gv _,_=>rfl
 |.bad _,_=>rfl
 |.Lx _ _,_=>rfl
 |.ptr _ _ _ _,h=>by simp[mlt]at h
 |.sl _ _ _ _,h=>by simp[mlt]at h
 |.mp _,h=>by simp[mlt]at h
 |.Ih _,h=>by simp[mlt]at h
 |.agg cs,h=>by simp only[w6];rw[IK (by simpa [mlt] using h)]
 |.El cs,h=>by simp only[w6];rw[IK (by simpa [mlt] using h)]
 |.fn f a b,h=>by
  simp only[mlt,Aa]at h;simp only[w6];rw[IK h.1,IK h.2]
 |.Kp t v,h=>by simp only[w6];rw[Ur (by simpa [mlt] using h)]
theorem IK{K:List Nat}:∀{ps:List PV},E5 0 ps=true->Z3 K ps=ps
 | [],_=>rfl
 |p::ps,h=>by
  simp only[E5,Aa]at h;simp only[Z3];rw[Ur h.1,IK h.2]
end
section
variable {P:Program} {C:Ctx} {K:List Nat}
end
section
variable {P:Program} {C:Ctx} {K:List Nat}
end
def tK(P:Program)(E:CY)(n:Nat)(f:FuncId)(args:List PV):Option PV:=
 DM (E5 0 args) (Ld P (Fb P E n) 0 f args [] fun p H'=>DM (mlt 0 (IN P H' 0 p)) (some (IN P H' 0 p)))
theorem X7{E:CY}(hE:CG P E.env){n:Nat}{f:FuncId}{args:List PV}{p:PV}(h:tK P E n f args=some p):Dd P f/\Dr P f args p:=by
 obtain⟨hm,h⟩:=Da h;obtain⟨q,H2,hI,h2⟩:=Fj (Fc n) h;obtain⟨hq,h2⟩:=Da h2;cases h2;refine⟨FT hI,fun C hR Vs hv=>?_⟩;have hRc:RH P (C.cut 0 True 0):=hR.cut (AT _) (Al _) (by simp[DF]);have hvc:Cs P (C.cut 0 True 0) args Vs:=⟨hv.1,fun j c v h1 h2=>(hv.2 j c v h1 h2).cut (AT _) (Dv hm h1)⟩;have g2:=(Fi hE (Hh hE n) (C:=C.cut 0 True 0) hRc rfl hvc hI).2;refine g2.mono ?_
 rintro e w' ⟨V,C',rfl,rfl,hc⟩
 refine⟨V,rfl,H7 hc.ext,?_⟩;have hH2:=hc.H;subst hH2;have h1:=hc.rv.IN (ro:=C'.ro) hc.rh (AT _) hq;have hx2:Ext (C.cut 0 True 0) (C'.cut 0 False C'.ro):=hc.ext.cut (AT _) (AT _) (AT _);exact RV.back (Ci:=C'.cut 0 False C'.ro) (AT _) hx2 h1 hq
theorem RV.nzR{q p:PV}{V:Value}(hp:NzR q p)(g2:RV P C q V):RV P C p V:=by
 rcases hp with rfl |⟨t,rfl,rfl⟩ |⟨f,t,es,rfl,rfl⟩
 ·exact g2
 ·cases g2;exact .C9 0 0 (fun _ _=>undef) (Al _) (fun h=>by cases h) (fun h=>by simp at h) (fun x e j p h1 _=>by simp at h1) (fun x e j p h1 _=>by simp at h1) (fun e h1=>by cases h1)
 ·cases g2 with
  |C9 b off cv hcap hfull ha hc hr ht=>exact .C9 b off cv hcap (fun h=>by cases h) ha hc hr ht
def Qs(P:Program)(t:TypeId)(H:List Row)(e:PV):PV:=vd (kinds P t) (MG H 0 e)
def eQ(P:Program)(t:TypeId)(H:List Row)(L:List PV):Bool:=L.all fun e=>(e.cells.all fun c=>mlt 0 (frz H 0 c))&&wt P t (Qs P t H e)
def Z7(P:Program)(H:List Row):PV->PV
 |.sl i n k len=>
  match rowAt H i with
  |some r=>
   match r.es.length==n&&eQ P r.t H ((r.es.drop k).take len) with
   |true=>.C9 false r.t (((r.es.drop k).take len).map (Qs P r.t H))
   |false=>frz H 0 (.sl i n k len)
  |none=>frz H 0 (.sl i n k len)
 |p=>frz H 0 p
section
variable {P:Program} {C:Ctx}
theorem RV.Z7(hR:RH P C){ro:Nat}{p:PV}{V:Value}(hv:RV P C p V):mlt 0 (Z7 P C.H p)=true->RV P (C.cut 0 False ro) (Hx.Z7 P C.H p) V:=by
 unfold Hx.Z7;split
 ·rename_i i n k len;split
  ·rename_i r hr;split
   ·rename_i hc;intro _;simp only[eQ,Aa,Ay,Ao]at hc;obtain⟨hn,hall⟩:=hc;cases hv with
    |sl hV hi hle h1=>
     obtain⟨hk,a,cap,rfl,hcap,hs⟩:=h1 r hr hn;have hl:(((r.es.drop k).take len).map (Qs P r.t C.H)).length=len:=by simp;omega
     have e1:(Value.slice a len cap)=.slice a (((r.es.drop k).take len).map (Qs P r.t C.H)).length cap:=by rw[hl]
     rw[e1];unfold E4 at hs;split at hs
     ·obtain⟨rfl,rfl⟩:=hs;have h0:len=0:=by omega
      subst h0;simp only[CV,Bs];exact .C9 0 0 (fun _ _=>undef) (by simp) (fun hf=>by cases hf) (fun h0=>by simp at h0) (fun x e j p hx=>by simp at hx) (fun x e j p hx=>by simp at hx) (fun e he=>by simp at he)
     ·obtain⟨b,hb,rfl,_⟩:=hs;have hB:=hR.GP i b r hb hr;obtain⟨c,fr,cv,m1,m2,m3,m4⟩:=hB.mem;have hget:∀(x:Nat) e,((r.es.drop k).take len)[x]? = some e->r.es[k+x]? = some e:=fun x e he=>by
       rw[Au]at he;split at he
       ·rw[A8]at he;exact he
       ·cases he
      have hcell:∀(x:Nat) e (j:Nat) p,(((r.es.drop k).take len).map (Qs P r.t C.H))[x]? = some e->e.cells[j]? = some p ->
        ∃ e0 p0,((r.es.drop k).take len)[x]? = some e0/\e0.cells[j]? = some p0/\NzR (Hx.frz C.H 0 p0) p:=fun x e j p hx hj=>by
       rw[An]at hx;obtain⟨e0,g1,rfl⟩:=Af.1 hx;obtain⟨q,hq,hz⟩:=bz hj;have hq:(e0.cells.map (Hx.frz C.H 0))[j]? = some q:=hq;rw[An]at hq;obtain⟨p0,g2,rfl⟩:=Af.1 hq;exact⟨e0,p0,g1,g2,hz⟩
      refine .C9 b (k*r.s) (fun x j=>cv (k+x) j) (by omega) (fun hf=>by cases hf) (fun _=>⟨rfl,?_,hB.lt⟩) (fun x e j p hx hj=>?_) (fun x e j p hx hj=>?_) (fun e he=>?_)
      ·rintro (⟨y,hy⟩ |hf |⟨hf,_⟩)
       ·simp only[Ctx.cut]at hy;split at hy
        ·omega
        ·cases hy
       ·exact hR.IU _ _ hb hf
       ·exact hf
      ·obtain⟨e0,p0,g1,g2,_⟩:=hcell x e j p hx hj;obtain⟨q1,_⟩:=m4 (k+x) e0 j p0 (hget x e0 g1) g2;rw[show k*r.s+x*P.cellsOf r.t+j=(k+x)*r.s+j by rw[<- hB.sz,Bb]];show C.w.cell? _=_
       rw[Ij m1];exact q1
      ·obtain⟨e0,p0,g1,g2,hz⟩:=hcell x e j p hx hj;exact RV.nzR hz (((m4 (k+x) e0 j p0 (hget x e0 g1) g2).2).frz hR (AT _) ((hall e0 (Ag g1)).1 p0 (Ag g2)))
      ·obtain⟨e0,g1,rfl⟩:=AX.1 he;exact(hall e0 g1).2
   ·exact hv.frz hR (AT _)
  ·exact hv.frz hR (AT _)
 ·exact hv.frz hR (AT _)
end
def kX{α:Type}(P:Program)(H:List Row)(p:PV)(k:PV->Option α):Option α:=
 match p with
 |.sl i n m len=>
  match rowAt H i with
  |some r=>DM (r.es.length==n) (DM (eQ P r.t H ((r.es.drop m).take len)) (k (.C9 false r.t (((r.es.drop m).take len).map (Qs P r.t H)))))
  |none=>k (frz H 0 p)
 |p=>k (frz H 0 p)
theorem Z8{α:Type}{H:List Row}{p:PV}{k:PV->Option α}{r:α}(g:kX P H p k=some r):k (Z7 P H p)=some r:=by
 cases p with
 |sl i n m len=>
  unfold kX at g;unfold Z7;dsimp only at g ⊢;cases hr:rowAt H i with
  |none=>rw[hr]at g;exact g
  |some r0=>
   rw[hr]at g;dsimp only at g ⊢;obtain⟨h1,g⟩:=Da g;obtain⟨h2,g⟩:=Da g;rw[h1,h2];exact g
 |_=>exact g
def kY(P:Program)(E:CY)(n:Nat)(f:FuncId)(args:List PV):Option PV:=
 DM (E5 0 args) (Ld P (Fb P E n) 0 f args [] fun p H'=>kX P H' p fun q=>DM (mlt 0 q) (some q))
theorem PZ{E:CY}(hE:CG P E.env){n:Nat}{f:FuncId}{args:List PV}{p:PV}(h:kY P E n f args=some p):Dd P f/\Dr P f args p:=by
 obtain⟨hm,h⟩:=Da h;obtain⟨q,H2,hI,h2⟩:=Fj (Fc n) h;obtain⟨hq,h2⟩:=Da (Z8 h2);cases h2;refine⟨FT hI,fun C hR Vs hv=>?_⟩;have hRc:RH P (C.cut 0 True 0):=hR.cut (AT _) (Al _) (by simp[DF]);have hvc:Cs P (C.cut 0 True 0) args Vs:=⟨hv.1,fun j c v h1 h2=>(hv.2 j c v h1 h2).cut (AT _) (Dv hm h1)⟩;have g2:=(Fi hE (Hh hE n) (C:=C.cut 0 True 0) hRc rfl hvc hI).2;refine g2.mono ?_
 rintro e w' ⟨V,C',rfl,rfl,hc⟩
 refine⟨V,rfl,H7 hc.ext,?_⟩;have hH2:=hc.H;subst hH2;have h1:=hc.rv.Z7 (ro:=C'.ro) hc.rh hq;have hx2:Ext (C.cut 0 True 0) (C'.cut 0 False C'.ro):=hc.ext.cut (AT _) (AT _) (AT _);exact RV.back (Ci:=C'.cut 0 False C'.ro) (AT _) hx2 h1 hq
end Go.Hx


namespace Go.Hx
open Go.ChangeShapes Go.WideShapes Go.RowKit
variable{P:Program}
inductive Fit:PV->Prop
 |int {k:IntKind} {n:Int} (h:(Lit.int k n).wf=true):Fit (.val (.int k n))
 |bool {b:Bool}:Fit (.val (.bool b))
 |str {s:ByteArray} (h:s.size<=maxLen):Fit (.val (.string s))
 |C9 {f:Bool} {t:TypeId} {es:List PV} (hl:es.length<=maxLen) (h:∀ e,e∈es->∀ c,c∈e.cells->Fit c):Fit (.C9 f t es)
def Ctx.of(w:World):Ctx:={ ρ:=fun _=>none,H:=[],w:=w }
theorem ld{C:Ctx}(h:(List.range P.globals.size).all (fun g=>!Ut P g)=true):lk P C:=fun g hl=>by
 have hg:g<P.globals.size:=by
  unfold Ut at hl;split at hl
  ·rename_i G hG;exact(At.1 hG).1
  ·cases hl
 have:=Ao.1 h g (Bo.2 hg);rw[hl]at this;cases this
theorem adi(P:Program)(w:World)(hg:lk P (Ctx.of w)):RH P (Ctx.of w):=
 ⟨fun _ _ _ h=>(by cases h),fun _ _ h=>(by cases h),fun _ _ _ h=>(by cases h),Al _,fun _ _ h=>(by cases h),fun _ (h:False)=>h.elim,fun _ _ _ _ h=>(by cases h),hg⟩
theorem xo(w:World)(b:Nat):¬(Ctx.of w).KI b:=by
 rintro (⟨i,hi⟩ |hf)
 ·cases hi
 ·exact hf
theorem P0:∀{k1 k2:List Kind} {p1 p2:List PV},D4 k1 p1=true->D4 k2 p2=true->D4 (k1++k2) (p1++p2)=true
 | [],_,[],_,_,h=>h
 | [],_,_::_,_,h,_=>by simp[D4]at h
 |_::_,_,[],_,h,_=>by simp[D4]at h
 |k::ks,k2,p::ps,p2,h,g=>by
  simp only[D4,Aa,List.cons_append]at h ⊢;exact⟨h.1,P0 h.2 g⟩
def GN(P:Program)(w:World)(ks:List Kind)(cs:List Value)(ps:List PV):Prop:=
 ps.length=cs.length/\D4 ks ps=true/\(∀(j:Nat) p v,ps[j]? = some p->cs[j]? = some v->RV P (Ctx.of w) p v)/\∀ p,p∈ps->Fit p
theorem GN.app{w:World}{k1 k2:List Kind}{c1 c2:List Value}{p1 p2:List PV}(h:GN P w k1 c1 p1)(g:GN P w k2 c2 p2):GN P w (k1++k2) (c1++c2) (p1++p2):=by
 refine⟨by simp[h.1,g.1],P0 h.2.1 g.2.1,fun j p v hp hv=>?_,fun p hp=>?_⟩
 ·rw[AO]at hp hv;rw[<- h.1]at hv;split at hp
  ·rename_i hj;rw[Ak hj]at hv;exact h.2.2.1 j p v hp hv
  ·rename_i hj;rw[Aq hj]at hv;exact g.2.2.1 _ p v hp hv
 ·rcases A3.1 hp with hp |hp
  ·exact h.2.2.2 p hp
  ·exact g.2.2.2 p hp
def cont:List (Nat×Nat×List Kind)->Nat->Nat->Bool
 | [],o,n=>o==n
 |(o',s,ks)::l,o,n=>o'==o&&ks.length==s&&cont l (o+s) n
theorem VR{P:Program}{w:World}{cs:List Value}:∀(l:List (Nat×Nat×List Kind)) (o:Nat),cont l o cs.length=true->(∀ x,x∈l->∃ ps,GN P w x.2.2 ((cs.drop x.1).take x.2.1) ps) ->
  ∃ ps,GN P w (l.flatMap fun x=>x.2.2) (cs.drop o) ps
 | [],o,h,_=>by
  simp only[cont,Ay]at h;subst h;exact⟨[],by simp,rfl,fun j p v hp=>(by simp at hp),fun p hp=>(by cases hp)⟩
 |(o',s,ks)::l,o,h,hx=>by
  simp only[cont,Aa,Ay]at h;obtain⟨⟨rfl,hs⟩,hc⟩:=h;obtain⟨p1,h1⟩:=hx (o',s,ks) (by simp);obtain⟨p2,h2⟩:=VR l (o'+s) hc fun x hm=>hx x (by simp[hm])
  refine⟨p1++p2,?_⟩;have hsplit:cs.drop o'=(cs.drop o').take s++cs.drop (o'+s):=by
   rw[<- List.drop_drop];exact(List.take_append_drop s (cs.drop o')).symm
  rw[hsplit];exact h1.app h2
def IL(P:Program):Nat->Nat->TypeId->Bool
 |0,_,_=>false
 |_+1,0,_=>false
 |n+1,d+1,t=>
  match P.underlying t with
  |some (.int _)=>true
  |some .bool=>true
  |some .string=>true
  |some (.slice e)=>IL P n 12 e&&decide (0<P.cellsOf e)&&(kinds P e).length==P.cellsOf e
  |some (.struct fs)=>fs.toList.all (fun f=>IL P n d f.type)&&cont (fs.toList.map fun f=>(f.offset,P.cellsOf f.type,DU P d f.type)) 0 (P.cellsOf t)
  |some (.array m e)=>IL P n d e&&cont ((List.range m).map fun i=>(i*P.cellsOf e,P.cellsOf e,DU P d e)) 0 (P.cellsOf t)
  |_=>false
def Yc(P:Program)(t:TypeId)(ps:List PV):PV:=if Dh P t then .agg ps else ps.getD 0 .any
theorem eR{t:TypeId}{ks:List Kind}{ps:List PV}(h:D4 ks ps=true)(hl:ks.length=P.cellsOf t)(h1:Dh P t=false->P.cellsOf t=1):(Yc P t ps).cells=ps:=by
 unfold Yc;split
 ·rfl
 ·rename_i ha;have hl1:=h1 (by simpa using ha);have hp:=IT h
  match ps,hp with
  | [p],_=>
   match ks,h with
   | [k],h=>
    simp only[D4,Bq]at h;show PV.cells p=[p]
    unfold KH at h;split at h <;> first |rfl |cases h
  | [],hp=>simp at hp;omega
  |_::_::_,hp=>simp at hp;omega
theorem MZ{w:World}{a:Addr}{n:Nat}{cs:List Value}(h:w.cells? 0 a n=some cs):cs.length=n/\∀(x:Nat) v,cs[x]? = some v->w.cell? (a.add x)=some v:=by
 obtain⟨h1,h2,h3⟩:=World.cells?_some h;refine⟨by simpa using h2,fun x v hx=>?_⟩;have hlt:x<cs.length:=(Ad.1 hx).1;have:=h3 x (by omega);rw[this,<- hx]
section
variable {H:Type} {enc:TypeId×Value->H} {P:Program} {w:World} {sp:Nat->Bool} {held:Bool}
theorem eS{k:IntKind}{t:TypeId}(hu:P.underlying t=some (.int k)){fuel:Nat}{cs:List Value}{x:DataW H×List MemPlace}(hx:DataW.trod enc P w 0 sp held fuel t cs=some x):∃ n,cs=[.int k n]/\(Lit.int k n).wf=true:=by
 cases fuel with
 |zero=>simp[DataW.trod]at hx
 |succ m=>
  unfold DataW.trod at hx;rw[hu]at hx;split at hx <;> simp_all
theorem af{t:TypeId}(hu:P.underlying t=some .bool){fuel:Nat}{cs:List Value}{x:DataW H×List MemPlace}(hx:DataW.trod enc P w 0 sp held fuel t cs=some x):∃ b,cs=[.bool b]:=by
 cases fuel with
 |zero=>simp[DataW.trod]at hx
 |succ m=>
  unfold DataW.trod at hx;rw[hu]at hx;split at hx <;> simp_all
theorem VS{t:TypeId}(hu:P.underlying t=some .string){fuel:Nat}{cs:List Value}{x:DataW H×List MemPlace}(hx:DataW.trod enc P w 0 sp held fuel t cs=some x):∃ s:ByteArray,cs=[.string s]/\s.size<=maxLen:=by
 cases fuel with
 |zero=>simp[DataW.trod]at hx
 |succ m=>
  unfold DataW.trod at hx;rw[hu]at hx;split at hx <;> simp_all
theorem Ko:∀(n d:Nat) (t:TypeId),IL P n d t=true->∀(fuel:Nat) (cs:List Value) (x:DataW H×List MemPlace),DataW.trod enc P w 0 sp held fuel t cs=some x->∃ ps,GN P w (DU P d t) cs ps
 |0,_,_,h=>fun _ _ _ _=>by simp[IL]at h
 |n+1,0,_,h=>fun _ _ _ _=>by simp[IL]at h
 |n+1,d+1,t,h=>by
  intro fuel cs x hx;have scalar:∀{p:PV} {v:Value} {k:Kind},cs=[v]->DU P (d+1) t=[k]->KH k p=true->RV P (Ctx.of w) p v->Fit p->∃ ps,GN P w (DU P (d+1) t) cs ps:=by
   intro p v k hc hk hw hr hf;subst hc;rw[hk];exact⟨[p],rfl,by simp[D4,hw],fun j q u h1 h2=>by
    match j with
    |0=>simp at h1 h2;subst h1;subst h2;exact hr
    |j+1=>simp at h1
    ,fun q hq=>(by simp at hq;subst hq;exact hf)⟩
  unfold IL at h;split at h
  ·rename_i k hu;obtain⟨n,hc,hwf⟩:=eS hu hx;exact scalar (k:=.int k) hc (by simp[DU,hu]) (by simp[KH]) .val (.int hwf)
  ·rename_i hu;obtain⟨b,hc⟩:=af hu hx;exact scalar (k:=.bool) hc (by simp[DU,hu]) rfl .val .bool
  ·rename_i hu;obtain⟨b,hc,hs⟩:=VS hu hx;exact scalar (k:=.str) hc (by simp[DU,hu]) rfl .val (.str hs)
  ·rename_i e hu;simp only[Aa,Ab,Ay]at h;obtain⟨⟨he,hpos⟩,hlen⟩:=h;have hk:DU P (d+1) t=[.sl e]:=by simp[DU,hu]
   rcases DataW.trod_slice hu hx with ⟨rfl,_⟩ |⟨a,len,cap,elems,rest,m,_,rfl,_,_,hl,hm,hlen2,hel,_,_⟩
   ·refine scalar rfl hk (p:=.C9 false e []) (by simp[KH]) ?_ (.C9 (AT _) fun e' he'=>by cases he');exact .C9 (es:=[]) 0 0 (fun _ _=>undef) (Al _) (fun h=>by cases h) (fun h=>by simp at h) (fun x e' j p h=>by simp at h) (fun x e' j p h=>by simp at h) (fun e' h=>by cases h)
   ·-- the elements
    have one1:Dh P e=false->P.cellsOf e=1:=by
     intro ha;have:∀ D,IL P n 12 e=true->Dh P e=false->(DU P 12 e).length=D->D=1:=by
      intro D hf ha hD;cases n with
      |zero=>simp[IL]at hf
      |succ n'=>
       unfold IL at hf;unfold Dh at ha;split at hf <;> rename_i hu2 <;> simp_all [DU]
     exact this _ he ha (by rw[<- hlen];rfl)
    have each:∀ i,i<len->∃(cs':List Value) (ps:List PV),w.cells? 0 (a.add (i*P.cellsOf e)) (P.cellsOf e)=some cs'/\GN P w (DU P 12 e) cs' ps:=by
     intro i hi;have h1:=hel i hi;have h2:elems[i]? = some (elems[i]'(by omega)):=Ae _;rw[h2]at h1;obtain⟨cs',g1,g2⟩:=AH.1 h1;obtain⟨ps,g3⟩:=Ko n 12 e he _ _ _ g2;exact⟨cs',ps,g1,g3⟩
    have pick:∃(F:Nat->List Value) (G:Nat->List PV),∀ i,i<len->w.cells? 0 (a.add (i*P.cellsOf e)) (P.cellsOf e)=some (F i)/\GN P w (DU P 12 e) (F i) (G i):=by
     have:∀ i,∃ y:List Value×List PV,i<len->w.cells? 0 (a.add (i*P.cellsOf e)) (P.cellsOf e)=some y.1/\GN P w (DU P 12 e) y.1 y.2:=by
      intro i;by_cases hi:i<len
      ·obtain⟨c,p,g1,g2⟩:=each i hi;exact⟨(c,p),fun _=>⟨g1,g2⟩⟩
      ·exact⟨([],[]),fun h=>absurd h hi⟩
     obtain⟨f,hf⟩:=Classical.axiomOfChoice this;exact⟨fun i=>(f i).1,fun i=>(f i).2,hf⟩
    obtain⟨F,G,hFG⟩:=pick;have hcells:∀ i,i<len->(Yc P e (G i)).cells=G i:=fun i hi=>eR (hFG i hi).2.2.1 hlen one1
    have hget:∀(i:Nat) q,((List.range len).map fun i=>Yc P e (G i))[i]? = some q->i<len/\q=Yc P e (G i):=by
     intro i q hq;simp only[An,Af]at hq;obtain⟨j,hj,rfl⟩:=hq;have hjl:i<len:=by
      rcases Bv i len with h |h
      ·exact h
      ·rw[AG (by simpa using h)]at hj;cases hj
     rw[Be hjl]at hj;cases hj;exact⟨hjl,rfl⟩
    have hspot:0<len->a.spot=none:=by
     intro h0;obtain⟨g1,g2⟩:=hFG 0 h0;obtain⟨q1,q2⟩:=MZ g1;have hc0:(F 0)[0]? = some ((F 0)[0]'(by omega)):=Ae _;have hz:=q2 0 _ hc0;rw[CW,show(a.add 0).add 0=a from rfl]at hz;exact World.cell?_spot hz
    have hcell:∀(i x:Nat) v,i<len->(F i)[x]? = some v->w.cell? ⟨a.block,a.off+i*P.cellsOf e+x,none⟩=some v:=by
     intro i x v hi hv;have hs:=hspot (by omega);have:=(MZ (hFG i hi).1).2 x v hv;obtain⟨b,off,spot⟩:=a;simp only at hs;subst hs;have ha:((⟨b,off,none⟩:Addr).add (i*P.cellsOf e)).add x=⟨b,off+i*P.cellsOf e+x,none⟩:=by
      unfold Addr.add;split <;> split <;> simp_all
     rw[ha]at this;exact this
    refine scalar rfl hk (p:=.C9 false e ((List.range len).map fun i=>Yc P e (G i))) (by simp[KH]) ?_ (.C9 (by simp;omega) fun e' he' c hc=>?_)
    ·have hRV:RV P (Ctx.of w) (.C9 false e ((List.range len).map fun i=>Yc P e (G i))) (.slice (some a) ((List.range len).map fun i=>Yc P e (G i)).length cap):=by
      refine .C9 a.block a.off (fun i j=>(F i).getD j undef) (by simpa using hl) (fun h=>by cases h) (fun h0=>?_) (fun i q j p hq hj=>?_) (fun i q j p hq hj=>?_) (fun q hq=>?_)
      ·have h0':0<len:=by simpa using h0
       have hs:=hspot h0';refine⟨by obtain⟨b,off,spot⟩:=a;simp only at hs;subst hs;rfl,xo w _,?_⟩;obtain⟨g1,g2⟩:=hFG 0 h0';have hc0:(F 0)[0]? = some ((F 0)[0]'(by rw[(MZ g1).1];omega)):=Ae _;have:=hcell 0 0 _ h0' hc0;simp only[World.cell?]at this;split at this
       ·rename_i hb;exact(At.1 hb).1
       ·cases this
      ·obtain⟨hi,rfl⟩:=hget i q hq;rw[hcells i hi]at hj;have hjl:j<(F i).length:=by rw[<- (hFG i hi).2.1];exact(Ad.1 hj).1
       have hv:(F i)[j]? = some ((F i)[j]):=Ae hjl;show w.cell? _=_
       rw[hcell i j _ hi hv];simp[List.getD,hv]
      ·obtain⟨hi,rfl⟩:=hget i q hq;rw[hcells i hi]at hj;have hjl:j<(F i).length:=by rw[<- (hFG i hi).2.1];exact(Ad.1 hj).1
       have hv:(F i)[j]? = some ((F i)[j]):=Ae hjl;have:=(hFG i hi).2.2.2.1 j p _ hj hv;simpa [List.getD,hv] using this
      ·obtain⟨i,hiq⟩:=Bh hq;obtain⟨hi,rfl⟩:=hget i q hiq;simp only[wt,Aa,Ay];exact⟨by rw[hcells i hi];exact(hFG i hi).2.2.1,hlen⟩
     simpa using hRV
    ·obtain⟨i,hiq⟩:=Bh he';obtain⟨hi,rfl⟩:=hget i e' hiq;rw[hcells i hi]at hc;exact(hFG i hi).2.2.2.2 c hc
  ·rename_i fs hu;simp only[Aa,Ao]at h;obtain⟨xs,m,_,_,hl,hxs,hf⟩:=DataW.trod_struct hu hx;have:=VR (P:=P) (w:=w) (cs:=cs) (fs.toList.map fun f=>(f.offset,P.cellsOf f.type,DU P d f.type)) 0 (by rw[hl];exact h.2) fun y hy=>?_
   ·obtain⟨ps,hp⟩:=this;refine⟨ps,?_⟩;have hk:DU P (d+1) t=(fs.toList.map fun f=>(f.offset,P.cellsOf f.type,DU P d f.type)).flatMap fun x=>x.2.2:=by
     simp only[DU,hu,List.flatMap_map]
    rw[hk];simpa using hp
   ·simp only[AX]at hy;obtain⟨f,hfm,rfl⟩:=hy;obtain⟨i,hi⟩:=Bh hfm;have hfi:fs[i]? = some f:=by simpa using hi
    have h1:=hf i f hfi;have hil:i<xs.length:=by rw[hxs];exact(At.1 hfi).1
    rw[Ae hil]at h1;exact Ko n d f.type (h.1 f hfm) _ _ _ h1
  ·rename_i m e hu;simp only[Aa]at h;obtain⟨xs,mm,_,_,hl,hxs,hf⟩:=DataW.trod_array hu hx;have:=VR (P:=P) (w:=w) (cs:=cs) ((List.range m).map fun i=>(i*P.cellsOf e,P.cellsOf e,DU P d e)) 0 (by rw[hl];exact h.2) fun y hy=>?_
   ·obtain⟨ps,hp⟩:=this;refine⟨ps,?_⟩;have hk:DU P (d+1) t=((List.range m).map fun i=>(i*P.cellsOf e,P.cellsOf e,DU P d e)).flatMap fun x=>x.2.2:=by
     simp only[DU,hu,List.flatMap_map];rw[List.flatten_eq_flatMap];clear hp hf hxs hx;have:∀(l:List Nat) (k:List Kind),(List.replicate l.length k).flatMap id=l.flatMap fun _=>k:=by
      intro l k;induction l with
      |nil=>rfl
      |cons a l ih=>simp only[As,List.replicate_succ,C8,id,ih]
     have h2:=this (List.range m) (DU P d e);rwa [List.length_range]at h2
    rw[hk];simpa using hp
   ·simp only[AX,Bo]at hy;obtain⟨i,hi,rfl⟩:=hy;have h1:=hf i hi;rw[Ae (by rw[hxs];exact hi)]at h1;exact Ko n d e h.1 _ _ _ h1
  ·cases h
end
section
variable {H:Type} {enc:TypeId×Value->H} {P:Program} {w:World} {sp:Nat->Bool} {held:Bool} {base:Nat}
theorem ah{t:TypeId}{v:Value}{d:DataW H}{p:List MemPlace}(hval:Value.okWide P w .any base t v)(h:DataW.Trod enc P w 0 sp held t v d p)(hf:IL P 20 12 t=true):
  ∃ ps,D4 (kinds P t) ps=true/\(∀ p,p∈ps->Fit p)/\RV P (Ctx.of w) (Yc P t ps) v:=by
 have hd:=h;obtain⟨fuel,hx⟩:=h;obtain⟨ps,h1,h2,h3,h4⟩:=Ko 20 12 t hf _ _ _ hx;refine⟨ps,h2,h4,?_⟩;have scalar:v.cells.toList=[v]->Dh P t=false->RV P (Ctx.of w) (Yc P t ps) v:=by
  intro hc ha;rw[hc]at h1 h3
  match ps,h1 with
  | [q],_=>
   have:=h3 0 q v rfl rfl;simpa [Yc,ha] using this
 unfold IL at hf;split at hf
 ·rename_i k hu;obtain⟨n,rfl,_⟩:=open_int hu hval hd;exact scalar rfl (by simp[Dh,hu])
 ·rename_i hu;obtain⟨b,rfl,_⟩:=open_bool hu hval hd;exact scalar rfl (by simp[Dh,hu])
 ·rename_i hu;obtain⟨b,rfl⟩:=okWide_string hu hval;exact scalar rfl (by simp[Dh,hu])
 ·rename_i e hu;obtain⟨a,len,cap,rfl⟩:=okWide_slice hu hval;exact scalar rfl (by simp[Dh,hu])
 ·rename_i fs hu;obtain⟨cs,rfl,hl⟩:=okWide_struct hu hval;have ha:Dh P t=true:=by simp[Dh,hu]
  unfold Yc;rw[Ak ha];exact .agg (by simpa [Value.cells] using h1.symm) fun j c u g1 g2=>h3 j c u g1 (by simpa [Value.cells] using g2)
 ·rename_i m e hu;unfold Value.okWide at hval;rw[hu]at hval;obtain⟨cs,rfl,hl,_⟩:=hval;have ha:Dh P t=true:=by simp[Dh,hu]
  unfold Yc;rw[Ak ha];exact .agg (by simpa [Value.cells] using h1.symm) fun j c u g1 g2=>h3 j c u g1 (by simpa [Value.cells] using g2)
 ·cases hf
end
theorem I8.below{w w':World}(h:I8 w w'):Below w.heap.size w w':=⟨h.os,h.tape,h.output,h.size,h.block⟩
theorem eT{k:FuncId}{args:List PV}{Vs:Array Value}{w:World}(h:Dr P k args (.val (.bool true)))(hv:Cs P (Ctx.of w) args Vs)(hg:lk P (Ctx.of w):=by exact ld (by decide +kernel)):Calls P k Vs w fun e w'=>e=.returned (.bool true)/\Below w.heap.size w w':=by
 refine(h (Ctx.of w) (adi P w hg) Vs hv).mono ?_
 rintro e w' ⟨V,rfl,hs,hrv⟩
 cases hrv;exact⟨rfl,hs.below⟩
end Go.Hx

