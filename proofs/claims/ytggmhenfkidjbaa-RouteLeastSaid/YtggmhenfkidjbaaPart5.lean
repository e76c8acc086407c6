import Derived.Test.YtggmhenfkidjbaaPart4
import Derived.Maps.RangeRun
import Derived.Test.YtggmhenfkidjbaaPart3
import Derived.ProofKit
import Derived.OpenShut
import Derived.ShutString
import Derived.ChangeOld
import Derived.Below
namespace Go.Hx
theorem newL_sound {P:Program} {C:Ctx} (hR:RH P C) {row:Row} {info:Fe} {o:Obj} (h1:row.live=false) (h2:row.lp=some info)
  (hB:∀ C':Ctx,Ext C C'->C'.w.heap[C.w.heap.size]? = some o->Fj P C' C.w.heap.size info):
  Ext C ((C.more row).bind C.H.length o)/\RH P ((C.more row).bind C.H.length o)/\RV P ((C.more row).bind C.H.length o) (.mp C.H.length) (hdl info.k C.w.heap.size):=by
 have hx1:=EM hR row;have hR1:=GN hR row;have hn:(C.more row).ρ C.H.length=none:=hR.Gd (Ak _);have hx2:=Ctx.Ga (C:=C.more row) hn hR.ro o;have hrow:(C.H++[row])[C.H.length]? = some row:=by simp
 refine⟨hx1.trans hx2,⟨fun x y b hx hy => ?_,fun x b hx => ?_,fun x b r' g1 g2 => ?_,hR1.ro,fun x b hx => ?_,fun b hb=>Ax (hR1.JL b hb) hx2.size,fun x b r' info' g1 g2 g3 g4 => ?_,hR1.K5.mono hx2⟩,?_⟩
 ·simp only[Ctx.bind] at hx hy;split at hx <;> split at hy
  ·omega
  ·cases hx;have:=hR1.lt hy;exact absurd this (by simp[Ctx.more])
  ·cases hy;have:=hR1.lt hx;exact absurd this (by simp[Ctx.more])
  ·exact hR1.inj x y b hx hy
 ·simp only[Ctx.bind] at hx;split at hx
  ·rename_i e;subst e;exact .inr ⟨_,_,hrow,h2,h1⟩
  ·exact hR1.KJ x b hx
 ·simp only[Ctx.bind] at g1;split at g1
  ·rename_i e;subst e;have:(C.more row).row? C.H.length=none:=by unfold Ctx.row? rowAt;rw[show (C.more row).H[C.H.length]? = _ from hrow];simp[h1]
   rw[show (C.more row).row? C.H.length=some r' from g2] at this;cases this
  ·have hb:=hR1.Gv x b r' g1 g2;exact hb.mono hx2 (AT C.w _ hb.lt)
 ·simp only[Ctx.bind] at hx ⊢;split at hx
  ·cases hx;exact fun hf=>CY _ (hR.JL _ hf)
  ·exact hR1.Iu x b hx
 ·simp only[Ctx.bind] at g1;split at g1
  ·rename_i e;subst e;cases g1;have g2':(C.H++[row])[C.H.length]? = some r':=g2;rw[hrow] at g2';cases g2';rw[h2] at g3;cases g3;exact hB _ (hx1.trans hx2) (heap_alloc_new C.w _)
  ·have hL:=hR1.Hw x b r' info' g1 g2 g3 g4;exact hL.mono hx2 (AT C.w _ hL.lt)
 ·exact .mp (Ad.1 hrow).1 ⟨_,_,hrow,h2,h1,rfl⟩ (by simp[Ctx.bind];rfl)
theorem setL_sound {P:Program} {C:Ctx} (hR:RH P C) {i b:Nat} {r:Row} {info:Fe} {st:LSt} {o:Obj} {W:World} (g1:C.H[i]? = some r) (g2:r.lp=some info) (g3:r.live=false) (hρ:C.ρ i=some b) (hro:C.ro<=i) (hes:C.w.heap[b]? = some o) (ho:J1 o=true)
  (w1:W.os=C.w.os) (w2:W.tape=C.w.tape) (w3:W.output=C.w.output) (w4:W.heap.size=C.w.heap.size) (w5:∀ x,x ≠ b->W.heap[x]? = C.w.heap[x]?)
  (hm:∀ C':Ctx,Ext C C'->C'.w=W->Fj P C' b ⟨info.k,st⟩):Iv P C { C with H:=C.H.set i { r with lp:=some ⟨info.k,st⟩ },w:=W } (C.H.set i { r with lp:=some ⟨info.k,st⟩ }):=by
 have hi:i<C.H.length:=(Ad.1 g1).1;have hrowi:C.row? i=none:=by unfold Ctx.row? rowAt;rw[g1];simp[g3]
 have hrow:∀ x,rowAt (C.H.set i { r with lp:=some ⟨info.k,st⟩ }) x=C.row? x:=by
  intro x;unfold rowAt;rw[Au];by_cases hx:i=x
  ·subst hx;simp only[BO,hi,g3,A2,B5,hrowi]
  ·rw[An hx];rfl
 have hx:Ext C { C with H:=C.H.set i { r with lp:=some ⟨info.k,st⟩ },w:=W }:=by
  refine⟨w1,w2,w3,by rw[show ({ C with H:=C.H.set i { r with lp:=some ⟨info.k,st⟩ },w:=W }:Ctx).w=W from rfl,w4];exact Ak _,fun x hx ho'=>w5 x (fun e=>ho' ⟨i,hro,e ▸ hρ⟩),fun x c e fr hh => ?_,by simp,fun x r' _ hr=>⟨r',by rw[<- hr];exact (hrow x).symm,rfl,rfl,Ak _,fun _=>⟨rfl,fun _ h=>h⟩⟩,fun _ h=>.inl h,fun _ h=>.inl h,rfl,rfl,fun x hx=>⟨?_,rfl⟩,fun x q info' q1 q2 q3=>⟨?_,fun _ h=>h⟩,fun x rc hh => ?_⟩
  ·have hne:x ≠ b:=fun e=>by subst e;rw[hes] at hh;cases hh;cases ho
   exact⟨c,fr,by rw[<- hh];exact w5 x hne,rfl⟩
  ·show (C.H.set i _)[x]? = _
   rw[Au,An (by omega)]
  ·show ∃ r' st',(C.H.set i _)[x]? = some r'/\_
   by_cases hxi:i=x
   ·subst hxi;rw[g1] at q1;cases q1;rw[g2] at q2;cases q2;exact⟨{ r with lp:=some ⟨info.k,st⟩ },st,by rw[Au,Ai rfl,Ai hi],rfl,g3⟩
   ·exact⟨q,info'.st,by rw[Au,An hxi];exact q1,q2,q3⟩
  ·have hne:x ≠ b:=fun e=>by subst e;rw[hes] at hh;cases hh;cases ho
   exact⟨rc,by rw[<- hh];exact w5 x hne⟩
 refine⟨rfl,hx,hR.inj,fun x c hx' => ?_,fun x c q q1 q2 => ?_,by simpa using hR.ro,hR.Iu,fun x hx'=>by rw[show ({ C with H:=C.H.set i { r with lp:=some ⟨info.k,st⟩ },w:=W }:Ctx).w=W from rfl,w4];exact hR.JL x hx',fun x c q info' q1 q2 q3 q4 => ?_,hR.K5.mono hx⟩
 ·rcases hR.KJ x c hx' with ⟨q,hq⟩ | ⟨q,info',q1,q2,q3⟩
  ·exact .inl ⟨q,by rw[<- hq];exact hrow x⟩
  ·obtain⟨⟨q',st',z1,z2,z3⟩,_⟩:=hx.lp x q info' q1 q2 q3;exact .inr ⟨q',_,z1,z2,z3⟩
 ·have q2':C.row? x=some q:=by rw[<- q2];exact (hrow x).symm
  have hB:=hR.Gv x c q q1 q2';have hne:c ≠ b:=fun e=>by
   subst e;obtain⟨cc,fr,cv,hh,_⟩:=hB.mem;rw[hes] at hh;cases hh;cases ho
  exact hB.mono hx (w5 c hne)
 ·have hq2:(C.H.set i { r with lp:=some ⟨info.k,st⟩ })[x]? = some q:=q2;rw[Au] at hq2;by_cases hxi:i=x
  ·subst hxi;rw[Ai rfl,Ai hi] at hq2;cases hq2;cases q3;have hcb:c=b:=Ah ((show C.ρ i=some c from q1).symm.trans hρ);subst hcb;exact hm _ hx rfl
  ·rw[An hxi] at hq2;have hL:=hR.Hw x c q info' q1 hq2 q3 q4;have hne:c ≠ b:=fun e=>hxi (hR.inj i x b hρ (e ▸ q1))
   exact hL.mono hx (w5 c hne)
theorem rsl_one {P:Program} {C:Ctx} {p:PV} {v:Value} (h:RV P C p v):Fv P C [p] #[v]:=by
 refine⟨rfl,fun j q u h1 h2 => ?_⟩
 match j with
 | 0=>simp at h1 h2;subst h1;subst h2;exact h
 | j+1=>simp at h1
def itrK (p:PV):FQ:=⟨0,[p],#[],.skip,.skip⟩
def C9 (p:PV) (s:ItS):Row:={ es:=[],s:=0,t:=0,bv:=true,live:=false,lp:=some ⟨itrK p,.iter s⟩ }
def L9 (H:List Row) (i:Nat):Option (FQ × TypeId × TypeId × List (PV × PV)):=
 match H[i]? with
 | some r=>match r.live,r.lp with | false,some ⟨k,.F6 K E D⟩=>(match k.S0 with | []=>some (k,K,E,D) | _=>none) | _,_=>none
 | none=>none
theorem mapPAt_some {H:List Row} {i:Nat} {k:FQ} {K E:TypeId} {D:List (PV × PV)} (h:L9 H i=some (k,K,E,D)):k.S0=[]/\∃ r,H[i]? = some r/\r.live=false/\r.lp=some ⟨k,.F6 K E D⟩:=by
 unfold L9 at h;split at h
 ·rename_i r hr;split at h
  ·rename_i hl hp;split at h
   ·rename_i hk;cases h;exact⟨hk,r,hr,hl,hp⟩
   ·cases h
  ·cases h
 ·cases h
theorem MY {P:Program} {C:Ctx} (hR:RH P C) {i:Nat} {V:Value} (hv:RV P C (.mp i) V) {k:FQ} {K E:TypeId} {D:List (PV × PV)} (h:L9 C.H i=some (k,K,E,D)):
  ∃ b,V=.map (some b)/\C.ρ i=some b/\∃ D',D'.Perm D/\MapB P C b K E D'/\D.Pairwise fun x y=>x.1.cells ≠ y.1.cells:=by
 obtain⟨h0,r,h1,h2,h3⟩:=mapPAt_some h;cases hv with
 | mp hi hl hb =>
  obtain⟨r',info,g1,g2,g3,rfl⟩:=hl;rw[h1] at g1;cases g1;rw[h3] at g2;cases g2;exact⟨_,by unfold hdl;rw[h0],hb,(hR.Hw i _ r _ hb h1 h3 h2).mpp K E D rfl⟩
def mapLen (H:List Row) (i:Nat):Option Nat:=
 match HT H i with
 | some r=>some r.2.2.2.length
 | none=>match L9 H i with | some r=>some r.2.2.2.length | none=>none
theorem mapLen_blk {P:Program} {C:Ctx} (hR:RH P C) {i n:Nat} {V:Value} (hv:RV P C (.mp i) V) (h:mapLen C.H i=some n):∃ b es,V=.map (some b)/\C.ρ i=some b/\C.w.heap[b]? = some (.map es n)/\es.size=n:=by
 unfold mapLen at h;split at h
 ·rename_i q hq;obtain⟨k,K,E,D⟩:=q;cases h;obtain⟨b,rfl,hb,hB⟩:=MW hR hv hq;obtain⟨es,c,h1,h2,h3,_⟩:=hB.mem;subst h3;exact⟨b,es,rfl,hb,h1,h2⟩
 ·split at h
  ·rename_i q hq;obtain⟨k,K,E,D⟩:=q;cases h;obtain⟨b,rfl,hb,D',hp,hB,_⟩:=MY hR hv hq;obtain⟨es,c,h1,h2,h3,_⟩:=hB.mem;subst h3;exact⟨b,es,rfl,hb,by rw[<- hp.length_eq];exact h1,by rw[<- hp.length_eq];exact h2⟩
  ·cases h
def rngQ (P:Program) (H:List Row) (f:Operand->PV):Op->Option (PV × List Row)
 | .range T x =>
  match P.underlying T,f x with
  | some (.map _ _),.mp m=>match mapLen H m with | some n=>some (.mp H.length,H++[C9 (.mp m) (.fresh n)]) | none=>none
  | some (.map _ _),.val (.map none)=>some (.mp H.length,H++[C9 .any .nil])
  | _,_=>none
 | _=>none
theorem rngQ_rows {P:Program} {H:List Row} {f:Operand->PV} {op:Op} {p:PV} {H':List Row} (h:rngQ P H f op=some (p,H')) (x:Nat):rowAt H' x=rowAt H x:=by
 have key:∀ r:Row,r.live=false->rowAt (H++[r]) x=rowAt H x:=fun r hr=>by
  by_cases hx:x<H.length
  ·exact DE hx
  ·unfold rowAt;rw[Bj (by omega),AD (by omega:H.length<=x)];cases hm:x-H.length with
   | zero=>simp[hr]
   | succ n=>simp
 unfold rngQ at h;split at h
 ·split at h
  ·split at h
   ·cases h;exact key _ rfl
   ·cases h
  ·cases h;exact key _ rfl
  ·cases h
 ·cases h
theorem rngQ_sound {P:Program} {ro:Nat} {H:List Row} {f:Operand->PV} {op:Op} {p:PV} {H':List Row} (h:rngQ P H f op=some (p,H')):OprS P ro H f op p H':=by
 intro C g o ho hro hH hR hv;subst hro;subst hH;unfold rngQ at h;split at h
 ·rename_i T x;split at h
  ·rename_i K E m hu hx;split at h
   ·rename_i n hn;cases h;have hxv:=hv x (by simp[Op.operands]);rw[hx] at hxv;obtain⟨b,es,hX,hb,hes,hsz⟩:=mapLen_blk hR hxv hn;obtain⟨h1,h2,h3⟩:=newL_sound hR (row:=C9 (.mp m) (.fresh n)) (info:=⟨itrK (.mp m),.iter (.fresh n)⟩) (o:=.mapIter (some b) n #[] n) rfl rfl fun C' hx' hh =>
     ⟨fun hf=>(by cases hf),fun _ _ _ he=>(by cases he),fun _ _ _ he=>(by cases he),fun s he=>by
      cases he;exact⟨b,rsl_one (by rw[hX] at hxv;exact hxv.mono hx'),hh⟩⟩
    refine⟨_,.pointer (some ⟨C.w.heap.size,0,none⟩),_,?_,.inl rfl,⟨rfl,h1,h2⟩,h3⟩;unfold execOp;simp only[ho,Sem.run_bind,hX,run_range_map C.w T K E b es n hu hes,Result.andThen_ok];rfl
   ·cases h
  ·rename_i K E hu hx;cases h;have hxv:=hv x (by simp[Op.operands]);rw[hx] at hxv;generalize hX:g x=X at hxv;cases hxv;obtain⟨h1,h2,h3⟩:=newL_sound hR (row:=C9 .any .nil) (info:=⟨itrK .any,.iter .nil⟩) (o:=.mapIter none 0 #[] 0) rfl rfl fun C' hx' hh =>
    ⟨fun hf=>(by cases hf),fun _ _ _ he=>(by cases he),fun _ _ _ he=>(by cases he),fun s he=>by cases he;exact hh⟩
   refine⟨_,.pointer (some ⟨C.w.heap.size,0,none⟩),_,?_,.inl rfl,⟨rfl,h1,h2⟩,h3⟩;unfold execOp;simp only[ho,Sem.run_bind,hX,run_range_nilMap C.w T K E hu,Result.andThen_ok];rfl
  ·cases h
 ·cases h
def CO.addRng (E:CO) (P:Program):CO:={ E with EP:=fun ro H f op=>match rngQ P H f op with | some r=>some (.leaf r) | none=>E.EP ro H f op }
theorem Ck.addRng {P:Program} {E:CO} (hE:Ck P E.env):Ck P (E.addRng P).env where
 G2:=hE.G2
 Gq:=hE.Gq
 Ff:=hE.Ff
 lo:=fun f fn b h1 h2=>FV.mono (E:=E.env) (E':=(E.addRng P).env) (fun _ _ _ _ _ _ _ h=>h) (hE.lo f fn b h1 h2)
 Ec:=hE.Ec
 F9:=hE.F9
 Ev:=fun ro H f T x k p H' h=>hE.Ev ro H f T x k p H' h
 EP:=fun ro H f op p H' h=>by
  change (match rngQ P H f op with | some r=>some (DT.leaf r) | none=>E.EP ro H f op).bind DT.run=some (p,H') at h
  split at h
  ·rename_i r hr;have:r=(p,H'):=by simpa [DT.run] using h
   subst this;exact⟨rngQ_sound hr,rngQ_rows hr⟩
  ·exact hE.EP ro H f op p H' h
theorem pw_uniq:∀ {D:List (PV × PV)},(D.Pairwise fun x y=>x.1.cells ≠ y.1.cells)->∀ {x y:PV × PV},x ∈ D->y ∈ D->x.1.cells=y.1.cells->x=y
 | [],_,_,_,hx,_,_=>by cases hx
 | a::D,h,x,y,hx,hy,e=>by
  obtain⟨h1,h2⟩:=List.pairwise_cons.1 h;rcases AK.1 hx with e1 | hx'
  ·rcases AK.1 hy with e2 | hy'
   ·rw[e1,e2]
   ·subst e1;exact absurd e (h1 y hy')
  ·rcases AK.1 hy with e2 | hy'
   ·subst e2;exact absurd e.symm (h1 x hx')
   ·exact pw_uniq h2 hx' hy' e
theorem mget_perm {P:Program} {K:TypeId} {D D':List (PV × PV)} (hp:D'.Perm D) (hd:D.Pairwise fun x y=>x.1.cells ≠ y.1.cells) (hk:∀ x ∈ D',Fs P K x.1=true) {k:PV} (hkk:Fs P K k=true) (z:PV):
  EG z D' k=EG z D k/\DA D' k=DA D k:=by
 have hkD:∀ x ∈ D,Fs P K x.1=true:=fun x hx=>hk x (hp.mem_iff.2 hx)
 rw[Gk,Gk];cases h1:GB D' k with
 | none =>
  cases h2:GB D k with
  | none=>rw[(F1 h1).1,(F1 h2).1];exact⟨rfl,rfl⟩
  | some j =>
   obtain⟨a,v,g1,g2,_,_⟩:=F0 h2;obtain⟨j',hj'⟩:=Bb (hp.mem_iff.2 (Ag g1));exact absurd h1 (fun h=>by
    have:DA D' k=true:=by
     have:∀ (D:List (PV × PV)),(a,v) ∈ D->DA D k=true:=fun D=>by
      induction D with
      | nil=>intro h;cases h
      | cons x D ih =>
       intro h;unfold DA;rcases AK.1 h with rfl | h
       ·rw[g2];rfl
       ·rw[ih h,Bool.or_true]
     exact this D' (Ag hj')
    rw[Gk,h] at this;cases this)
 | some j =>
  obtain⟨a,v,g1,g2,g3,_⟩:=F0 h1;have hav:(a,v) ∈ D:=hp.mem_iff.1 (Ag g1);cases h2:GB D k with
  | none =>
   have:∀ (D:List (PV × PV)),(a,v) ∈ D->DA D k=true:=fun D=>by
    induction D with
    | nil=>intro h;cases h
    | cons x D ih =>
     intro h;unfold DA;rcases AK.1 h with rfl | h
     ·rw[g2];rfl
     ·rw[ih h,Bool.or_true]
   have:=this D hav;rw[Gk,h2] at this;cases this
  | some j2 =>
   obtain⟨a2,v2,q1,q2,q3,_⟩:=F0 h2;have hav2:=Ag q1;have e1:=keq_eq hkk (hkD _ hav) g2;have e2:=keq_eq hkk (hkD _ hav2) q2;have:=pw_uniq hd hav hav2 (e1.symm.trans e2);cases this;rw[g3,q3];exact⟨rfl,rfl⟩
def lookPQ (P:Program) (ks:List TypeId) (H:List Row) (f:Operand->PV):Op->Option (PV × List Row)
 | .lookup T x k ok =>
  match P.underlying T,f x with
  | some (.map K E),.mp i =>
   match L9 H i,EL P E with
   | some (_,K',E',D),some z =>
    if ks.contains K&&(K==K')&&(E==E')&&Fs P K (f k)&&mvV P E (.val z) then
     some (if ok then .D8 [Js P E (EG (.val z) D (f k)),.val (.bool (DA D (f k)))] else Js P E (EG (.val z) D (f k)),H) else none
   | _,_=>none
  | _,_=>none
 | .call c =>
  match c.callee,c.args.toList,c.argTypes[0]? with
  | .builtin .len,[x],some T =>
   match P.underlying T,f x with
   | some (.map _ _),.mp i=>(L9 H i).map fun r=>(.val (.int .i64 (r.2.2.2.length:Int)),H)
   | _,_=>none
  | _,_,_=>none
 | _=>none
theorem lookPQ_rows {P:Program} {ks:List TypeId} {H:List Row} {f:Operand->PV} {op:Op} {p:PV} {H':List Row} (h:lookPQ P ks H f op=some (p,H')):H'=H:=by
 unfold lookPQ at h;split at h
 ·split at h
  ·split at h
   ·split at h
    ·cases h;rfl
    ·cases h
   ·cases h
  ·cases h
 ·split at h
  ·split at h
   ·obtain⟨q,_,he⟩:=Af.1 h;cases he;rfl
   ·cases h
  ·cases h
 ·cases h
theorem lookPQ_sound {P:Program} {ks:List TypeId} (hks:∀ K,K ∈ ks->Gt P K) {ro:Nat} {H:List Row} {f:Operand->PV} {op:Op} {p:PV} {H':List Row} (h:lookPQ P ks H f op=some (p,H')):OprS P ro H f op p H':=by
 intro C g o ho hro hH hR hv;obtain rfl:=lookPQ_rows h;subst hro;subst hH;unfold lookPQ at h;split at h
 ·rename_i T x k ok;split at h
  ·rename_i K E i hu hfx;split at h
   ·rename_i kk K' E' D z hm hz;split at h
    ·rename_i hc;simp only[Aa,Aw,BA,Ab] at hc;obtain⟨⟨⟨⟨hc1,rfl⟩,rfl⟩,hmk⟩,hmz⟩:=hc;have hKO:=hks _ hc1;have hx:=hv x (by simp[Op.operands]);have hk:=hv k (by simp[Op.operands]);rw[hfx] at hx;obtain⟨b,hX,hρ,D',hp,hB,hd⟩:=MY hR hx hm;obtain⟨es,c,hes,_⟩:=hB.mem;obtain⟨h1,h2,h3⟩:=F2 hB hes;have hf:=find_map hKO hB hmk hk hes C.w;have hch:=hKO.check C (f k) (g k) hmk hk es.isEmpty C.w;obtain⟨pg,ph⟩:=mget_perm hp hd hB.keys hmk (.val z);have key:∃ v,(Instr.lookup T (.map (some b)) (g k) ok).run P C.w=.ok (if ok then .tuple #[v,.bool (DA D' (f k))] else v) C.w/\RV P C (EG (.val z) D' (f k)) v:=by
      cases hi:GB D' (f k) with
      | none =>
       refine⟨z,?_,by rw[(F1 hi).1];exact .val⟩;rw[hi] at hf;unfold Instr.lookup;simp only[Sem.run_bind,run_underlying hu,Result.andThen_ok,MapKept.run_getObj_map hes,Sem.run_pure,hch,hf,Option.bind_none,E8 hz,Gk,hi,Option.isSome_none]
      | some j =>
       obtain⟨a,v,g1,_,g3,_⟩:=F0 hi;have hj:j<es.size:=by rw[h1];exact (Ad.1 g1).1
       have he:es[j]? = some es[j]:=AB hj;refine⟨es[j].val,?_,by rw[g3];exact (h3 j a v _ g1 he).2.2⟩;rw[hi] at hf;unfold Instr.lookup;simp only[Sem.run_bind,run_underlying hu,Result.andThen_ok,MapKept.run_getObj_map hes,Sem.run_pure,hch,hf,Bh,he,AH,Gk,hi,CF]
     obtain⟨v,k1,k2⟩:=key;have hE:=RV.Js (mget_ok (fun x hx=>hB.vals x hx) hmz (f k)) k2;rw[pg] at hE;rw[ph] at k1;cases h;refine⟨_,if ok then .tuple #[v,.bool (DA D (f k))] else v,C,?_,.inl rfl,⟨rfl,.refl C,hR⟩,?_⟩
     ·unfold execOp;simp only[ho,Sem.run_bind,hX,k1,Result.andThen_ok];rfl
     ·cases ok
      ·exact hE
      ·refine .D8 rfl fun j c u g1 g2 => ?_
       match j with
       | 0=>simp at g1 g2;subst g1;subst g2;exact hE
       | 1=>simp at g1 g2;subst g1;subst g2;exact .val
       | j+2=>simp at g1
    ·cases h
   ·cases h
  ·cases h
 ·rename_i c;split at h
  ·rename_i x T hc ha hT;split at h
   ·rename_i K E i hu hfx;obtain⟨⟨kk,K',E',D⟩,hm,he⟩:=Af.1 h;cases he;have hca:c.args = #[x]:=by apply Bs;simpa using ha
    have hx:=hv x (by simp[Op.operands,Call.operands,hc,hca]);rw[hfx] at hx;obtain⟨b,hX,hρ,D',hp,hB,_⟩:=MY hR hx hm;obtain⟨es,c0,hes,_⟩:=hB.mem;obtain⟨h1,h2,h3⟩:=F2 hB hes;refine⟨_,.int .i64 (D.length:Int),C,?_,.inl rfl,⟨rfl,.refl C,hR⟩,.val⟩;have hlen:(Builtin.len_ c.argTypes o.type #[g x]).run P C.w=.ok (.int .i64 (D.length:Int)) C.w:=by
     rw[hX];simp only[Builtin.len_,hT,Bt,AV,Sem.run_bind,run_underlying hu,Result.andThen_ok,MapKept.run_getObj_map hes,Sem.run_pure,h1,hp.length_eq];rfl
    simp only[execOp,ho,resolve,hc,hca,Sem.run_bind,Sem.run_pure,Result.andThen_ok,invoke,builtin,BC,AZ,Bu,hlen]
   ·cases h
  ·cases h
 ·cases h
def CO.addLkP (E:CO) (P:Program) (ks:List TypeId):CO:={ E with EP:=fun ro H f op=>match lookPQ P ks H f op with | some r=>some (.leaf r) | none=>E.EP ro H f op }
theorem Ck.addLkP {P:Program} {E:CO} (hE:Ck P E.env) {ks:List TypeId} (hks:∀ K,K ∈ ks->Gt P K):Ck P (E.addLkP P ks).env where
 G2:=hE.G2
 Gq:=hE.Gq
 Ff:=hE.Ff
 lo:=fun f fn b h1 h2=>FV.mono (E:=E.env) (E':=(E.addLkP P ks).env) (fun _ _ _ _ _ _ _ h=>h) (hE.lo f fn b h1 h2)
 Ec:=hE.Ec
 F9:=hE.F9
 Ev:=fun ro H f T x k p H' h=>hE.Ev ro H f T x k p H' h
 EP:=fun ro H f op p H' h=>by
  change (match lookPQ P ks H f op with | some r=>some (DT.leaf r) | none=>E.EP ro H f op).bind DT.run=some (p,H') at h
  split at h
  ·rename_i r hr;have:r=(p,H'):=by simpa [DT.run] using h
   subst this;exact⟨lookPQ_sound hks hr,fun x=>by rw[lookPQ_rows hr]⟩
  ·exact hE.EP ro H f op p H' h
end Go.Hx
namespace Go.Hx
open Go.ChangeMaps (setBlock)
structure ML where
 i1:Nat
 o1:Oper
 o2:Oper
 ops1:Array Oper
 q:Tmp
 out:Nat
 nx:Nat
 i2:Nat
 ops:Array Oper
 oe:Oper
 tl:List Oper
 rest:Code
 it:Tmp
 d1:Tmp
 de:Tmp
def FJ:Code->Option ML
 | .seq (.region i1 ops1 false) (.seq (.cond (.tmp q) .skip (.exit out)) (.block nx (.seq (.region i2 ops false) rest))) =>
  match ops1.toList,ops.toList with
  | [o1,o2],oe::tl =>
   match o1.op,o1.dst,o2.op,o2.dst,oe.op,oe.dst with
   | .next (.tmp it) false,some d1,.extract (.tmp d2) 0,some q2,.entry (.tmp it2),some de =>
    if o1.guard.isNone&&o2.guard.isNone&&oe.guard.isNone&&d1==d2&&q==q2&&it==it2&&it != d1&&it != q&&d1 != q then
     some ⟨i1,o1,o2,ops1,q,out,nx,i2,ops,oe,tl,rest,it,d1,de⟩ else none
   | _,_,_,_,_,_=>none
  | _,_=>none
 | _=>none
structure MLS (b:Code) (m:ML):Prop where
 b:b=.seq (.region m.i1 m.ops1 false) (.seq (.cond (.tmp m.q) .skip (.exit m.out)) (.block m.nx (.seq (.region m.i2 m.ops false) m.rest)))
 o1:m.ops1.toList=[m.o1,m.o2]
 oe:m.ops.toList=m.oe::m.tl
 p1:m.o1.op=.next (.tmp m.it) false
 d1:m.o1.dst=some m.d1
 p2:m.o2.op=.extract (.tmp m.d1) 0
 d2:m.o2.dst=some m.q
 pe:m.oe.op=.entry (.tmp m.it)
 de:m.oe.dst=some m.de
 g1:m.o1.guard=none
 g2:m.o2.guard=none
 ge:m.oe.guard=none
 n1:m.it ≠ m.d1
 n2:m.it ≠ m.q
 n3:m.d1 ≠ m.q
theorem mapLoop_some {b:Code} {m:ML} (h:FJ b=some m):MLS b m:=by
 unfold FJ at h;split at h
 ·split at h
  ·rename_i e1 e2;split at h
   ·rename_i p1 d1 p2 d2 pe de;split at h
    ·rename_i hc;simp only[Aa,Aw,bne_iff_ne,ne_eq,A7] at hc;obtain⟨⟨⟨⟨⟨⟨⟨⟨c1,c2⟩,c3⟩,rfl⟩,rfl⟩,rfl⟩,c7⟩,c8⟩,c9⟩:=hc;cases h;exact⟨rfl,e1,e2,p1,d1,p2,d2,pe,de,c1,c2,c3,c7,c8,c9⟩
    ·cases h
   ·cases h
  ·cases h
 ·cases h
noncomputable def rndM (P:Program) (E:CO) (n:Nat) (f:FuncId) (m:ML) (l:List Tmp) (S:List PV) (H:List Row) (k v:PV):Option (List PV × List Row):=
 opsK (stepK P E (EU P E n) 0) m.ops m.tl (((S.set m.d1 .any).set m.q (.val (.bool true))).set m.de (.D8 [k,v])) H fun S1 H1 =>
  EU P E n 0 f m.rest S1 H1 fun x S2 H2 =>
   Ds (decide (H.length<=H2.length)&&Dj H.length (H2.take H.length))
    (match x with
    | .normal=>Lv H2 H.length (ES (some l) S2) fun S3=>some (HP H.length S3,H2.take H.length)
    | .exit j=>match Nat.beq j m.nx with | true=>Lv H2 H.length (ES (some l) S2) fun S3=>some (HP H.length S3,H2.take H.length) | false=>none
    | .ret=>none)
theorem rndM_sound {P:Program} {E:CO} (hE:Ck P E.env) {n:Nat} {f:FuncId} {m:ML} {l:List Tmp} {S S':List PV} {H H':List Row} {k v:PV} (hb:D9 P f m.rest) (h:rndM P E n f m l S H k v=some (S',H')) {r:Option Nat} {C:Ctx} {a:Act}
  (hH:C.H=H) (hro:C.ro=0) (hR:RH P C) (hs:Fv P C (((S.set m.d1 .any).set m.q (.val (.bool true))).set m.de (.D8 [k,v])) a.tmps) (hro2:Fg r C.w) {Q:Exit->Act->World->Prop}
  (hQ:∀ (a':Act) (C':Ctx),K7 C.w a C'.w a'->C'.H=H'->Ext C C'->RH P C'->Fv P C' S' a'.tmps->Q .normal a' C'.w):
  wpListIn (Fr r) 0 P m.ops (Exit.then (m.rest.wpIn (Fr r) 0 P (Exit.inBlock m.nx Q)) (Exit.inBlock m.nx Q)) m.tl a C.w:=by
 obtain⟨S1,H1,h1,h2⟩:=IW (st:=Ls P E.env (exec P E.env n) 0) (fun S H o k r h=>LV (Fa n) h) h;obtain⟨x,S2,H2,h3,h4⟩:=Fa n _ _ _ _ _ _ _ h2;obtain⟨h5,h6⟩:=CP h4;simp only[Aa,Ab] at h5;subst hH;refine Jl hE (Ho hE n) h1 hro hR hs _ fun a1 C1 hd1 hH1 hx1 hR1 hs1 => ?_
 subst hH1;have hw:=Ho hE n _ _ _ _ _ _ _ _ h3 hb;show m.rest.wpIn (Fr r) 0 P (Exit.inBlock m.nx Q) a1 C1.w
 have fin:∀ (a':Act) (C':Ctx),K7 C1.w a1 C'.w a'->C'.H=H2->Ext C1 C'->RH P C'->Fv P C' S2 a'.tmps->S'=HP C.H.length (GR H2 C.H.length (ES (some l) S2))->H'=H2.take C.H.length->Q .normal a' C'.w:=by
  rintro a' C' hd hH' hx hR' hs' rfl rfl
  subst hH';have hx2:=hx1.trans hx;have hd2:K7 C.w a C'.w a':=(K7.of_eq hd1).trans hx1.size hR1 hx hd;exact hQ a' (C'.cut C.H.length False C'.ro) hd2 rfl (hx2.cut (Ak _) h5.1 hR.ro) (hR'.cut h5.1 (by rw[hx2.ro];exact hR.ro) h5.2) (trimF_sound hR' h5.1 (Ei (some l) hs'))
 refine hw r C1 a1 rfl (by rw[hx1.ro];exact hro) hR1 hs1 (hro2.mono hx1) _ fun a' C' hd hH' hx hR' hs' => ?_
 cases x with
 | normal=>cases EW h6;exact fin a' C' hd hH' hx hR' hs' rfl rfl
 | ret=>cases h6
 | exit j =>
  dsimp only at h6;split at h6
  ·rename_i hj;cases EW h6;show (if j=m.nx then Q .normal a' C'.w else Q (.exit j) a' C'.w)
   rw[Ai (Bm hj)];exact fin a' C' hd hH' hx hR' hs' rfl rfl
  ·cases h6
theorem left_mem {es:Array MapEntry} {seen:Array Nat} {e:MapEntry} (h:e ∈ (leftOf es seen).toList):∃ j:Nat,es[j]? = some e/\seen.contains e.born=false:=by
 obtain⟨h1,h2⟩:=Go.mem_left h;obtain⟨j,hj⟩:=Bb h1;exact⟨j,by rw[AI] at hj;exact hj,h2⟩
structure MLoop (P:Program) (E:CO) (n:Nat) (f:FuncId) (m:ML) (l:List Tmp) (i mi N:Nat) (Ok:Nat->PV × PV->Prop) (st:List (Nat × (PV × PV))->List PV × List Row):Prop where
 ne:mi ≠ i
 hd:∀ vis,m.d1<(st vis).1.length/\m.q<(st vis).1.length
 hS:∀ vis,(st vis).1[m.it]? = some (.mp i)
 hi:∀ vis,(st vis).2[i]? = some (C9 (.mp mi) .some)
 hm:∀ vis,∃ r info,(st vis).2[mi]? = some r/\r.lp=some info/\r.live=false
 G2:∀ vis (C:Ctx) (bm:Nat) (s:ItS),C.H=(st vis).2.set i (C9 (.mp mi) s)->RH P C->C.ρ mi=some bm->∃ es,C.w.heap[bm]? = some (.map es N)/\es.size=N/\∀ (j:Nat) e,es[j]? = some e->e.born=j/\∃ kv,Ok j kv/\RV P C kv.1 e.key/\RV P C kv.2 e.val
 step:∀ vis j kv bm s seen c,(∀ x ∈ vis,Ok x.1 x.2)->Ok j kv->(vis.map (·.1)).Nodup->j ∉ vis.map (·.1)->(∀ x ∈ vis,x.1<N)->j<N ->
  rndM P E n f m l (st vis).1 ((st vis).2.set i (C9 (.mp mi) (.at bm s seen c))) kv.1 kv.2=some ((st (vis++[(j,kv)])).1,(st (vis++[(j,kv)])).2.set i (C9 (.mp mi) (.at bm s seen c)))
theorem set_set_row {H:List Row} {i:Nat} {a b:Row}:(H.set i a).set i b=H.set i b:=List.set_set ..
theorem MZ {H:List Row} {i:Nat} {r a:Row} (h:H[i]? = some r):(H.set i a)[i]? = some a:=by
 rw[Au,Ai rfl,Ai (Ad.1 h).1]
theorem iter_turn {P:Program} {C:Ctx} (hR:RH P C) {H:List Row} {i br:Nat} {p:PV} {s s':ItS} {r0:Row} (hr0:H[i]? = some r0) (hH:C.H=H.set i (C9 p s)) (hρ:C.ρ i=some br) (hro:C.ro=0) {W:World}
  (w1:W.os=C.w.os) (w2:W.tape=C.w.tape) (w3:W.output=C.w.output) (w4:W.heap.size=C.w.heap.size) (w5:∀ x,x ≠ br->W.heap[x]? = C.w.heap[x]?)
  (hI:∀ C':Ctx,C'.w=W->IterB P C' br ⟨itrK p,.iter s'⟩ s'):Iv P C { C with H:=H.set i (C9 p s'),w:=W } (H.set i (C9 p s')):=by
 have g1:C.H[i]? = some (C9 p s):=by rw[hH];exact MZ hr0
 obtain⟨o,ho,hes⟩:=((hR.Hw i br _ ⟨itrK p,.iter s⟩ hρ g1 rfl rfl).itr s rfl).obj;have:=setL_sound (st:=.iter s') hR g1 (info:=⟨itrK p,.iter s⟩) rfl rfl hρ (by rw[hro];exact A4 _) hes ho w1 w2 w3 w4 w5 fun C' _ hw =>
  ⟨fun hf=>(by cases hf),fun _ _ _ he=>(by cases he),fun _ _ _ he=>(by cases he),fun t he=>by cases he;exact hI C' hw⟩
 have e:C.H.set i { C9 p s with lp:=some ⟨itrK p,.iter s'⟩ }=H.set i (C9 p s'):=by rw[hH,set_set_row];rfl
 rw[show (⟨itrK p,.iter s⟩:Fe).k=itrK p from rfl,e] at this;exact this
theorem born_range {es:Array MapEntry} (h:∀ (j:Nat) e,es[j]? = some e->e.born=j):es.toList.map (·.born)=List.range es.size:=by
 refine Bc fun j => ?_
 rw[Ao,AI];by_cases hj:j<es.size
 ·rw[AB hj,Ba hj,AH,h j _ (AB hj)]
 ·rw[Array.getElem?_eq_none (by omega),AD (by simp;omega)];rfl
theorem eval_put {a:Act} {d:Tmp} {v:Value} (h:d<a.tmps.size):(a.put (some d) v).eval (.tmp d)=v:=by
 simp[Act.put,Act.eval,Array.getD,h]
theorem eval_put_ne {a:Act} {d t:Tmp} {v:Value} (h:t ≠ d):(a.put (some d) v).eval (.tmp t)=a.eval (.tmp t):=by
 simp only[Act.put,Act.eval];rw[Bg,Bg,AO,An (fun e=>h e.symm)]
theorem Lz (a:Act) (d:Option Tmp) (v:Value):(a.put d v).tmps.size=a.tmps.size:=by cases d <;> simp[Act.put]
theorem put_defers (a:Act) (d:Option Tmp) (v:Value):(a.put d v).defers=a.defers:=by cases d <;> rfl
theorem M0 {P:Program} {w:World} {vs:Array Value} {v:Value} {n:Nat} (h:vs[n]? = some v):(Instr.extract (.tuple vs) n).run P w=.ok v w:=by
 unfold Instr.extract;simp only[h];rfl
section
variable {P:Program} {E:CO} {n:Nat} {f:FuncId} {b:Code} {m:ML} {l:List Tmp} {i mi N:Nat} {Ok:Nat->PV × PV->Prop} {st:List (Nat × (PV × PV))->List PV × List Row}
theorem roundM (hE:Ck P E.env) (hml:MLS b m) (hb:D9 P f m.rest) (L:MLoop P E n f m l i mi N Ok st) {r:Option Nat} {Q:Exit->Act->World->Prop} {K:Act->World->Prop} {br bm:Nat}
  {vis:List (Nat × (PV × PV))} {seen:Array Nat} {C:Ctx} {a:Act} (hok:∀ x ∈ vis,Ok x.1 x.2) (hlt:∀ x ∈ vis,x.1<N) (hnd:(vis.map (·.1)).Nodup) (hseen:seen.toList=vis.map (·.1))
  (hH:C.H=(st vis).2.set i (C9 (.mp mi) (.at bm N seen N))) (hro:C.ro=0) (hR:RH P C) (hs:Fv P C (st vis).1 a.tmps) (hro2:Fg r C.w) (hρi:C.ρ i=some br) (hρm:C.ρ mi=some bm)
  (hover:∀ (a':Act) (C':Ctx),(vis.map (·.1)).Perm (List.range N)->K7 C.w a C'.w a'->C'.H=(st vis).2.set i (C9 (.mp mi) .some)->Ext C C'->RH P C'->Fv P C' (((st vis).1.set m.d1 .any).set m.q .any) a'.tmps->Q (.exit m.out) a' C'.w)
  (hgo:∀ j kv (a':Act) (C':Ctx),Ok j kv->j ∉ vis.map (·.1)->j<N->K7 C.w a C'.w a'->C'.H=(st (vis++[(j,kv)])).2.set i (C9 (.mp mi) (.at bm N (seen.push j) N))->Ext C C'->RH P C'->Fv P C' (st (vis++[(j,kv)])).1 a'.tmps->K a' C'.w):
  b.wpIn (Fr r) 0 P (Exit.then K Q) a C.w:=by
 obtain⟨es,hes,hsz,hent⟩:=L.G2 vis C bm _ hH hR hρm;have hri:C.H[i]? = some (C9 (.mp mi) (.at bm N seen N)):=by rw[hH];exact MZ (L.hi vis)
 have hr:C.w.heap[br]? = some (.mapIter (some bm) N seen N):=(hR.Hw i br _ ⟨itrK (.mp mi),.iter (.at bm N seen N)⟩ hρi hri rfl rfl).itr _ rfl;have hbr:bm ≠ br:=fun e=>by rw[e,hr] at hes;cases hes
 have hbo:=born_range fun j e h=>(hent j e h).1
 have hold:∀ x ∈ es.toList,x.born<N:=fun x hx=>by
  have:x.born ∈ es.toList.map (·.born):=Bp hx;rw[hbo,hsz] at this;exact Bk.1 this
 have hev:a.eval (.tmp m.it)=.pointer (some ⟨br,0,none⟩):=by
  have h1:=hs.ev (.tmp m.it);have h2:ev (st vis).1 (.tmp m.it)=.mp i:=by show (st vis).1.getD m.it _=_;rw[AA,L.hS vis];rfl
  rw[h2] at h1;generalize a.eval (.tmp m.it)=V at h1;cases h1 with
  | mp q1 q2 q3 =>
   obtain⟨r',info,g1,g2,g3,rfl⟩:=q2;rw[hri] at g1;cases g1;cases g2;rw[hρi] at q3;cases q3;rfl
 have hd1:m.d1<a.tmps.size:=by rw[hs.1];exact (L.hd vis).1
 have hq1:m.q<a.tmps.size:=by rw[hs.1];exact (L.hd vis).2
 rw[hml.b];refine wpIn_seq (wpIn_region_list ?_);rw[hml.o1];refine wpListIn_plain hml.g1 fun K1 hK1 => ?_
 rcases run_next_at (P:=P) C.w m.o1.type br bm N N seen es N hr hes hold (Ak _) with ⟨h0,hrun⟩ | ⟨e,he,w1,hal,hrun⟩
 ·have hx1:(execOp a.eval m.o1).run P C.w=.ok (.value (.tuple #[.bool false])) C.w:=by
   unfold execOp;simp only[hml.p1,Sem.run_bind,hev,hrun,Result.andThen_ok];rfl
  refine DK hx1 (hK1 _ _ (wpListIn_plain hml.g2 fun K2 hK2 => ?_));have hx2:(execOp (a.put m.o1.dst (.tuple #[.bool false])).eval m.o2).run P C.w=.ok (.value (.bool false)) C.w:=by
   unfold execOp;rw[hml.d1];simp only[hml.p2,Sem.run_bind,eval_put hd1,M0 (vs:=#[.bool false]) (n:=0) rfl,Result.andThen_ok];rfl
  refine DK hx2 (hK2 _ _ (wpListIn_nil ?_));have T:=iter_turn (s':=.some) hR (L.hi vis) hH hρi hro (W:=C.w) rfl rfl rfl rfl (fun _ _=>rfl) fun C' hw=>⟨_,_,_,_,by rw[hw];exact hr⟩
  have hs2:Fv P C (((st vis).1.set m.d1 .any).set m.q .any) ((a.put m.o1.dst (.tuple #[.bool false])).put m.o2.dst (.bool false)).tmps:=by
   have h1:=hs.put (d:=m.o1.dst) (p:=.any) (v:=.tuple #[.bool false]) .any;have h2:=h1.put (d:=m.o2.dst) (p:=.any) (v:=.bool false) .any;rw[hml.d1,hml.d2] at h2;rw[hml.d1,hml.d2];exact h2
  have hperm:(vis.map (·.1)).Perm (List.range N):=by
   refine (List.perm_ext_iff_of_nodup hnd Cg).2 fun j=>⟨fun hj => ?_,fun hj => ?_⟩
   ·obtain⟨x,hx,rfl⟩:=AW.1 hj;exact Bk.2 (hlt x hx)
   ·have hj':=Bk.1 hj;have hje:es[j]? = some (es[j]'(by rw[hsz];exact hj')):=AB _;have:=Go.all_seen es seen h0 _ (Array.mem_toList_iff.2 (Array.getElem_mem _):es[j]'(by rw[hsz];exact hj') ∈ es.toList);rw[(hent j _ hje).1] at this;have h3:j ∈ seen.toList:=by simpa using this
    rw[hseen] at h3;exact h3
  have fin:=hover _ _ hperm (.of_eq (by rw[put_defers,put_defers])) T.H T.ext T.rh (hs2.mono T.ext);refine wpIn_seq (wpIn_cond (t:=false) ?_ (wpIn_exit fin));rw[hml.d2];exact eval_put (by rw[Lz];exact hq1)
 ·obtain⟨j,hj,hnc⟩:=left_mem he;obtain⟨hbj,kv,hOk,hk,hv⟩:=hent j e hj;have hjN:j<N:=by rw[<- hsz];exact (Aq.1 hj).1
  have hjn:j ∉ vis.map (·.1):=fun hm=>by
   rw[<- hseen] at hm;rw[hbj] at hnc;have:seen.contains j=true:=by simpa using hm
   rw[this] at hnc;cases hnc
  rw[hbj] at hrun;have w1o:w1.os=C.w.os/\w1.tape=C.w.tape/\w1.output=C.w.output/\w1.heap=C.w.heap:=by rcases hal with rfl | rfl <;> exact⟨rfl,rfl,rfl,rfl⟩
  have hbl:br<C.w.heap.size:=(Aq.1 hr).1;have hWo:∀ x,x ≠ br->(setBlock w1 br (.mapIter (some bm) N (seen.push j) N)).heap[x]? = C.w.heap[x]?:=fun x hx=>by
   show (w1.heap.setIfInBounds br _)[x]? = _
   rw[AO,An (fun h=>hx h.symm),w1o.2.2.2]
  have hWn:(setBlock w1 br (.mapIter (some bm) N (seen.push j) N)).heap[br]? = some (.mapIter (some bm) N (seen.push j) N):=by
   show (w1.heap.setIfInBounds br _)[br]? = _
   rw[AO,Ai rfl,Ai (by rw[w1o.2.2.2];exact hbl)]
  have T:=iter_turn (s':=.at bm N (seen.push j) N) hR (L.hi vis) hH hρi hro (W:=setBlock w1 br (.mapIter (some bm) N (seen.push j) N)) w1o.1 w1o.2.1 w1o.2.2.1 (by show (w1.heap.setIfInBounds br _).size=_;simp[w1o.2.2.2]) hWo fun C' hw=>by
   show C'.w.heap[br]? = _
   rw[hw];exact hWn
  generalize hW:setBlock w1 br (.mapIter (some bm) N (seen.push j) N)=W at T hrun hWo hWn;have hx1:(execOp a.eval m.o1).run P C.w=.ok (.value (.tuple #[.bool true,e.key,e.val])) W:=by
   unfold execOp;simp only[hml.p1,Sem.run_bind,hev,hrun,Result.andThen_ok];rfl
  refine DK hx1 (hK1 _ _ (wpListIn_plain hml.g2 fun K2 hK2 => ?_));have hx2:(execOp (a.put m.o1.dst (.tuple #[.bool true,e.key,e.val])).eval m.o2).run P W=.ok (.value (.bool true)) W:=by
   unfold execOp;rw[hml.d1];simp only[hml.p2,Sem.run_bind,eval_put hd1,M0 (vs:=#[.bool true,e.key,e.val]) (n:=0) rfl,Result.andThen_ok];rfl
  refine DK hx2 (hK2 _ _ (wpListIn_nil ?_));refine wpIn_seq (wpIn_cond (t:=true) (by rw[hml.d2];exact eval_put (by rw[Lz];exact hq1)) (wpIn_skip ?_));show (Code.block m.nx (.seq (.region m.i2 m.ops false) m.rest)).wpIn (Fr r) 0 P (Exit.then K Q) _ W
  refine wpIn_block (wpIn_seq (wpIn_region_list ?_));rw[hml.oe];refine wpListIn_plain hml.ge fun K3 hK3 => ?_
  have hev2:((a.put m.o1.dst (.tuple #[.bool true,e.key,e.val])).put m.o2.dst (.bool true)).eval (.tmp m.it)=.pointer (some ⟨br,0,none⟩):=by
   rw[hml.d1,hml.d2,eval_put_ne hml.n2,eval_put_ne hml.n1,hev]
  have hx3:(execOp ((a.put m.o1.dst (.tuple #[.bool true,e.key,e.val])).put m.o2.dst (.bool true)).eval m.oe).run P W=.ok (.value (.tuple #[e.key,e.val])) W:=by
   unfold execOp;simp only[hml.pe,Sem.run_bind,hev2,run_entry_at W br bm N seen es N e (by rw[hbj];exact hWn) (by rw[hWo bm hbr];exact hes) (mem_left he).1 (by rw[hbo];exact Cg),Result.andThen_ok];rfl
  refine DK hx3 (hK3 _ _ ?_);have hs3:Fv P { C with H:=(st vis).2.set i (C9 (.mp mi) (.at bm N (seen.push j) N)),w:=W } ((((st vis).1.set m.d1 .any).set m.q (.val (.bool true))).set m.de (.D8 [kv.1,kv.2]))
    (((a.put m.o1.dst (.tuple #[.bool true,e.key,e.val])).put m.o2.dst (.bool true)).put m.oe.dst (.tuple #[e.key,e.val])).tmps:=by
   have h1:=(hs.mono T.ext).put (d:=m.o1.dst) (p:=.any) (v:=.tuple #[.bool true,e.key,e.val]) .any;have h2:=h1.put (d:=m.o2.dst) (p:=.val (.bool true)) (v:=.bool true) .val;have h3:=h2.put (d:=m.oe.dst) (p:=.D8 [kv.1,kv.2]) (v:=.tuple #[e.key,e.val]) (.D8 rfl fun x c u q1 q2=>by
    match x with
    | 0=>simp at q1 q2;subst q1;subst q2;exact hk.mono T.ext
    | 1=>simp at q1 q2;subst q1;subst q2;exact hv.mono T.ext
    | x+2=>simp at q1)
   rw[hml.d1,hml.d2,hml.de] at h3;rw[hml.d1,hml.d2,hml.de];exact h3
  refine rndM_sound hE hb (L.step vis j kv bm N (seen.push j) N hok hOk hnd hjn hlt hjN) (C:={ C with H:=(st vis).2.set i (C9 (.mp mi) (.at bm N (seen.push j) N)),w:=W }) rfl hro T.rh hs3 (hro2.mono T.ext) fun a' C' hd hH' hx hR' hs' => ?_
  have hd0:K7 C.w a W (((a.put m.o1.dst (.tuple #[.bool true,e.key,e.val])).put m.o2.dst (.bool true)).put m.oe.dst (.tuple #[e.key,e.val])):=.of_eq (by rw[put_defers,put_defers,put_defers]);have hd2:K7 C.w a C'.w a':=K7.trans (C:={ C with H:=(st vis).2.set i (C9 (.mp mi) (.at bm N (seen.push j) N)),w:=W }) hd0 T.ext.size T.rh hx hd;exact hgo j kv a' C' hOk hjn hjN hd2 hH' (T.ext.trans hx) hR' hs'
theorem roundsM (hE:Ck P E.env) (hml:MLS b m) (hb:D9 P f m.rest) (L:MLoop P E n f m l i mi N Ok st) {r:Option Nat} {C0:Ctx} {a0:Act} {Q:Exit->Act->World->Prop} {br bm:Nat}
  (hQ:∀ vis (a':Act) (C':Ctx),(∀ x ∈ vis,Ok x.1 x.2)->(vis.map (·.1)).Perm (List.range N)->K7 C0.w a0 C'.w a'->C'.H=(st vis).2.set i (C9 (.mp mi) .some)->Ext C0 C'->RH P C'->Fv P C' (((st vis).1.set m.d1 .any).set m.q .any) a'.tmps->Q (.exit m.out) a' C'.w):
  ∀ (k:Nat) (vis:List (Nat × (PV × PV))) (seen:Array Nat) (C:Ctx) (a:Act),N<=vis.length+k->(∀ x ∈ vis,Ok x.1 x.2)->(∀ x ∈ vis,x.1<N)->(vis.map (·.1)).Nodup->seen.toList=vis.map (·.1) ->
   K7 C0.w a0 C.w a->Ext C0 C->C.H=(st vis).2.set i (C9 (.mp mi) (.at bm N seen N))->C.ro=0->RH P C->Fv P C (st vis).1 a.tmps->Fg r C.w->C.ρ i=some br->C.ρ mi=some bm ->
   Code.roundsIn (Fr r) 0 P b Q (k+1) a C.w:=by
 have one:∀ (k:Nat) (vis:List (Nat × (PV × PV))) (seen:Array Nat) (C:Ctx) (a:Act),(∀ x ∈ vis,Ok x.1 x.2)->(∀ x ∈ vis,x.1<N)->(vis.map (·.1)).Nodup->seen.toList=vis.map (·.1) ->
   K7 C0.w a0 C.w a->Ext C0 C->C.H=(st vis).2.set i (C9 (.mp mi) (.at bm N seen N))->C.ro=0->RH P C->Fv P C (st vis).1 a.tmps->Fg r C.w->C.ρ i=some br->C.ρ mi=some bm ->
   (∀ j kv (a':Act) (C':Ctx),Ok j kv->j ∉ vis.map (·.1)->j<N->K7 C0.w a0 C'.w a'->Ext C0 C'->C'.H=(st (vis++[(j,kv)])).2.set i (C9 (.mp mi) (.at bm N (seen.push j) N))->C'.ro=0->RH P C'->Fv P C' (st (vis++[(j,kv)])).1 a'.tmps->Fg r C'.w->C'.ρ i=some br->C'.ρ mi=some bm->Code.roundsIn (Fr r) 0 P b Q k a' C'.w) ->
   Code.roundsIn (Fr r) 0 P b Q (k+1) a C.w:=by
  intro k vis seen C a hok hlt hnd hseen hd hx hH hro hR hs hro2 hρi hρm hgo;rw[roundsIn_succ];have hri:C.H[i]? = some (C9 (.mp mi) (.at bm N seen N)):=by rw[hH];exact MZ (L.hi vis)
  obtain⟨rm,im,q1,q2,q3⟩:=L.hm vis;have hrm:C.H[mi]? = some rm:=by rw[hH,Au,An (fun e=>L.ne e.symm)];exact q1
  refine roundM hE hml hb L hok hlt hnd hseen hH hro hR hs hro2 hρi hρm (fun a' C' hp hd' hH' hx' hR' hs'=>hQ vis a' C' hok hp (hd.trans hx.size hR hx' hd') hH' (hx.trans hx') hR' hs') fun j kv a' C' hOk hjn hjN hd' hH' hx' hR' hs' => ?_
  exact hgo j kv a' C' hOk hjn hjN (hd.trans hx.size hR hx' hd') (hx.trans hx') hH' (by rw[hx'.ro];exact hro) hR' hs' (hro2.mono hx') ((hx'.lp i _ _ hri rfl rfl).2 br hρi) ((hx'.lp mi rm im hrm q2 q3).2 bm hρm)
 intro k;induction k with
 | zero =>
  intro vis seen C a hk hok hlt hnd hseen hd hx hH hro hR hs hro2 hρi hρm;refine one 0 vis seen C a hok hlt hnd hseen hd hx hH hro hR hs hro2 hρi hρm fun j kv a' C' hOk hjn hjN => ?_
  have h1:(j::vis.map (·.1)).Nodup:=Cp.2 ⟨hjn,hnd⟩;have h2:(j::vis.map (·.1)) ⊆ List.range N:=fun x hx=>by
   rcases AK.1 hx with rfl | hx
   ·exact Bk.2 hjN
   ·obtain⟨y,hy,rfl⟩:=AW.1 hx;exact Bk.2 (hlt y hy)
  have:=List.Nodup.length_le_of_subset h1 h2;simp at this;omega
 | succ k ih =>
  intro vis seen C a hk hok hlt hnd hseen hd hx hH hro hR hs hro2 hρi hρm;refine one (k+1) vis seen C a hok hlt hnd hseen hd hx hH hro hR hs hro2 hρi hρm fun j kv a' C' hOk hjn hjN hd' hx' hH' hro' hR' hs' hro2' hρi' hρm' => ?_
  refine ih (vis++[(j,kv)]) (seen.push j) C' a' (by simp;omega) (fun x hx => ?_) (fun x hx => ?_) ?_ (by simp[hseen]) hd' hx' hH' hro' hR' hs' hro2' hρi' hρm'
  ·rcases A5.1 hx with hx | hx
   ·exact hok x hx
   ·rw[AF] at hx;subst hx;exact hOk
  ·rcases A5.1 hx with hx | hx
   ·exact hlt x hx
   ·rw[AF] at hx;subst hx;exact hjN
  ·rw[BB,AZ,Bu];refine List.nodup_append.2 ⟨hnd,by simp,fun x hx y hy => ?_⟩;rw[AF] at hy;subst hy;exact fun e=>hjn (e ▸ hx)
theorem loopM (hE:Ck P E.env) (hml:MLS b m) (hb:D9 P f (.loop b)) (L:MLoop P E n f m l i mi N Ok st) {r:Option Nat} {C:Ctx} {a:Act} {Q:Exit->Act->World->Prop}
  (hH:C.H=(st []).2.set i (C9 (.mp mi) (.fresh N))) (hro:C.ro=0) (hR:RH P C) (hs:Fv P C (st []).1 a.tmps) (hro2:Fg r C.w)
  (hQ:∀ vis (a':Act) (C':Ctx),(∀ x ∈ vis,Ok x.1 x.2)->(vis.map (·.1)).Perm (List.range N)->K7 C.w a C'.w a'->C'.H=(st vis).2.set i (C9 (.mp mi) .some)->Ext C C'->RH P C'->Fv P C' (((st vis).1.set m.d1 .any).set m.q .any) a'.tmps->Q (.exit m.out) a' C'.w):
  (Code.loop b).wpIn (Fr r) 0 P Q a C.w:=by
 have hri:C.H[i]? = some (C9 (.mp mi) (.fresh N)):=by rw[hH];exact MZ (L.hi [])
 -- where it lies
 have h1:=hs.ev (.tmp m.it);have h2:ev (st []).1 (.tmp m.it)=.mp i:=by show (st []).1.getD m.it _=_;rw[AA,L.hS []];rfl
 rw[h2] at h1;obtain⟨br,hρi⟩:∃ br,C.ρ i=some br:=by cases h1 with | mp _ _ q3=>exact⟨_,q3⟩
 obtain⟨bm,hsl,hr⟩:=(hR.Hw i br _ ⟨itrK (.mp mi),.iter (.fresh N)⟩ hρi hri rfl rfl).itr _ rfl;have hmv:RV P C (.mp mi) (.map (some bm)):=hsl.2 0 _ _ rfl rfl;have hρm:C.ρ mi=some bm:=by
  generalize hV:Value.map (some bm)=V at hmv;cases hmv with
  | mp _ q2 q3 =>
   obtain⟨r',info,_,_,_,e⟩:=q2;rw[e] at hV;unfold hdl at hV;split at hV
   ·cases hV;exact q3
   ·cases hV
 have T:=iter_turn (s':=.at bm N #[] N) hR (L.hi []) hH hρi hro (W:=C.w) rfl rfl rfl rfl (fun _ _=>rfl) fun C' hw=>by show C'.w.heap[br]? = _;rw[hw];exact hr
 have hb':D9 P f m.rest:=by
  have h3:D9 P f b:=hb.sub (.loop .here);rw[hml.b] at h3;exact h3.sub (.seq2 (.seq2 (.block (.seq2 .here))))
 refine wpIn_loop_rounds (N+1) (roundsM hE hml hb' L (C0:=C) (a0:=a) hQ N [] #[] { C with H:=(st []).2.set i (C9 (.mp mi) (.at bm N #[] N)),w:=C.w } a (by simp) (fun x hx=>by cases hx) (fun x hx=>by cases hx) (by simp) rfl (.of_eq rfl) T.ext T.H hro T.rh (hs.mono T.ext) hro2 hρi hρm)
end
end Go.Hx
namespace Go.Hx
def Wk (P:Program) (S:List PV) (H:List Row) (S':List PV) (H':List Row):Prop:=
 ∀ (C:Ctx) (t:Array Value),C.H=H->C.ro=0->RH P C->Fv P C S t->∃ C':Ctx,C'.w=C.w/\Ext C C'/\C'.H=H'/\C'.ro=0/\RH P C'/\Fv P C' S' t
theorem Wk.refl {P:Program} {S:List PV} {H:List Row}:Wk P S H S H:=fun C _ hH hro hR hs=>⟨C,rfl,.refl C,hH,hro,hR,hs⟩
theorem Wk.trans {P:Program} {S1 S2 S3:List PV} {H1 H2 H3:List Row} (h:Wk P S1 H1 S2 H2) (k:Wk P S2 H2 S3 H3):Wk P S1 H1 S3 H3:=fun C t hH hro hR hs=>by
 obtain⟨C1,e1,x1,h1,o1,r1,s1⟩:=h C t hH hro hR hs;obtain⟨C2,e2,x2,h2,o2,r2,s2⟩:=k C1 t h1 o1 r1 s1;exact⟨C2,e2.trans e1,x1.trans x2,h2,o2,r2,s2⟩
theorem Wk.JU {P:Program} {S:List PV} {H:List Row} (l:Option (List Tmp)):Wk P S H (ES l S) H:=fun C _ hH hro hR hs=>⟨C,rfl,.refl C,hH,hro,hR,Ei l hs⟩
theorem Wk.slot {P:Program} {S S':List PV} {H:List Row} (hl:S'.length=S.length) (h:∀ (j:Nat) p p',S[j]? = some p->S'[j]? = some p'->∀ (C:Ctx) (V:Value),RV P C p V->RV P C p' V):Wk P S H S' H:=fun C t hH hro hR hs=>by
 refine⟨C,rfl,.refl C,hH,hro,hR,by rw[hl];exact hs.1,fun j p' v g1 g2 => ?_⟩;have hj:j<S.length:=by rw[<- hl];exact (Ad.1 g1).1
 exact h j _ p' (Ae hj) g1 C v (hs.2 j _ v (Ae hj) g2)
theorem Wk.drop {P:Program} {S:List PV} {H:List Row} (n:Nat) (h2:n<=H.length) (h3:Dj n (H.take n)=true) (h4:((H.drop n).all fun r=>r.lp.isNone)=true):Wk P S H (S.map (lfz P H n)) (H.take n++List.replicate (H.length-n) C6):=fun C t hH hro hR hs=>by
 subst hH;have h1:C.ro<=n:=by rw[hro];exact A4 _
 refine⟨(C.cut n False C.ro).DS (C.H.length-n),rfl,MQ h2 h1 h4,rfl,hro,MP _ (hR.cut h2 h1 h3),by rw[A1];exact hs.1,fun i p v g1 g2 => ?_⟩;rw[Ao] at g1;obtain⟨q,hq,rfl⟩:=Af.1 g1;exact KP hR h2 h1 (hs.2 i q v hq g2)
theorem Wk.F6 {P:Program} {S:List PV} {H:List Row} {i:Nat} {K E:TypeId} {D D':List (PV × PV)} {k:FQ} (h:HT H i=some (k,K,E,D')) (hp:D'.Perm D) (hd:D.Pairwise fun x y=>x.1.cells ≠ y.1.cells) (r:Row) (hr:H[i]? = some r):
  Wk P S H S (H.set i { r with lp:=some ⟨k,.F6 K E D⟩ }):=fun C t hH hro hR hs=>by
 subst hH;obtain⟨r0,g1,g2,g3⟩:=Jt h;rw[hr] at g1;cases g1;cases hρ:C.ρ i with
 | some b =>
  have hB:=(hR.Hw i b r _ hρ hr g3 g2).map K E D' rfl;obtain⟨es,c,hes,_⟩:=hB.mem;have T:=setL_sound (st:=.F6 K E D) (W:=C.w) hR hr g3 g2 hρ (by rw[hro];exact A4 _) hes rfl rfl rfl rfl rfl (fun _ _=>rfl) fun C' hx hw =>
   ⟨fun hf=>(by cases hf),fun _ _ _ he=>(by cases he),fun K2 E2 D2 he=>by
    cases he;exact⟨D',hp,hB.via (fun _ _ _ hv=>hv.mono hx) (fun es c h'=>by rw[hw];exact h'),hd⟩,fun _ he=>(by cases he)⟩
  exact⟨{ C with H:=C.H.set i { r with lp:=some ⟨k,.F6 K E D⟩ } },rfl,T.ext,T.H,hro,T.rh,hs.mono T.ext⟩
 | none =>
  -- no block: nothing is said
  have hi:i<C.H.length:=(Ad.1 hr).1;have hrowi:C.row? i=none:=by unfold Ctx.row? rowAt;rw[hr];simp[g2]
  have hrow:∀ x,rowAt (C.H.set i { r with lp:=some ⟨k,.F6 K E D⟩ }) x=C.row? x:=by
   intro x;unfold rowAt;rw[Au];by_cases hx:i=x
   ·subst hx;simp only[BO,hi,g2,A2,B5,hrowi]
   ·rw[An hx];rfl
  have hx:Ext C { C with H:=C.H.set i { r with lp:=some ⟨k,.F6 K E D⟩ } }:=by
   refine⟨rfl,rfl,rfl,Ak _,fun _ _ _=>rfl,fun x c e fr hh=>⟨c,fr,hh,rfl⟩,by simp,fun x r' _ hr'=>⟨r',by rw[<- hr'];exact (hrow x).symm,rfl,rfl,Ak _,fun _=>⟨rfl,fun _ h=>h⟩⟩,fun _ h=>.inl h,fun _ h=>.inl h,rfl,rfl,fun x hx=>⟨?_,rfl⟩,fun x q info' q1 q2 q3=>⟨?_,fun _ h=>h⟩,fun x rc hh=>⟨rc,hh⟩⟩
   ·rw[hro] at hx;omega
   ·show ∃ r' st',(C.H.set i _)[x]? = some r'/\_
    by_cases hxi:i=x
    ·subst hxi;rw[hr] at q1;cases q1;rw[g3] at q2;cases q2;exact⟨{ r with lp:=some ⟨k,.F6 K E D⟩ },.F6 K E D,by rw[Au,Ai rfl,Ai hi],rfl,g2⟩
    ·exact⟨q,info'.st,by rw[Au,An hxi];exact q1,q2,q3⟩
  refine⟨{ C with H:=C.H.set i { r with lp:=some ⟨k,.F6 K E D⟩ } },rfl,hx,rfl,hro,⟨hR.inj,fun x c hx' => ?_,fun x c q q1 q2 => ?_,by simpa using hR.ro,hR.Iu,hR.JL,fun x c q info' q1 q2 q3 q4 => ?_,hR.K5.mono hx⟩,hs.mono hx⟩
  ·rcases hR.KJ x c hx' with ⟨q,hq⟩ | ⟨q,info',q1,q2,q3⟩
   ·exact .inl ⟨q,by rw[<- hq];exact hrow x⟩
   ·obtain⟨⟨q',st',z1,z2,z3⟩,_⟩:=hx.lp x q info' q1 q2 q3;exact .inr ⟨q',_,z1,z2,z3⟩
  ·exact (hR.Gv x c q q1 (by rw[<- q2];exact (hrow x).symm)).mono hx rfl
  ·have hxi:i ≠ x:=fun e=>by subst e;rw[hρ] at q1;cases q1
   have hq2:(C.H.set i { r with lp:=some ⟨k,.F6 K E D⟩ })[x]? = some q:=q2;rw[Au,An hxi] at hq2;exact (hR.Hw x c q info' q1 hq2 q3 q4).mono hx rfl
theorem Ck.addML {P:Program} {E:CO} (hE:Ck P E.env) {n:Nat} {k i:Nat} {fn:Func} {body b:Code} (hf:P.funcs[k]? = some fn) (hb:fn.body=some body) (h0:(loops body).filter (fun b=>Ed b==i)=[b])
  {ml:ML} (hml:FJ b=some ml) (l _:List Tmp) (sel:List Bool) (sh:S1) {pre:LS->Bool} {fin:LS->DT (PX × List PV × List Row)}
  (hstep:∀ s r,pre s=true->(fin s).run=some r->r.1=.exit ml.out/\∃ (ii mi N:Nat) (Ok:Nat->PV × PV->Prop) (st:List (Nat × (PV × PV))->List PV × List Row),
   MLoop P E n k ml l ii mi N Ok st/\(sh.put s).1=(st []).1/\(sh.put s).2=(st []).2.set ii (C9 (.mp mi) (.fresh N)) /\
   ∀ vis,(∀ x ∈ vis,Ok x.1 x.2)->(vis.map (·.1)).Perm (List.range N)->Wk P (((st vis).1.set ml.d1 .any).set ml.q .any) ((st vis).2.set ii (C9 (.mp mi) .some)) r.2.1 r.2.2):
  Ck P (E.C8 k i l sel sh pre fin).env:=
 hE.Ks hf hb h0 fun hs ro S H d x S' H' hc hd=>by
  obtain⟨rfl,s,hg,hp,hr⟩:=byModel_run hc hd;obtain⟨e1,e2⟩:=S1.Fh S _ s hg;obtain⟨hx,ii,mi,N,Ok,st,L,h1,h2,h3⟩:=hstep s _ hp hr;refine wpTo_nrmA sel ?_;rw[e2,e1];intro r C a hH hro hR hs' hro2 Q hQ;dsimp only at hx;subst hx;refine loopM hE (mapLoop_some hml) hs L (by rw[hH];exact h2) hro hR (by rw[<- h1];exact hs') hro2 fun vis a' C' hok hpm hdf hH' hx' hR' hs2 => ?_
  obtain⟨C2,w2,x2,hH2,_,hR2,hs3⟩:=h3 vis hok hpm C' a'.tmps hH' (by rw[hx'.ro];exact hro) hR' hs2;have:=hQ a' C2 (by rw[w2];exact hdf) hH2 (hx'.trans x2) hR2 hs3;rw[w2] at this;exact this

def posOf:List Nat->Nat->Option Nat
 | [],_=>none
 | k::ks,i=>match k==i with | true=>some 0 | false=>(posOf ks i).map (· + 1)
theorem DN:∀ {K:List Nat} {i j:Nat},posOf K i=some j->K[j]? = some i
 | [],i,j,h=>by simp[posOf] at h
 | k::ks,i,j,h=>by
  simp only[posOf] at h;split at h
  ·rename_i hk;cases h;simpa using hk
  ·obtain⟨m,hm,rfl⟩:=Af.1 h;simpa using DN hm
theorem FO:∀ {K:List Nat} {i:Nat},posOf K i=none->i ∉ K
 | [],i,_=>by simp
 | k::ks,i,h=>by
  simp only[posOf] at h;split at h
  ·cases h
  ·rename_i hk;have:posOf ks i=none:=by simpa using h
   have h1:=FO this;have h2:k ≠ i:=by simpa using hk
   simp only[AK,not_or];exact⟨fun e=>h2 e.symm,h1⟩
theorem Nb {K:List Nat} (hn:K.Nodup) {i j:Nat} (h:K[j]? = some i):posOf K i=some j:=by
 cases hp:posOf K i with
 | none=>exact absurd (Ag h) (FO hp)
 | some m =>
  have:=DN hp;have e:=(List.getElem?_inj (Ad.1 h).1 hn).1 (h.trans this.symm);rw[e]

def Ctx.pick (C:Ctx) (K:List Nat) (Hs:List Row) (m:Nat):Ctx:=
 { ρ:=fun j=>(K[j]?).bind C.ρ,H:=Hs,w:=C.w,fo:=fun b=>C.fo b\/∃ i,i ∉ K/\C.ρ i=some b,ro:=m }
structure IX (C:Ctx) (K:List Nat) (Hs:List Row) (m:Nat):Prop where
 nodup:K.Nodup
 len:Hs.length=K.length
 get:∀ (j:Nat) i,K[j]? = some i->C.H[i]? = Hs[j]? /\ (m<=j->C.ro<=i)
 most:m<=Hs.length
theorem IX.lt {C:Ctx} {K:List Nat} {Hs:List Row} {m:Nat} (h:IX C K Hs m) {i:Nat} (hi:i ∈ K):i<C.H.length:=by
 obtain⟨j,hj⟩:=Bb hi;have h1:=(h.get j i hj).1;have h2:j<Hs.length:=by rw[h.len];exact (Ad.1 hj).1
 rw[Ae h2] at h1;exact (Ad.1 h1).1
theorem HW {C:Ctx} {K:List Nat} {Hs:List Row} {m:Nat} (h:IX C K Hs m) {j i:Nat} (hj:K[j]? = some i):(C.pick K Hs m).row? j=C.row? i:=by
 show rowAt Hs j=rowAt C.H i
 unfold rowAt;rw[(h.get j i hj).1]
theorem pick_ban {C:Ctx} {K:List Nat} {Hs:List Row} {m:Nat} {b:Nat} (hb:¬ C.JZ b):¬ (C.pick K Hs m).JZ b:=by
 rintro (⟨j,hj⟩ | hf | ⟨i,_,hi⟩)
 ·simp only[Ctx.pick] at hj;obtain⟨i,_,hi⟩:=AE.1 hj;exact hb (.inl ⟨i,hi⟩)
 ·exact hb (.inr hf)
 ·exact hb (.inl ⟨i,hi⟩)
theorem rowAt_some {H:List Row} {i:Nat} {r:Row} (h:rowAt H i=some r):H[i]? = some r:=by
 unfold rowAt at h;split at h
 ·rename_i r' hr';split at h
  ·cases h;exact hr'
  ·cases h
 ·cases h

theorem pick_rh {P:Program} {C:Ctx} (hR:RH P C) {K:List Nat} {Hs:List Row} {m:Nat} (h:IX C K Hs m) (hk:Dj 0 Hs=true):RH P (C.pick K Hs m):=by
 have hfree:∀ {p V},RV P C p V->mlt 0 p=true->RV P (C.pick K Hs m) p V:=fun hv hm=>hv.free (fun b hb=>AX fun hn=>pick_ban hn hb) rfl hm
 refine⟨fun j j' b h1 h2 => ?_,fun j b h1 => ?_,fun j b r h1 h2 => ?_,h.most,fun j b h1 => ?_,fun b hb => ?_,fun j b r info h1 h2 h3 h4 => ?_,fun g hl=>⟨pick_ban (hR.K5 g hl).1,(hR.K5 g hl).2⟩⟩
 ·obtain⟨i,k1,k2⟩:=AE.1 h1;obtain⟨i',k1',k2'⟩:=AE.1 h2;have:=hR.inj i i' b k2 k2';subst this;have e1:=Nb h.nodup k1;have e2:=Nb h.nodup k1';rw[e1] at e2;exact Ah e2
 ·obtain⟨i,k1,k2⟩:=AE.1 h1;rcases hR.KJ i b k2 with ⟨r,hr⟩ | ⟨r,info,g1,g2,g3⟩
  ·exact .inl ⟨r,by rw[HW h k1];exact hr⟩
  ·exact .inr ⟨r,info,by show Hs[j]? = _;rw[<- (h.get j i k1).1];exact g1,g2,g3⟩
 ·obtain⟨i,k1,k2⟩:=AE.1 h1;have h2':rowAt Hs j=some r:=h2;rw[HW h k1] at h2;have hB:=hR.Gv i b r k2 h2;obtain⟨c,fr,cv,m1,m2,m3,m4⟩:=hB.mem;refine⟨hB.sz,⟨c,fr,cv,m1,m2,m3,fun k e j' p hk1 hj1=>⟨(m4 k e j' p hk1 hj1).1,hfree (m4 k e j' p hk1 hj1).2 ?_⟩⟩,hB.len,hB.typed⟩;rcases HL hk h2' with hb | hb
  ·exact Ey (hB.typed hb e (Ag hk1)) 0 p (Ag hj1)
  ·exact C5 (hb e (Ag hk1)) hj1
 ·obtain⟨i,k1,k2⟩:=AE.1 h1
  rintro (hf | ⟨i',hi',hj2⟩)
  ·exact hR.Iu i b k2 hf
  ·have:=hR.inj i i' b k2 hj2;subst this;exact hi' (Ag k1)
 ·rcases hb with hf | ⟨i,_,hi⟩
  ·exact hR.JL b hf
  ·exact hR.lt hi
 ·obtain⟨i,k1,k2⟩:=AE.1 h1;have h2':Hs[j]? = some r:=h2;have h5:=IK hk h2' h3;rw[<- (h.get j i k1).1] at h2';refine (hR.Hw i b r info k2 h2' h3 h4).via (fun p V hp hv=>hfree hv (IJ hp)) (fun t m5=>⟨m5.1,fun j p v g1 g2=>hfree (m5.2 j p v g1 g2) (C5 h5 g1)⟩) (fun hl => ?_) (fun _ _ h=>h);obtain⟨⟨rec,m1,m2,m3,m4,m5,m6⟩,ha,hb⟩:=hl;exact⟨⟨rec,m1,m2,m3,m4,⟨m5.1,fun j p v g1 g2=>hfree (m5.2 j p v g1 g2) (C5 h5 g1)⟩,m6⟩,ha,hb⟩

def Gm (K:List Nat) (H Hs:List Row):List Row:=H.zipIdx.map fun x=>match posOf K x.2 with | some j=>Hs.getD j x.1 | none=>x.1
theorem putRows_get (K:List Nat) (H Hs:List Row) (i:Nat):(Gm K H Hs)[i]? = H[i]?.map fun r=>match posOf K i with | some j=>Hs.getD j r | none=>r:=by
 simp only[Gm,Ao,Br,AN,B7];congr 1
def Ctx.Fo (C C':Ctx) (K:List Nat):Ctx:=
 { ρ:=fun i=>match posOf K i with | some j=>C'.ρ j | none=>C.ρ i,H:=Gm K C.H C'.H,w:=C'.w,fo:=C.fo,ro:=C.ro }
section
variable {P:Program} {C C':Ctx} {K:List Nat} {Hs:List Row} {m:Nat}
theorem Jy (h:IX C K Hs m) (hx:Ext (C.pick K Hs m) C'):K.length<=C'.H.length:=by have:=hx.len;simp only[Ctx.pick,h.len] at this;exact this
theorem FD (h:IX C K Hs m) (hx:Ext (C.pick K Hs m) C') {i j:Nat} (hj:K[j]? = some i):(C.Fo C' K).H[i]? = C'.H[j]?:=by
 show (Gm K C.H C'.H)[i]? = _
 have hi:=h.lt (Ag hj);have hl:=Jy h hx;have hjl:j<C'.H.length:=Ax (Ad.1 hj).1 hl;rw[putRows_get,Ae hi,Nb h.nodup hj,AH,Ae hjl];simp[List.getD,List.getElem?_eq_getElem hjl]
theorem Fp {i:Nat} (hi:posOf K i=none):(C.Fo C' K).H[i]? = C.H[i]?:=by
 show (Gm K C.H C'.H)[i]? = _
 rw[putRows_get,hi];cases C.H[i]? <;> rfl
theorem FE (h:IX C K Hs m) (hx:Ext (C.pick K Hs m) C') {i j:Nat} (hj:K[j]? = some i):(C.Fo C' K).row? i=C'.row? j:=by
 unfold Ctx.row? rowAt;rw[FD h hx hj]
theorem HX {i:Nat} (hi:posOf K i=none):(C.Fo C' K).row? i=C.row? i:=by
 unfold Ctx.row? rowAt;rw[Fp hi]
theorem unpick_ban (hx:Ext (C.pick K Hs m) C') (b:Nat) (hb:(C.Fo C' K).JZ b):C'.JZ b:=by
 rcases hb with ⟨i,hi⟩ | hf
 ·simp only[Ctx.Fo] at hi;split at hi
  ·exact .inl ⟨_,hi⟩
  ·rename_i hp;refine .inr ?_;rw[hx.fo];exact .inr ⟨i,FO hp,hi⟩
 ·refine .inr ?_;rw[hx.fo];exact .inl hf
theorem pick_own (hR:RH P C) {i b:Nat} (hk:i ∉ K) (hi:C.ρ i=some b):¬ (C.pick K Hs m).own b:=by
 rintro⟨j,_,hj⟩
 obtain⟨i',k1,k2⟩:=AE.1 hj;have:=hR.inj i i' b hi k2;subst this;exact hk (Ag k1)
theorem unpick_ext (_hR:RH P C) (h:IX C K Hs m) (hx:Ext (C.pick K Hs m) C'):Ext C (C.Fo C' K):=by
 have hl:=Jy h hx;refine⟨hx.os,hx.tape,hx.output,hx.size,fun b hb ho=>hx.block b hb fun hm=>ho ?_,hx.shape,by simp[Ctx.Fo,Gm],fun i r' hi hr => ?_,fun b hb => ?_,fun b hb => ?_,rfl,rfl,fun i hi => ?_,fun i r info h1 h2 h3 => ?_,hx.loop⟩
 ·obtain⟨j,hjm,hj⟩:=hm;obtain⟨i,k1,k2⟩:=AE.1 hj;exact⟨i,(h.get j i k1).2 hjm,k2⟩
 ·cases hp:posOf K i with
  | some j =>
   have hj:=DN hp;rw[FE h hx hj] at hr;obtain⟨r,a1,a2,a3,a4,a5⟩:=hx.rows j r' (by simp only[Ctx.pick,h.len];exact (Ad.1 hj).1) hr;rw[HW h hj] at a1;exact⟨r,a1,a2,a3,a4,fun e=>⟨(a5 e).1,fun b hb=>by
    show (match posOf K i with | some j=>C'.ρ j | none=>C.ρ i)=some b
    rw[hp];exact (a5 e).2 b (by simp only[Ctx.pick,hj,Bh];exact hb)⟩⟩
  | none =>
   rw[HX hp] at hr;exact⟨r',hr,rfl,rfl,Ak _,fun _=>⟨rfl,fun b hb=>by
    show (match posOf K i with | some j=>C'.ρ j | none=>C.ρ i)=some b
    rw[hp];exact hb⟩⟩
 ·obtain⟨i,hi⟩:=hb;simp only[Ctx.Fo] at hi;split at hi
  ·rcases hx.fresh b ⟨_,hi⟩ with ⟨j,hj⟩ | hs
   ·obtain⟨i',k1,k2⟩:=AE.1 hj;exact .inl ⟨i',k2⟩
   ·exact .inr hs
  ·exact .inl ⟨i,hi⟩
 ·obtain⟨i,hir,hi⟩:=hb;simp only[Ctx.Fo] at hi hir;split at hi
  ·rename_i j0 hp0;by_cases hjm:m<=j0
   ·rcases hx.DJ b ⟨_,by rw[hx.ro];exact hjm,hi⟩ with ⟨j,hj0,hj⟩ | hs
    ·obtain⟨i',k1,k2⟩:=AE.1 hj;exact .inl ⟨i',(h.get j i' k1).2 hj0,k2⟩
    ·exact .inr hs
   ·have hl0:=(hx.low j0 (by show j0<m;omega)).2;rw[hi] at hl0;have hb0:=hl0.symm;simp only[Ctx.pick,DN hp0,Bh] at hb0;exact .inl ⟨i,hir,hb0⟩
  ·exact .inl ⟨i,hir,hi⟩
 ·cases hp:posOf K i with
  | none =>
   refine⟨Fp hp,?_⟩;show (match posOf K i with | some j=>C'.ρ j | none=>C.ρ i)=_
   rw[hp]
  | some j =>
   have hj:=DN hp;have hjm:j<m:=by
    have:=(h.get j i hj).2;by_cases hm:m<=j
    ·have:=this hm;omega
    ·omega
   obtain⟨l1,l2⟩:=hx.low j hjm;refine⟨by rw[FD h hx hj,l1];exact (h.get j i hj).1.symm,?_⟩;show (match posOf K i with | some j=>C'.ρ j | none=>C.ρ i)=_
   rw[hp];show C'.ρ j=C.ρ i
   rw[l2];simp only[Ctx.pick,hj,Bh]
 ·cases hp:posOf K i with
  | some j =>
   have hj:=DN hp;obtain⟨⟨r',st,a1,a2,a3⟩,a4⟩:=hx.lp j r info (by show Hs[j]? = _;rw[<- (h.get j i hj).1];exact h1) h2 h3;refine⟨⟨r',st,by rw[FD h hx hj];exact a1,a2,a3⟩,fun b hb => ?_⟩;show (match posOf K i with | some j=>C'.ρ j | none=>C.ρ i)=_
   rw[hp];exact a4 b (by simp only[Ctx.pick,hj,Bh];exact hb)
  | none =>
   refine⟨⟨r,info.st,by rw[Fp hp];exact h1,h2,h3⟩,fun b hb => ?_⟩;show (match posOf K i with | some j=>C'.ρ j | none=>C.ρ i)=_
   rw[hp];exact hb
theorem unpick_rh (hR:RH P C) (h:IX C K Hs m) (hx:Ext (C.pick K Hs m) C') (hR':RH P C') (hk:Dj 0 (C'.H.take K.length)=true):RH P (C.Fo C' K):=by
 have hl:=Jy h hx;have hxe:=unpick_ext hR h hx;have hfree:∀ {p V},RV P C' p V->mlt 0 p=true->RV P (C.Fo C' K) p V:=fun hv hm=>hv.free (unpick_ban hx) rfl hm
 have hfo:∀ b,C'.fo b ↔ C.fo b\/∃ i,i ∉ K/\C.ρ i=some b:=fun b=>by rw[hx.fo];rfl
 have hold:∀ i b,i ∉ K->C.ρ i=some b->C'.w.heap[b]? = C.w.heap[b]?:=fun i b hk hi=>hx.block b (hR.lt hi) (pick_own hR hk hi)
 have hin:∀ i j b,posOf K i=some j->(C.Fo C' K).ρ i=some b->C'.ρ j=some b:=fun i j b hp hi=>by
  have:(match posOf K i with | some j=>C'.ρ j | none=>C.ρ i)=some b:=hi;rwa [hp] at this
 have hout:∀ i b,posOf K i=none->(C.Fo C' K).ρ i=some b->C.ρ i=some b:=fun i b hp hi=>by
  have:(match posOf K i with | some j=>C'.ρ j | none=>C.ρ i)=some b:=hi;rwa [hp] at this
 have htake:∀ i j r,posOf K i=some j->C'.H[j]? = some r->(C'.H.take K.length)[j]? = some r:=fun i j r hp hr=>by
  rw[Av,Ai (Ad.1 (DN hp)).1];exact hr
 refine⟨fun i j b h1 h2 => ?_,fun i b h1 => ?_,fun i b r h1 h2 => ?_,A_ hR.ro hxe.len,fun i b h1 => ?_,fun b hb=>Ax (hR.JL b hb) hxe.size,fun i b r info h1 h2 h3 h4 => ?_,hR.K5.mono hxe⟩
 ·cases hp:posOf K i with
  | some p =>
   cases hq:posOf K j with
   | some q =>
    have e:=hR'.inj p q b (hin i p b hp h1) (hin j q b hq h2);subst e;have g1:=DN hp;have g2:=DN hq;rw[g1] at g2;exact Ah g2
   | none=>exact absurd ((hfo b).2 (.inr ⟨j,FO hq,hout j b hq h2⟩)) (hR'.Iu p b (hin i p b hp h1))
  | none =>
   cases hq:posOf K j with
   | some q=>exact absurd ((hfo b).2 (.inr ⟨i,FO hp,hout i b hp h1⟩)) (hR'.Iu q b (hin j q b hq h2))
   | none=>exact hR.inj i j b (hout i b hp h1) (hout j b hq h2)
 ·cases hp:posOf K i with
  | some p =>
   rcases hR'.KJ p b (hin i p b hp h1) with ⟨r,hr⟩ | ⟨r,info,g1,g2,g3⟩
   ·exact .inl ⟨r,by rw[FE h hx (DN hp)];exact hr⟩
   ·exact .inr ⟨r,info,by rw[FD h hx (DN hp)];exact g1,g2,g3⟩
  | none =>
   rcases hR.KJ i b (hout i b hp h1) with ⟨r,hr⟩ | ⟨r,info,g1,g2,g3⟩
   ·exact .inl ⟨r,by rw[HX hp];exact hr⟩
   ·exact .inr ⟨r,info,by rw[Fp hp];exact g1,g2,g3⟩
 ·cases hp:posOf K i with
  | some p =>
   rw[FE h hx (DN hp)] at h2;have hB:=hR'.Gv p b r (hin i p b hp h1) h2;obtain⟨c,fr,cv,m1,m2,m3,m4⟩:=hB.mem;refine⟨hB.sz,⟨c,fr,cv,m1,m2,m3,fun k e j q hk1 hj1=>⟨(m4 k e j q hk1 hj1).1,hfree (m4 k e j q hk1 hj1).2 ?_⟩⟩,hB.len,hB.typed⟩;have h2':rowAt C'.H p=some r:=h2;have h3:rowAt (C'.H.take K.length) p=some r:=by
    have g:=htake i p r hp (rowAt_some h2');unfold rowAt at h2' ⊢;rw[g];rw[rowAt_some (show rowAt C'.H p=some r from h2)] at h2';exact h2'
   rcases HL hk h3 with hb | hb
   ·exact Ey (hB.typed hb e (Ag hk1)) 0 q (Ag hj1)
   ·exact C5 (hb e (Ag hk1)) hj1
  | none =>
   rw[HX hp] at h2;exact (hR.Gv i b r (hout i b hp h1) h2).mono hxe (hold i b (FO hp) (hout i b hp h1))
 ·cases hp:posOf K i with
  | some p=>exact fun hf=>hR'.Iu p b (hin i p b hp h1) ((hfo b).2 (.inl hf))
  | none=>exact hR.Iu i b (hout i b hp h1)
 ·cases hp:posOf K i with
  | some p =>
   rw[FD h hx (DN hp)] at h2;have h5:=IK hk (htake i p r hp h2) h3;refine (hR'.Hw p b r info (hin i p b hp h1) h2 h3 h4).via (fun p V hp hv=>hfree hv (IJ hp)) (fun t m5=>⟨m5.1,fun j p v g1 g2=>hfree (m5.2 j p v g1 g2) (C5 h5 g1)⟩) (fun hl => ?_) (fun _ _ h=>h);obtain⟨⟨rec,m1,m2,m3,m4,m5,m6⟩,ha,hb⟩:=hl;exact⟨⟨rec,m1,m2,m3,m4,⟨m5.1,fun j q v g1 g2=>hfree (m5.2 j q v g1 g2) (C5 h5 g1)⟩,m6⟩,ha,hb⟩
  | none =>
   rw[Fp hp] at h2;exact (hR.Hw i b r info (hout i b hp h1) h2 h3 h4).mono hxe (hold i b (FO hp) (hout i b hp h1))
end

def rowOf:PV->Option Nat | .ptr i _ _ _=>some i | .sl i _ _ _=>some i | .mp i=>some i | _=>none
def Ht (args:List PV):List Nat:=args.flatMap fun p=>match p with | .fn _ first cap=>(first++cap).filterMap rowOf | .agg cs=>cs.filterMap rowOf | p=>(rowOf p).toList
def renB (K:List Nat):PV->PV
 | .ptr i n k j=>match posOf K i with | some m=>.ptr m n k j | none=>.any
 | .sl i n k l=>match posOf K i with | some m=>.sl m n k l | none=>.any
 | .mp i=>match posOf K i with | some m=>.mp m | none=>.any
 | p=>p
def renA (K:List Nat):PV->PV
 | .fn f first cap=>.fn f (first.map (renB K)) (cap.map (renB K))
 | .agg cs=>.agg (cs.map (renB K))
 | p=>renB K p
def argG:PV->Bool
 | .ptr _ _ _ _=>true
 | .sl _ _ _ _=>true
 | .mp _=>true
 | p=>mlt 0 p
def argF:PV->Bool
 | .fn _ first cap=>first.all argG&&cap.all argG
 | .agg cs=>cs.all argG
 | p=>argG p
theorem DO {P:Program} {C:Ctx} {K:List Nat} {Hs:List Row} {m:Nat} (h:IX C K Hs m) {p:PV} {V:Value} (hv:RV P C p V) (ho:argG p=true):RV P (C.pick K Hs m) (renB K p) V:=by
 have hfree:mlt 0 p=true->RV P (C.pick K Hs m) p V:=hv.free (fun b hb=>AX fun hn=>pick_ban hn hb) rfl;cases hv with
 | ptr hV hk hi hn h1 =>
  rename_i i n k j;simp only[renB];cases hp:posOf K i with
  | none=>exact .any
  | some m =>
   have hm:=DN hp;refine .ptr hV hk (by show m<Hs.length;rw[h.len];exact (Ad.1 hm).1) (fun r hr=>hn r (by rw[<- HW h hm];exact hr)) fun r hr he => ?_
   obtain⟨b,g1,g2⟩:=h1 r (by rw[<- HW h hm];exact hr) he;exact⟨b,by simp only[Ctx.pick,hm,Bh];exact g1,g2⟩
 | sl hV hi hn h1 =>
  rename_i i n k l;simp only[renB];cases hp:posOf K i with
  | none=>exact .any
  | some m =>
   have hm:=DN hp;refine .sl hV (by show m<Hs.length;rw[h.len];exact (Ad.1 hm).1) (fun r hr=>hn r (by rw[<- HW h hm];exact hr)) fun r hr he => ?_
   obtain⟨g0,a,cap,g1,g2,g3⟩:=h1 r (by rw[<- HW h hm];exact hr) he;refine⟨g0,a,cap,g1,g2,?_⟩;unfold EI at g3 ⊢;split
   ·rename_i hnl;rw[Ai hnl] at g3;exact g3
   ·rename_i hnl;rw[An hnl] at g3;obtain⟨b,q1,q2⟩:=g3;exact⟨b,by simp only[Ctx.pick,hm,Bh];exact q1,q2⟩
 | mp hi hl hb =>
  rename_i i b;simp only[renB];cases hp:posOf K i with
  | none=>exact .any
  | some m =>
   have hm:=DN hp;obtain⟨r,info,g1,g2,g3⟩:=hl;have hg:Hs[m]? = C.H[i]?:=(h.get m i hm).1.symm;refine .mp (by show m<Hs.length;rw[h.len];exact (Ad.1 hm).1) ⟨r,info,by show Hs[m]? = some r;rw[hg];exact g1,g2,g3⟩ (by simp only[Ctx.pick,hm,Bh];exact hb)
 | _=>exact hfree (by simpa [argG] using ho)
theorem pick_arg {P:Program} {C:Ctx} {K:List Nat} {Hs:List Row} {m:Nat} (h:IX C K Hs m) {p:PV} {V:Value} (hv:RV P C p V) (ho:argF p=true):RV P (C.pick K Hs m) (renA K p) V:=by
 cases hv with
 | fn h1 h2 h3 h4 =>
  simp only[argF,Aa] at ho;simp only[renA];refine .fn (by simpa using h1) (by simpa using h2) (fun j c v g1 g2 => ?_) (fun j c v g1 g2 => ?_)
  ·simp only[Ao,Af] at g1;obtain⟨x,hx,rfl⟩:=g1;exact DO h (h3 j x v hx g2) (Ap.1 ho.1 x (Ag hx))
  ·simp only[Ao,Af] at g1;obtain⟨x,hx,rfl⟩:=g1;exact DO h (h4 j x v hx g2) (Ap.1 ho.2 x (Ag hx))
 | any=>exact DO h .any ho
 | val=>exact DO h .val ho
 | ptr a b c d e=>exact DO h (.ptr a b c d e) ho
 | sl a b c d=>exact DO h (.sl a b c d) ho
 | Ee a b c d e f=>exact DO h (.Ee a b c d e f) ho
 | CQ a b c d e f g i j=>exact DO h (.CQ a b c d e f g i j) ho
 | agg h1 h2 =>
  simp only[argF] at ho;simp only[renA];refine .agg (by simpa using h1) fun j c v g1 g2 => ?_
  simp only[Ao,Af] at g1;obtain⟨x,hx,rfl⟩:=g1;exact DO h (h2 j x v hx g2) (Ap.1 ho x (Ag hx))
 | D8 a b=>exact DO h (.D8 a b) ho
 | JK a=>exact DO h (.JK a) ho
 | HE a b c=>exact DO h (.HE a b c) ho
 | mp a b c=>exact DO h (.mp a b c) ho
 | gv a b c d=>exact DO h (.gv a b c d) ho
 | bad a=>exact DO h (.bad a) ho
 | KI a b=>exact DO h (.KI a b) ho
def backB (n:Nat):PV->Bool
 | .sl m _ _ _=>decide (m<n)
 | p=>mlt 0 p
def backP (K:List Nat):PV->PV
 | .sl m n k l=>.sl (K.getD m 0) n k l
 | p=>p
theorem back_rv {P:Program} {C C':Ctx} {K:List Nat} {Hs:List Row} {m:Nat} (h:IX C K Hs m) (hx:Ext (C.pick K Hs m) C') {p:PV} {V:Value} (hv:RV P C' p V) (hb:backB K.length p=true):RV P (C.Fo C' K) (backP K p) V:=by
 have hplain:mlt 0 p=true->RV P (C.Fo C' K) p V:=fun hp=>hv.free (unpick_ban hx) rfl hp
 cases hv with
 | sl hV hi hn h1 =>
  rename_i m n k l;simp only[backB,Ab] at hb;have hm:K[m]? = some (K.getD m 0):=by rw[AA,Ae hb];rfl
  simp only[backP];refine .sl hV (by show K.getD m 0<(Gm K C.H C'.H).length;simp only[Gm,A1,List.length_zipIdx];exact h.lt (Ag hm)) (fun r hr=>hn r (by rw[<- FE h hx hm];exact hr)) fun r hr he => ?_
  obtain⟨g0,a,cap,g1,g2,g3⟩:=h1 r (by rw[<- FE h hx hm];exact hr) he;refine⟨g0,a,cap,g1,g2,?_⟩;unfold EI at g3 ⊢;split
  ·rename_i hnl;rw[Ai hnl] at g3;exact g3
  ·rename_i hnl;rw[An hnl] at g3;obtain⟨b,q1,q2⟩:=g3;refine⟨b,?_,q2⟩;show (match posOf K (K.getD m 0) with | some j=>C'.ρ j | none=>C.ρ (K.getD m 0))=some b
   rw[Nb h.nodup hm];exact q1
 | _=>exact hplain hb

def DT.filt {α:Type} (g:α->Bool):DT α->DT α
 | .leaf a=>match g a with | true=>.leaf a | false=>.no
 | .no=>.no
 | .br b x y=>.br b (x.filt g) (y.filt g)
theorem DT.run_filt {α:Type} {g:α->Bool} {r:α}:∀ {d:DT α},(d.filt g).run=some r->d.run=some r/\g r=true
 | .leaf a,h=>by
  simp only[DT.filt] at h;split at h
  ·rename_i hg;cases h;exact⟨rfl,hg⟩
  ·cases h
 | .no,h=>by cases h
 | .br b x y,h=>by
  cases b
  ·exact DT.run_filt (d:=y) h
  ·exact DT.run_filt (d:=x) h

def onRows (c:List PV->List Row->Option (DT (PV × List Row))) (ro:Nat) (args:List PV) (H:List Row):Option (DT (PV × List Row)):=
 let K:=Ht args
 match decide K.Nodup&&K.all (fun i=>decide (ro<=i)&&decide (i<H.length))&&args.all argF&&Dj 0 (K.map fun i=>H.getD i default) with
 | true=>(c ((args.map (renA K)).map nrm) (K.map fun i=>H.getD i default)).map fun d=>(d.filt fun r=>backB K.length r.1&&r.2.length==K.length&&Dj 0 r.2).map fun r=>(backP K r.1,Gm K H r.2)
 | false=>none
def CO.ER (E:CO) (k:FuncId) (c:List PV->List Row->Option (DT (PV × List Row))):CO:=E.addC k (onRows c)
theorem Ck.ER {P:Program} {E:CO} (hE:Ck P E.env) {k:FuncId} {c:List PV->List Row->Option (DT (PV × List Row))} (hent:CV P k)
  (hc:∀ args H d p H',c args H=some d->d.run=some (p,H')->ET P 0 k args H p H'):Ck P (E.ER k c).env:=by
 refine hE.addC hent fun ro args H d p H' h1 h2 => ?_
 unfold onRows at h1;dsimp only at h1;split at h1
 ·rename_i hk;simp only[Aa,Ab] at hk;obtain⟨⟨⟨hn,hK⟩,hargs⟩,hok⟩:=hk;obtain⟨d0,g1,rfl⟩:=Af.1 h1;obtain⟨⟨p0,H0⟩,g2,g3⟩:=DT.run_map h2;cases g3;obtain⟨g4,g5⟩:=DT.run_filt g2;simp only[Aa,Aw] at g5;obtain⟨⟨gp,gl⟩,gk⟩:=g5;intro C hH hro hR Vs hv;subst hH;have hP:IX C (Ht args) ((Ht args).map fun i=>C.H.getD i default) 0:=by
   refine⟨hn,by simp,fun j i hj => ?_,A4 _⟩;have:=Ap.1 hK i (Ag hj);simp only[Aa,Ab] at this;refine⟨?_,fun _=>by rw[hro];exact this.1⟩;rw[Ao,hj,AH,AA,Ae this.2];rfl
  have hR1:=pick_rh hR hP hok;have hv1:Cs P (C.pick (Ht args) ((Ht args).map fun i=>C.H.getD i default) 0) (args.map (renA (Ht args))) Vs:=by
   refine⟨by simpa using hv.1,fun j c v q1 q2 => ?_⟩;simp only[Ao,Af] at q1;obtain⟨x,hx,rfl⟩:=q1;exact pick_arg hP (hv.2 j x v hx q2) (Ap.1 hargs x (Ag hx))
  refine (hc _ _ _ _ _ g1 g4 _ rfl rfl hR1 Vs hv1.nrm).mono ?_
  rintro e w' ⟨V,C',rfl,rfl,hct⟩
  have hH':=hct.H;have hle:=Jy hP hct.ext;refine⟨V,C.Fo C' (Ht args),rfl,rfl,?_,unpick_ext hR hP hct.ext,unpick_rh hR hP hct.ext hct.rh ?_,back_rv hP hct.ext hct.rv gp⟩
  ·show Gm (Ht args) C.H C'.H=Gm (Ht args) C.H H0
   rw[hH']
  ·rw[hH',Bi (by rw[gl];exact Ak _)];exact gk
 ·cases h1

noncomputable def JV (P:Program) (E:CO) (n:Nat) (f:FuncId) (args:List PV) (H:List Row):Option (PV × List Row):=
 LU P (EU P E n) 0 f args H fun p H'=>frzK H' H.length p fun q=>Ds (mlt H.length q&&Dj H.length (H'.take H.length)) (some (q,H'.take H.length))
theorem Dm {P:Program} {E:CO} (hE:Ck P E.env) {n:Nat} {f:FuncId} {args:List PV} {H H':List Row} {p:PV} (h:JV P E n f args H=some (p,H')):CV P f/\ET P 0 f args H p H':=by
 obtain⟨q,H1,h1,h2⟩:=Fl (Fa n) h;have h3:=IV h2;obtain⟨h4,h5⟩:=CP h3;cases h5;refine⟨Gi h1,fun C hH hro hR Vs hv => ?_⟩;subst hH;refine ((Fk hE (Ho hE n) hR hro hv h1).2).mono ?_
 rintro e w' ⟨V,C',rfl,rfl,hc⟩
 obtain⟨C2,e1,e2⟩:=MJ hR hc (show settle C.H.length q H1=(frz H1 C.H.length q,H1.take C.H.length) by unfold settle;rw[Ai h4]);exact⟨V,C2,rfl,e1,e2⟩
def nzP:Kind->PV->PV
 | .sl t,.val (.slice none 0 0)=>.CQ false t []
 | .sl _,.CQ _ t es=>.CQ false t es
 | _,p=>p
def NzR (q p:PV):Prop:=p=q\/(∃ t,q=.val (.slice none 0 0)/\p=.CQ false t [])\/∃ f t es,q=.CQ f t es/\p=.CQ false t es
def nzL:List Kind->List PV->List PV
 | k::ks,c::cs=>nzP k c::nzL ks cs
 | _,cs=>cs
def nzE (ks:List Kind):PV->PV
 | .agg cs=>.agg (nzL ks cs)
 | .val (.agg a)=>.agg (nzL ks (a.toList.map .val))
 | e=>e
theorem nzL_get:∀ {ks:List Kind} {cs:List PV} {j:Nat} {p:PV},(nzL ks cs)[j]? = some p->∃ q,cs[j]? = some q/\NzR q p
 | [],cs,j,p,h=>⟨p,h,.inl rfl⟩
 | k::ks,[],j,p,h=>by simp[nzL] at h
 | k::ks,c::cs,0,p,h=>by
  simp only[nzL,AV,A3] at h;refine⟨c,rfl,?_⟩;unfold nzP at h;split at h
  ·exact .inr (.inl ⟨_,rfl,h.symm⟩)
  ·exact .inr (.inr ⟨_,_,_,rfl,h.symm⟩)
  ·exact .inl h.symm
 | k::ks,c::cs,j+1,p,h=>by
  simp only[nzL,BH] at h;exact nzL_get (cs:=cs) h
theorem nzL_len:∀ {ks:List Kind} {cs:List PV},(nzL ks cs).length=cs.length
 | [],_=>rfl
 | _::_,[]=>rfl
 | _::ks,_::cs=>by simp only[nzL,Ay,nzL_len]
theorem nzE_get {ks:List Kind} {e:PV} {j:Nat} {p:PV} (h:(nzE ks e).cells[j]? = some p):∃ q,e.cells[j]? = some q/\NzR q p:=by
 unfold nzE at h;split at h
 ·exact nzL_get h
 ·exact nzL_get h
 ·exact⟨p,h,.inl rfl⟩
theorem nzE_len {ks:List Kind} {e:PV}:(nzE ks e).cells.length=e.cells.length:=by
 unfold nzE;split
 ·exact nzL_len
 ·exact nzL_len
 ·rfl
def I3 (P:Program) (b:Bool) (r:Row):Row:=
 match b&&r.live with
 | true=>{ r with es:=r.es.map (nzE (kinds P r.t)),bv:=(r.es.map (nzE (kinds P r.t))).all (wt P r.t) }
 | false=>r
theorem nzRow_live (P:Program) (b:Bool) (r:Row):(I3 P b r).live=r.live:=by unfold I3;split <;> rfl
theorem nzRow_shp (P:Program) (b:Bool) (r:Row):ShpR r (I3 P b r):=by unfold I3;split <;> simp[ShpR]
theorem nzRow_dead {P:Program} {b:Bool} {r:Row} (h:r.live=false):I3 P b r=r:=by unfold I3;rw[h,BV]
theorem RB.nz {P:Program} {C:Ctx} {b:Nat} {r:Row} (s:Bool) (h:RB P C b r):RB P C b (I3 P s r):=by
 unfold I3;split
 ·obtain⟨c,fr,cv,m1,m2,m3,m4⟩:=h.mem;refine⟨h.sz,⟨c,fr,cv,m1,m2,by simpa using m3,fun k e j p hk hj => ?_⟩,fun e he => ?_,fun hb e he => ?_⟩
  ·simp only[Ao,Af] at hk;obtain⟨e0,hk0,rfl⟩:=hk;obtain⟨q,hq,hp⟩:=nzE_get hj;obtain⟨g1,g2⟩:=m4 k e0 j q hk0 hq;refine⟨g1,?_⟩;rcases hp with rfl | ⟨t,rfl,rfl⟩ | ⟨f,t,es,rfl,rfl⟩
   ·exact g2
   rotate_left
   ·generalize cv k j=V at g2;cases g2 with
    | CQ b off cv hcap hfull ha hc hr ht=>exact .CQ b off cv hcap (fun h=>by cases h) ha hc hr ht
   ·generalize cv k j=V at g2;cases g2;exact .CQ 0 0 (fun _ _=>undef) (Ak _) (fun h=>by cases h) (fun h=>by simp at h) (fun x e j p h1 _=>by simp at h1) (fun x e j p h1 _=>by simp at h1) (fun e h1=>by cases h1)
  ·simp only[AW] at he;obtain⟨e0,he0,rfl⟩:=he;rw[nzE_len];exact h.len e0 he0
  ·exact Ap.1 hb e he
 ·exact h
def nzA (P:Program) (sel:List Bool) (H:List Row):List Row:=H.zipIdx.map fun x=>I3 P (sel.getD x.2 false) x.1
theorem nzA_get (P:Program) (sel:List Bool) (H:List Row) (i:Nat):(nzA P sel H)[i]? = H[i]?.map (I3 P (sel.getD i false)):=by
 simp only[nzA,Ao,Br,AN,B7];congr 1
theorem nzA_row {P:Program} {C:Ctx} (sel:List Bool) (i:Nat):({ C with H:=nzA P sel C.H }:Ctx).row? i=(C.row? i).map (I3 P (sel.getD i false)):=by
 show rowAt (nzA P sel C.H) i=(rowAt C.H i).map _
 unfold rowAt;rw[nzA_get];cases C.H[i]? with
 | none=>rfl
 | some r =>
  show (if (I3 P _ r).live=true then some (I3 P _ r) else none)=Option.map _ (if r.live=true then some r else none)
  rw[nzRow_live];by_cases hl:r.live=true
  ·rw[Ai hl,Ai hl];rfl
  ·rw[An hl,An hl];rfl
theorem nzA_shp (P:Program) (sel:List Bool) (C:Ctx):Shp C { C with H:=nzA P sel C.H }:=by
 refine⟨rfl,rfl,rfl,rfl,by simp[nzA],fun i r' hr => ?_,fun i r hr => ?_,fun i r hr hl => ?_,fun i r hr hl => ?_⟩
 ·rw[nzA_row] at hr;obtain⟨r,a,rfl⟩:=Af.1 hr;exact⟨r,a,nzRow_shp P _ r⟩
 ·exact⟨_,by rw[nzA_row,hr];rfl,nzRow_shp P _ r⟩
 ·show (nzA P sel C.H)[i]? = _
  rw[nzA_get,hr,AH,nzRow_dead hl]
 ·have hr':(nzA P sel C.H)[i]? = some r:=hr;rw[nzA_get] at hr';obtain⟨q,a,b⟩:=Af.1 hr';have:q.live=false:=by rw[<- nzRow_live P (sel.getD i false),b];exact hl
  rw[nzRow_dead this] at b;rw[a];exact congrArg some b
theorem wpTo_nzA {P:Program} {c:Code} (sel:List Bool) {S S':List PV} {H H':List Row} {x:PX} (h:Eu P c 0 S (nzA P sel H) x S' H'):Eu P c 0 S H x S' H':=by
 intro r C a hH hro hR hs hro2 Q hQ;subst hH;have hR1:RH P { C with H:=nzA P sel C.H }:=hR.shp (nzA_shp P sel C) fun i b q h1 h2=>by
  rw[nzA_row] at h2;obtain⟨q0,a0,rfl⟩:=Af.1 h2;exact ((hR.Gv i b q0 h1 a0).nz (sel.getD i false)).shp (nzA_shp P sel C)
 exact h r { C with H:=nzA P sel C.H } a rfl hro hR1 (hs.shp (nzA_shp P sel C)) hro2 Q fun a' C' hd hH' hx hR' hs'=>hQ a' C' hd hH' (Ext.shp0 (nzA_shp P sel C) hro hx) hR' hs'
def CO.LD (E:CO) (P:Program) (sz:List Bool) (k i:Nat) (l:List Tmp) (sel:List Bool) (sh:S1) (pre:LS->Bool) (fin:LS->DT (PX × List PV × List Row)):CO:=
 E.Ks k i l fun ro S H=>match ro with | 0=>Jq sel sh.get pre fin 0 S (nzA P sz H) | _+1=>none
theorem Ck.LD {P:Program} {E:CO} (hE:Ck P E.env) {n:Nat} {k i:Nat} {fn:Func} {body b:Code} (hf:P.funcs[k]? = some fn) (hb:fn.body=some body) (h0:(loops body).filter (fun b=>Ed b==i)=[b])
  (sz:List Bool) (l l':List Tmp) (sel:List Bool) (sh:S1) {pre:LS->Bool} (m:LS->Nat) {fin:LS->DT (PX × List PV × List Row)}
  (hstep:∀ s r,pre s=true->(fin s).run=some r->r.1 ≠ .normal/\(CR P E n k b l l' (sh.put s).1 (sh.put s).2=some r \/
   ∃ s',CR P E n k b l l' (sh.put s).1 (sh.put s).2=some (.normal,sh.put s')/\pre s'=true/\m s'<m s/\(fin s').run=some r)):
  Ck P (E.LD P sz k i l sel sh pre fin).env:=
 hE.Ks hf hb h0 fun hs ro S H d x S' H' hc hd=>by
  cases ro with
  | zero=>exact wpTo_nzA sz (loopW hE l l' sh.put S1.Fh m hstep hs 0 S _ d x S' H' hc hd)
  | succ ro=>cases hc
def lookNQ (P:Program) (ks:List TypeId) (H:List Row) (f:Operand->PV):Op->Option (PV × List Row)
 | .lookup T x k ok =>
  match P.underlying T,f x with
  | some (.map K E),.val (.map none) =>
   match EL P E with
   | some z =>
    if ks.contains K&&Fs P K (f k)&&mvV P E (.val z) then
     some (if ok then .D8 [Js P E (.val z),.val (.bool false)] else Js P E (.val z),H) else none
   | _=>none
  | _,_=>none
 | _=>none
theorem lookNQ_rows {P:Program} {ks:List TypeId} {H:List Row} {f:Operand->PV} {op:Op} {p:PV} {H':List Row} (h:lookNQ P ks H f op=some (p,H')):H'=H:=by
 unfold lookNQ at h;split at h
 ·split at h
  ·split at h
   ·split at h
    ·cases h;rfl
    ·cases h
   ·cases h
  ·cases h
 ·cases h
theorem lookNQ_sound {P:Program} {ks:List TypeId} (hks:∀ K,K ∈ ks->Gt P K) {ro:Nat} {H:List Row} {f:Operand->PV} {op:Op} {p:PV} {H':List Row} (h:lookNQ P ks H f op=some (p,H')):OprS P ro H f op p H':=by
 intro C g o ho hro hH hR hv;obtain rfl:=lookNQ_rows h;subst hro;subst hH;unfold lookNQ at h;split at h
 ·rename_i T x k ok;split at h
  ·rename_i K E hu hfx;split at h
   ·rename_i z hz;split at h
    ·rename_i hc;simp only[Aa,BA,Ab] at hc;obtain⟨⟨hc1,hmk⟩,hmz⟩:=hc;have hKO:=hks _ hc1;have hx:=hv x (by simp[Op.operands]);have hk:=hv k (by simp[Op.operands]);rw[hfx] at hx;have hX:g x=.map none:=by generalize hg:g x=X at hx;cases hx;rfl
     have hch:=hKO.check C (f k) (g k) hmk hk true C.w;have hf:(Instr.findKey K (g k) []).run P C.w=.ok none C.w:=by
      have:=hKO.find C (f k) (g k) hmk hk [] [] rfl (fun x h=>by cases h) (fun i k v e h=>by simp at h) C.w;simpa [GB] using this
     have key:(Instr.lookup T (.map none) (g k) ok).run P C.w=.ok (if ok then .tuple #[z,.bool false] else z) C.w:=by
      unfold Instr.lookup;have h9:(#[]:Array MapEntry).isEmpty=true:=rfl;simp only[Sem.run_bind,run_underlying hu,Result.andThen_ok,Sem.run_pure,h9,hch,hf,E8 hz]
     have hE:RV P C (Js P E (.val z)) z:=RV.Js hmz .val;cases h;refine⟨_,if ok then .tuple #[z,.bool false] else z,C,?_,.inl rfl,⟨rfl,.refl C,hR⟩,?_⟩
     ·unfold execOp;simp only[ho,Sem.run_bind,hX,key,Result.andThen_ok];rfl
     ·cases ok
      ·exact hE
      ·refine .D8 rfl fun j c u g1 g2 => ?_
       match j with
       | 0=>simp at g1 g2;subst g1;subst g2;exact hE
       | 1=>simp at g1 g2;subst g1;subst g2;exact .val
       | j+2=>simp at g1
    ·cases h
   ·cases h
  ·cases h
 ·cases h
def CO.addLkN (E:CO) (P:Program) (ks:List TypeId):CO:={ E with EP:=fun ro H f op=>match lookNQ P ks H f op with | some r=>some (.leaf r) | none=>E.EP ro H f op }
theorem Ck.addLkN {P:Program} {E:CO} (hE:Ck P E.env) {ks:List TypeId} (hks:∀ K,K ∈ ks->Gt P K):Ck P (E.addLkN P ks).env where
 G2:=hE.G2
 Gq:=hE.Gq
 Ff:=hE.Ff
 lo:=fun f fn b h1 h2=>FV.mono (E:=E.env) (E':=(E.addLkN P ks).env) (fun _ _ _ _ _ _ _ h=>h) (hE.lo f fn b h1 h2)
 Ec:=hE.Ec
 F9:=hE.F9
 Ev:=fun ro H f T x k p H' h=>hE.Ev ro H f T x k p H' h
 EP:=fun ro H f op p H' h=>by
  change (match lookNQ P ks H f op with | some r=>some (DT.leaf r) | none=>E.EP ro H f op).bind DT.run=some (p,H') at h
  split at h
  ·rename_i r hr;have:r=(p,H'):=by simpa [DT.run] using h
   subst this;exact⟨lookNQ_sound hks hr,fun x=>by rw[lookNQ_rows hr]⟩
  ·exact hE.EP ro H f op p H' h
def nextNQ (H:List Row) (f:Operand->PV):Op->Option (PV × List Row)
 | .next x false =>
  match f x with
  | .mp i =>
   match H[i]? with
   | some r=>match r.live,r.lp with | false,some ⟨⟨0,[.any],_,_,_⟩,.iter .nil⟩=>some (.D8 [.val (.bool false)],H) | _,_=>none
   | none=>none
  | _=>none
 | _=>none
theorem nextNQ_rows {H:List Row} {f:Operand->PV} {op:Op} {p:PV} {H':List Row} (h:nextNQ H f op=some (p,H')):H'=H:=by
 unfold nextNQ at h;split at h
 ·split at h
  ·split at h
   ·split at h
    ·cases h;rfl
    ·cases h
   ·cases h
  ·cases h
 ·cases h
theorem nextNQ_sound {P:Program} {ro:Nat} {H:List Row} {f:Operand->PV} {op:Op} {p:PV} {H':List Row} (h:nextNQ H f op=some (p,H')):OprS P ro H f op p H':=by
 intro C g o ho hro hH hR hv;obtain rfl:=nextNQ_rows h;subst hro;subst hH;unfold nextNQ at h;split at h
 ·rename_i x;split at h
  ·rename_i i hfx;split at h
   ·rename_i r hr;split at h
    ·rename_i hl hlp;cases h;have hx:=hv x (by simp[Op.operands]);rw[hfx] at hx;generalize hX:g x=X at hx;cases hx with
     | mp hi hl2 hb =>
      obtain⟨r',info,g1,g2,g3,rfl⟩:=hl2;rw[hr] at g1;cases g1;rw[hlp] at g2;cases g2;have hh:=(hR.Hw i _ r _ hb hr hlp hl).itr .nil rfl;refine⟨_,.tuple #[.bool false],C,?_,.inl rfl,⟨rfl,.refl C,hR⟩,.D8 rfl fun j c u g1 g2 => ?_⟩
      ·unfold execOp;simp only[ho,Sem.run_bind,hX];unfold Instr.next
       have hgo:∀ {b:Nat},C.w.heap[b]? = some (.mapIter none 0 #[] 0)->(getObj b).run P C.w=.ok (.mapIter none 0 #[] 0) C.w:=fun h=>by simp[getObj,Sem.run,h]
       simp only[hdl,Sem.run_bind,hgo hh,Result.andThen_ok,Sem.run_pure]
      ·match j with
       | 0=>simp at g1 g2;subst g1;subst g2;exact .val
       | j+1=>simp at g1
    ·cases h
   ·cases h
  ·cases h
 ·cases h
def CO.addNxN (E:CO):CO:={ E with EP:=fun ro H f op=>match nextNQ H f op with | some r=>some (.leaf r) | none=>E.EP ro H f op }
theorem Ck.addNxN {P:Program} {E:CO} (hE:Ck P E.env):Ck P E.addNxN.env where
 G2:=hE.G2
 Gq:=hE.Gq
 Ff:=hE.Ff
 lo:=fun f fn b h1 h2=>FV.mono (E:=E.env) (E':=E.addNxN.env) (fun _ _ _ _ _ _ _ h=>h) (hE.lo f fn b h1 h2)
 Ec:=hE.Ec
 F9:=hE.F9
 Ev:=fun ro H f T x k p H' h=>hE.Ev ro H f T x k p H' h
 EP:=fun ro H f op p H' h=>by
  change (match nextNQ H f op with | some r=>some (DT.leaf r) | none=>E.EP ro H f op).bind DT.run=some (p,H') at h
  split at h
  ·rename_i r hr;have:r=(p,H'):=by simpa [DT.run] using h
   subst this;exact⟨nextNQ_sound hr,fun x=>by rw[nextNQ_rows hr]⟩
  ·exact hE.EP ro H f op p H' h
abbrev Nl (K E:TypeId) (D:List (PV × PV)):Row:={ es:=[],s:=0,t:=0,bv:=true,live:=false,lp:=some ⟨k0,.F6 K E D⟩ }
def Ctx.IB (C:Ctx) (w':World) (b:Nat) (r:Row):Ctx:={ ρ:=fun x=>if x=C.H.length then some b else C.ρ x,H:=C.H++[r],w:=w',fo:=C.fo,ro:=C.ro }
theorem addB_ext {C:Ctx} {w':World} (hs:Iw C.w w') (hro:C.ro<=C.H.length) {b:Nat} (hb:C.w.heap.size<=b) (r:Row):Ext C (C.IB w' b r):=
 forth_ext (C:=C) (C':=C.at w') (hs.ext (C:=C)) hro hb
theorem addB_ex0 {P:Program} {C:Ctx} {w':World} (_:RH P C) (hs:Iw C.w w') {b:Nat} (hb:C.w.heap.size<=b) (r:Row):Ex0 C (C.IB w' b r) where
 size:=hs.size
 nb x hx hlt:=by
  refine⟨fun h => ?_,hs.block x hlt⟩;rcases h with ⟨i,hi⟩ | h
  ·simp only[Ctx.IB] at hi;split at hi
   ·cases hi;omega
   ·exact hx (.inl ⟨i,hi⟩)
  ·exact hx (.inr h)
 shape x c e fr h:=⟨c,fr,by rw[<- h];exact hs.block x (Aq.1 h).1,rfl⟩
 len:=by simp[Ctx.IB]
 rows i r' hi h:=by
  have h1:(C.IB w' b r).row? i=C.row? i:=DE hi;rw[h1] at h;exact⟨r',h,rfl,rfl,Ak _,fun _=>⟨rfl,fun y hy=>by simp only[Ctx.IB];rw[An (by omega)];exact hy⟩⟩
 lp i q info h1 h2 h3:=by
  have hi:i<C.H.length:=(Ad.1 h1).1;exact⟨⟨q,info.st,by show (C.H++[r])[i]? = _;rw[As hi];exact h1,h2,h3⟩,fun y hy=>by simp only[Ctx.IB];rw[An (by omega)];exact hy⟩
theorem addB_rh {P:Program} {C:Ctx} {w':World} (hR:RH P C) (hs:Iw C.w w') {b:Nat} (hb:C.w.heap.size<=b) (hlt:b<w'.heap.size) {r:Row} {info:Fe} (hr:r.live=false) (hlp:r.lp=some info) (hB:Fj P (C.IB w' b r) b info):RH P (C.IB w' b r):=by
 have hx:=addB_ex0 hR hs hb r;have hnew:(C.IB w' b r).H[C.H.length]? = some r:=by simp[Ctx.IB]
 have old:∀ {i x},(C.IB w' b r).ρ i=some x->(i=C.H.length/\x=b)\/(i<C.H.length/\C.ρ i=some x):=by
  intro i x h;simp only[Ctx.IB] at h;split at h
  ·rename_i e;cases h;exact .inl ⟨e,rfl⟩
  ·exact .inr ⟨hR.Ka h,h⟩
 have hrow:∀ i,i<C.H.length->(C.IB w' b r).row? i=C.row? i:=fun i hi=>DE hi
 refine⟨fun i j x h1 h2 => ?_,fun i x h => ?_,fun i x q h1 h2 => ?_,?_,fun i x h => ?_,fun x h=>Ax (hR.JL x h) hs.size,fun i x q info' h1 h2 h3 h4 => ?_,hR.K5.EB hx⟩
 ·rcases old h1 with ⟨a1,a2⟩ | ⟨a1,a2⟩ <;> rcases old h2 with ⟨b1,b2⟩ | ⟨b1,b2⟩
  ·omega
  ·subst a2;have:=hR.lt b2;omega
  ·subst b2;have:=hR.lt a2;omega
  ·exact hR.inj i j x a2 b2
 ·rcases old h with ⟨a1,a2⟩ | ⟨a1,a2⟩
  ·subst a1;exact .inr ⟨r,info,hnew,hlp,hr⟩
  ·rcases hR.KJ i x a2 with ⟨q,hq⟩ | ⟨q,info',g1,g2,g3⟩
   ·exact .inl ⟨q,by rw[hrow i a1];exact hq⟩
   ·exact .inr ⟨q,info',by show (C.H++[r])[i]? = _;rw[As a1];exact g1,g2,g3⟩
 ·rcases old h1 with ⟨a1,a2⟩ | ⟨a1,a2⟩
  ·subst a1;have:(C.IB w' b r).row? C.H.length=none:=by
    show rowAt (C.H++[r]) C.H.length=none
    unfold rowAt;simp[hr]
   rw[this] at h2;cases h2
  ·rw[hrow i a1] at h2;exact (hR.Gv i x q a2 h2).EB hx (hs.block x (hR.lt a2))
 ·have:=hR.ro;show C.ro<=(C.H++[r]).length
  simp only[Ar,Ct];omega
 ·rcases old h with ⟨a1,a2⟩ | ⟨a1,a2⟩
  ·subst a2;exact fun hf=>by have:=hR.JL _ hf;omega
  ·exact hR.Iu i x a2
 ·rcases old h1 with ⟨a1,a2⟩ | ⟨a1,a2⟩
  ·subst a1 a2;rw[hnew] at h2;cases h2;rw[hlp] at h3;cases h3;exact hB
  ·have h2':(C.H++[r])[i]? = some q:=h2;rw[As a1] at h2';exact (hR.Hw i x q info' a2 h2' h3 h4).EB hx (hs.block x (hR.lt a2))
theorem newM_gen {P:Program} {E:CO} (hE:Ck P E.env) {n:Nat} {f:FuncId} {args:List PV} {i:Nat} {H2:List Row} {K Et:TypeId} {D:List (PV × PV)} (hm:EJ 0 args=true) (h:runR P E n 0 f args []=some (.mp i,H2))
  (hM:∀ (C:Ctx) (V:Value),RH P C->C.H=H2->RV P C (.mp i) V->∃ b,V=.map (some b)/\C.ρ i=some b/\∃ D',D'.Perm D/\MapB P C b K Et D'/\D.Pairwise fun x y=>x.1.cells ≠ y.1.cells) (hf:∀ x ∈ D,x.2.flat=true):
  CV P f/\∀ ro H,ET P ro f args H (.mp H.length) (H++[Nl K Et D]):=by
 obtain⟨q,H3,hI,h2⟩:=Fl (Fa n) h;cases h2;refine⟨Gi hI,fun ro H C hCH _ hR Vs hv => ?_⟩;subst hCH;have hRc:RH P (C.cut 0 True 0):=hR.cut (A4 _) (Ak _) (by simp[Dj]);have hvc:Cs P (C.cut 0 True 0) args Vs:=⟨hv.1,fun j c v h1 h2=>(hv.2 j c v h1 h2).cut (A4 _) (C5 hm h1)⟩;have g2:=(Fk hE (Ho hE n) (C:=C.cut 0 True 0) hRc rfl hvc hI).2;refine g2.mono ?_
 rintro e w' ⟨V,C',rfl,rfl,hc⟩
 have hs:Iw C.w C'.w:=IL hc.ext;obtain⟨b,rfl,hρ,D',hp,hB,hd⟩:=hM C' V hc.rh hc.H hc.rv;have hb:C.w.heap.size<=b:=by
  rcases hc.ext.fresh b ⟨i,hρ⟩ with ⟨j,hj⟩ | hs
  ·simp[Ctx.cut] at hj
  ·exact hs
 obtain⟨⟨es,c,h1,h2,h3,h4⟩,hk,hvl⟩:=hB;have hlt:b<C'.w.heap.size:=(Aq.1 h1).1;have hL:Fj P (C.IB C'.w b (Nl K Et D)) b ⟨k0,.F6 K Et D⟩:=by
  refine⟨fun hf=>(by cases hf),fun _ _ _ he=>(by cases he),fun K2 E2 D2 he => ?_,fun _ he=>(by cases he)⟩;cases he;exact⟨D',hp,⟨⟨es,c,h1,h2,h3,fun j a v e g1 g2=>⟨(h4 j a v e g1 g2).1,(h4 j a v e g1 g2).2.1.flat (FL (hk _ (Ag g1))),(h4 j a v e g1 g2).2.2.flat (hf _ (hp.subset (Ag g1)))⟩⟩,hk,hvl⟩,hd⟩
 refine⟨_,C.IB C'.w b (Nl K Et D),rfl,rfl,rfl,addB_ext hs hR.ro hb _,addB_rh hR hs hb hlt rfl rfl hL,?_⟩;have hh:(C.IB C'.w b (Nl K Et D)).H[C.H.length]? = some (Nl K Et D):=by simp[Ctx.IB]
 exact .mp (by simp[Ctx.IB]) ⟨_,_,hh,rfl,rfl,rfl⟩ (by simp[Ctx.IB])
theorem newM_call {P:Program} {E:CO} (hE:Ck P E.env) {n:Nat} {f:FuncId} {args:List PV} {i:Nat} {H2:List Row} {k:FQ} {K Et:TypeId} {D:List (PV × PV)} (hm:EJ 0 args=true) (h:runR P E n 0 f args []=some (.mp i,H2)) (hM:L9 H2 i=some (k,K,Et,D)) (hf:∀ x ∈ D,x.2.flat=true):
  CV P f/\∀ ro H,ET P ro f args H (.mp H.length) (H++[Nl K Et D]):=
 newM_gen hE hm h (fun C V hR hH hv=>MY hR hv (by rw[hH];exact hM)) hf
theorem newM_ord {P:Program} {E:CO} (hE:Ck P E.env) {n:Nat} {f:FuncId} {args:List PV} {i:Nat} {H2:List Row} {k:FQ} {K Et:TypeId} {D:List (PV × PV)} (hm:EJ 0 args=true) (h:runR P E n 0 f args []=some (.mp i,H2)) (hM:HT H2 i=some (k,K,Et,D)) (hf:∀ x ∈ D,x.2.flat=true)
  (hd:D.Pairwise fun x y=>x.1.cells ≠ y.1.cells):CV P f/\∀ ro H,ET P ro f args H (.mp H.length) (H++[Nl K Et D]):=
 newM_gen hE hm h (fun C V hR hH hv=>by
  obtain⟨b,h1,h2,h3⟩:=MW hR hv (by rw[hH];exact hM);exact⟨b,h1,h2,D,.refl _,h3,hd⟩) hf
def CO.addMp (E:CO) (k:FuncId) (K Et:TypeId) (c:List PV->Option (Bool × List (PV × PV))):CO:=
 (E.addC k fun _ a H=>match c a with | some r=>some (.br r.1 (.leaf (.mp H.length,H++[Nl K Et r.2])) .no) | none=>none).FN k
theorem Ck.addMp {P:Program} {E:CO} (hE:Ck P E.env) {k:FuncId} {K Et:TypeId} {c:List PV->Option (Bool × List (PV × PV))} (hent:CV P k)
  (hc:∀ args r,c args=some r->r.1=true->∀ ro H,ET P ro k args H (.mp H.length) (H++[Nl K Et r.2])):Ck P (E.addMp k K Et c).env:=
 (hE.addC hent fun ro args H d p H' h1 h2=>by
  split at h1
  ·rename_i r hr;cases h1;cases hb:r.1 with
   | true =>
    rw[hb] at h2;cases h2;exact hc _ _ hr hb ro H
   | false=>rw[hb] at h2;cases h2
  ·cases h1).FN k
def Ctx.ER (C:Ctx) (w':World) (ob:Nat->Option Nat) (R:List Row):Ctx:={ ρ:=fun x=>if x<C.H.length then C.ρ x else ob (x-C.H.length),H:=C.H++R,w:=w',fo:=C.fo,ro:=C.ro }
section
variable {C:Ctx} {w':World} {ob:Nat->Option Nat} {R:List Row}
theorem addR_row {i:Nat} (hi:i<C.H.length):(C.ER w' ob R).row? i=C.row? i:=by
 show rowAt (C.H++R) i=rowAt C.H i
 unfold rowAt;rw[As hi]
theorem addR_new (j:Nat):(C.ER w' ob R).row? (C.H.length+j)=rowAt R j:=by
 show rowAt (C.H++R) (C.H.length+j)=rowAt R j
 unfold rowAt;rw[Bj (by omega),show C.H.length+j-C.H.length=j by omega]
theorem K4 {i:Nat} (hi:i<C.H.length):(C.ER w' ob R).ρ i=C.ρ i:=Ai hi
theorem addR_ρn (j:Nat):(C.ER w' ob R).ρ (C.H.length+j)=ob j:=by
 show (if C.H.length+j<C.H.length then _ else ob (C.H.length+j-C.H.length))=_
 rw[An (by omega),show C.H.length+j-C.H.length=j by omega]
theorem FI {P:Program} {i b:Nat} (_:RH P C) (h:(C.ER w' ob R).ρ i=some b):(i<C.H.length/\C.ρ i=some b)\/∃ j,i=C.H.length+j/\ob j=some b:=by
 by_cases hi:i<C.H.length
 ·rw[K4 hi] at h;exact .inl ⟨hi,h⟩
 ·obtain⟨j,rfl⟩:∃ j,i=C.H.length+j:=⟨i-C.H.length,by omega⟩;rw[addR_ρn] at h;exact .inr ⟨j,rfl,h⟩
theorem addR_ext {P:Program} (hR:RH P C) (hs:Iw C.w w') (hb:∀ j b,ob j=some b->C.w.heap.size<=b):Ext C (C.ER w' ob R):=by
 refine⟨hs.os,hs.tape,hs.output,hs.size,fun b h1 _=>hs.block b h1,fun b c e fr h=>⟨c,fr,by rw[<- h];exact hs.block b (Aq.1 h).1,rfl⟩,by simp[Ctx.ER],fun i r' hi hr => ?_,fun x hx => ?_,fun x hx => ?_,rfl,rfl,fun i hi => ?_,fun i q info h1 h2 h3 => ?_,fun b rec h=>⟨rec,by rw[<- h];exact hs.block b (Aq.1 h).1⟩⟩
 ·rw[addR_row hi] at hr;exact⟨r',hr,rfl,rfl,Ak _,fun _=>⟨rfl,fun y hy=>by rw[K4 hi];exact hy⟩⟩
 ·obtain⟨i,hi⟩:=hx;rcases FI hR hi with ⟨_,h⟩ | ⟨j,_,h⟩
  ·exact .inl ⟨i,h⟩
  ·exact .inr (hb j x h)
 ·obtain⟨i,hi0,hi⟩:=hx;rcases FI hR hi with ⟨_,h⟩ | ⟨j,_,h⟩
  ·exact .inl ⟨i,hi0,h⟩
  ·exact .inr (hb j x h)
 ·have hro:=hR.ro;refine⟨?_,K4 (by omega)⟩;show (C.H++R)[i]? = _
  rw[As (by omega)]
 ·have hi:i<C.H.length:=(Ad.1 h1).1;exact⟨⟨q,info.st,by show (C.H++R)[i]? = _;rw[As hi];exact h1,h2,h3⟩,fun y hy=>by rw[K4 hi];exact hy⟩
theorem addR_ex0 {P:Program} (hR:RH P C) (hs:Iw C.w w') (hb:∀ j b,ob j=some b->C.w.heap.size<=b):Ex0 C (C.ER w' ob R) where
 size:=hs.size
 nb x hx hlt:=by
  refine⟨fun h => ?_,hs.block x hlt⟩;rcases h with ⟨i,hi⟩ | h
  ·rcases FI hR hi with ⟨_,h⟩ | ⟨j,_,h⟩
   ·exact hx (.inl ⟨i,h⟩)
   ·have:=hb j x h;omega
  ·exact hx (.inr h)
 shape x c e fr h:=⟨c,fr,by rw[<- h];exact hs.block x (Aq.1 h).1,rfl⟩
 len:=by simp[Ctx.ER]
 rows i r' hi h:=by
  rw[addR_row hi] at h;exact⟨r',h,rfl,rfl,Ak _,fun _=>⟨rfl,fun y hy=>by rw[K4 hi];exact hy⟩⟩
 lp i q info h1 h2 h3:=by
  have hi:i<C.H.length:=(Ad.1 h1).1;exact⟨⟨q,info.st,by show (C.H++R)[i]? = _;rw[As hi];exact h1,h2,h3⟩,fun y hy=>by rw[K4 hi];exact hy⟩
theorem addR_rh {P:Program} (hR:RH P C) (hs:Iw C.w w') (hb:∀ j b,ob j=some b->C.w.heap.size<=b) (hi:∀ j j' b,ob j=some b->ob j'=some b->j=j') (hl:∀ j b,ob j=some b->∃ r,rowAt R j=some r/\RB P (C.ER w' ob R) b r):RH P (C.ER w' ob R):=by
 have hx:=addR_ex0 (ob:=ob) (R:=R) hR hs hb;refine⟨fun i j x h1 h2 => ?_,fun i x h => ?_,fun i x q h1 h2 => ?_,?_,fun i x h => ?_,fun x h=>Ax (hR.JL x h) hs.size,fun i x q info' h1 h2 h3 h4 => ?_,hR.K5.EB hx⟩
 ·rcases FI hR h1 with ⟨a1,a2⟩ | ⟨a,rfl,a2⟩ <;> rcases FI hR h2 with ⟨b1,b2⟩ | ⟨b,rfl,b2⟩
  ·exact hR.inj i j x a2 b2
  ·have:=hR.lt a2;have:=hb b x b2;omega
  ·have:=hR.lt b2;have:=hb a x a2;omega
  ·rw[hi a b x a2 b2]
 ·rcases FI hR h with ⟨a1,a2⟩ | ⟨j,rfl,a2⟩
  ·rcases hR.KJ i x a2 with ⟨q,hq⟩ | ⟨q,info',g1,g2,g3⟩
   ·exact .inl ⟨q,by rw[addR_row a1];exact hq⟩
   ·exact .inr ⟨q,info',by show (C.H++R)[i]? = _;rw[As a1];exact g1,g2,g3⟩
  ·obtain⟨r,h1,_⟩:=hl j x a2;exact .inl ⟨r,by rw[addR_new];exact h1⟩
 ·rcases FI hR h1 with ⟨a1,a2⟩ | ⟨j,rfl,a2⟩
  ·rw[addR_row a1] at h2;exact (hR.Gv i x q a2 h2).EB hx (hs.block x (hR.lt a2))
  ·obtain⟨r,g1,g2⟩:=hl j x a2;rw[addR_new,g1] at h2;cases h2;exact g2
 ·have:=hR.ro;show C.ro<=(C.H++R).length
  simp only[Ar];omega
 ·rcases FI hR h with ⟨a1,a2⟩ | ⟨j,rfl,a2⟩
  ·exact hR.Iu i x a2
  ·exact fun hf=>by have:=hR.JL _ hf;have:=hb j x a2;omega
 ·rcases FI hR h1 with ⟨a1,a2⟩ | ⟨j,rfl,a2⟩
  ·have h2':(C.H++R)[i]? = some q:=h2;rw[As a1] at h2';exact (hR.Hw i x q info' a2 h2' h3 h4).EB hx (hs.block x (hR.lt a2))
  ·obtain⟨r,g1,_⟩:=hl j x a2;have h2':(C.H++R)[C.H.length+j]? = some q:=h2;rw[Bj (by omega),show C.H.length+j-C.H.length=j by omega] at h2';unfold rowAt at g1;rw[h2'] at g1;simp[h4] at g1
end
theorem RB.free {P:Program} {C C':Ctx} {b:Nat} {r:Row} (h:RB P C b r) (hw:C'.w=C.w) (hb:∀ x,C'.JZ x->C.JZ x) (hf:∀ e ∈ r.es,∀ c ∈ e.cells,mlt 0 c=true):RB P C' b r:=by
 obtain⟨c,fr,cv,h1,h2,h3,h4⟩:=h.mem;exact⟨h.sz,⟨c,fr,cv,by rw[hw,h1],h2,h3,fun k e j p g1 g2=>⟨(h4 k e j p g1 g2).1,(h4 k e j p g1 g2).2.free hb hw (hf e (Ag g1) p (Ag g2))⟩⟩,h.len,h.typed⟩
inductive Shd (idx:List Nat) (h:Nat):PV->PV->Prop
 | free {p:PV} (hp:mlt 0 p=true):Shd idx h p p
 | sl {x i n l:Nat} (hx:idx[x]? = some i):Shd idx h (.sl i n 0 l) (.sl (h+x) n 0 l)
theorem newR_call {P:Program} {E:CO} (hE:Ck P E.env) {n:Nat} {f:FuncId} {args:List PV} {ps qs:Nat->List PV} {H2:List Row} {idx:List Nat} {R:List Row} (hm:EJ 0 args=true) (h:runR P E n 0 f args []=some (.D8 (ps 0),H2)) (hnd:idx.Nodup)
  (hR2:∀ (x i:Nat),idx[x]? = some i->∃ r,rowAt H2 i=some r/\rowAt R x=some r) (hlR:R.length=idx.length) (hf:∀ r ∈ R,∀ e ∈ r.es,∀ c ∈ e.cells,mlt 0 c=true)
  (hsh:∀ h,(qs h).length=(ps 0).length/\∀ (j:Nat) p q,(ps 0)[j]? = some p->(qs h)[j]? = some q->Shd idx h p q):
  CV P f/\∀ ro H,ET P ro f args H (.D8 (qs H.length)) (H++R):=by
 obtain⟨q,H3,hI,h2⟩:=Fl (Fa n) h;cases h2;refine⟨Gi hI,fun ro H C hCH _ hR Vs hv => ?_⟩;subst hCH;have hRc:RH P (C.cut 0 True 0):=hR.cut (A4 _) (Ak _) (by simp[Dj]);have hvc:Cs P (C.cut 0 True 0) args Vs:=⟨hv.1,fun j c v h1 h2=>(hv.2 j c v h1 h2).cut (A4 _) (C5 hm h1)⟩;have g2:=(Fk hE (Ho hE n) (C:=C.cut 0 True 0) hRc rfl hvc hI).2;refine g2.mono ?_
 rintro e w' ⟨V,C',rfl,rfl,hc⟩
 have hs:Iw C.w C'.w:=IL hc.ext;have hH2:=hc.H;subst hH2
 let ob:Nat->Option Nat:=fun x=>(idx[x]?).bind C'.ρ
 have hob:∀ j b,ob j=some b->∃ i,idx[j]? = some i/\C'.ρ i=some b:=fun j b hb=>AE.1 hb
 have hfr:∀ j b,ob j=some b->C.w.heap.size<=b:=fun j b hb=>by
  obtain⟨i,_,h2⟩:=hob j b hb;rcases hc.ext.fresh b ⟨i,h2⟩ with ⟨j,hj⟩ | hs
  ·simp[Ctx.cut] at hj
  ·exact hs
 have hban:∀ x,(C.ER C'.w ob R).JZ x->C'.JZ x:=fun x hx=>by
  rcases hx with ⟨i,hi⟩ | hx
  ·rcases FI hR hi with ⟨a1,a2⟩ | ⟨j,rfl,a2⟩
   ·refine .inr ?_;rw[hc.ext.fo];simp only[Ctx.cut]
    first | exact .inl ⟨trivial,⟨i,by omega,a2⟩⟩ | exact .inr ⟨trivial,⟨i,by omega,a2⟩⟩ | exact .inr ⟨⟨i,by omega,a2⟩,trivial⟩ | simp_all
   ·obtain⟨i,_,h2⟩:=hob j x a2;exact .inl ⟨i,h2⟩
  ·refine .inr ?_;rw[hc.ext.fo];simp only[Ctx.cut]
   first | exact .inl hx | exact .inr hx | simp_all
 have hRB:∀ j b,ob j=some b->∃ r,rowAt R j=some r/\RB P (C.ER C'.w ob R) b r:=fun j b hb=>by
  obtain⟨i,h1,h2⟩:=hob j b hb;obtain⟨r,g1,g2⟩:=hR2 j i h1;have hmem:r ∈ R:=by
   unfold rowAt at g2;split at g2
   ·rename_i r' hr';split at g2
    ·cases g2;exact Ag hr'
    ·cases g2
   ·cases g2
  exact⟨r,g2,(hc.rh.Gv i b r h2 g1).free rfl hban (hf r hmem)⟩
 have hinj:∀ j j' b,ob j=some b->ob j'=some b->j=j':=fun j j' b h1 h2=>by
  obtain⟨i,a1,a2⟩:=hob j b h1;obtain⟨i',b1,b2⟩:=hob j' b h2;have e:=hc.rh.inj i i' b a2 b2;subst e;exact (List.getElem?_inj (Ad.1 a1).1 hnd).1 (a1.trans b1.symm)
 have hR3:=addR_rh hR hs hfr hinj hRB;have hrv:=hc.rv;cases hrv with
 | @D8 _ Vs2 hz hh =>
  obtain⟨l1,l2⟩:=hsh C.H.length;refine⟨_,C.ER C'.w ob R,rfl,rfl,rfl,addR_ext hR hs hfr,hR3,.D8 (by rw[hz,l1]) fun j q v g1 g2 => ?_⟩;have hj:j<(ps 0).length:=by rw[<- l1];exact (Ad.1 g1).1
  have g0:(ps 0)[j]? = some (ps 0)[j]:=Ae hj;have hv1:=hh j _ v g0 g2;have hS:=l2 j _ q g0 g1;generalize (ps 0)[j]=p at hv1 hS;cases hS with
  | free hp=>exact hv1.free hban rfl hp
  | @sl x i n l hx =>
   obtain⟨r,k1,k2⟩:=hR2 x i hx;have hxl:x<R.length:=by rw[hlR];exact (Ad.1 hx).1
   have hrow:(C.ER C'.w ob R).row? (C.H.length+x)=some r:=by rw[addR_new];exact k2
   cases hv1 with
   | sl hV hi hn hh2 =>
    refine .sl hV (by show _<(C.H++R).length;rw[Ar];omega) (fun r' hr' => ?_) fun r' hr' hl => ?_
    ·rw[hrow] at hr';cases hr';exact hn r k1
    ·rw[hrow] at hr';cases hr';obtain⟨q1,a,cap,q2,q3,q4⟩:=hh2 r k1 hl;refine⟨q1,a,cap,q2,q3,?_⟩;unfold EI at q4 ⊢;split
     ·rename_i hnl;rw[Ai hnl] at q4;exact q4
     ·rename_i hnl;rw[An hnl] at q4;obtain⟨b,z1,z2⟩:=q4;exact⟨b,by rw[addR_ρn];show (idx[x]?).bind C'.ρ=_;rw[hx];exact z1,z2⟩

mutual
/-- Rows have other numbers: row K[j] is row j. -/
def ren (K:List Nat):PV->PV
 | .ptr i n k j=>match posOf K i with | some m=>.ptr m n k j | none=>.any
 | .sl i n k l=>match posOf K i with | some m=>.sl m n k l | none=>.any
 | .mp i=>match posOf K i with | some m=>.mp m | none=>.any
 | .HE i=>match posOf K i with | some m=>.HE m | none=>.any
 | .agg cs=>.agg (rens K cs)
 | .D8 cs=>.D8 (rens K cs)
 | .fn f a b=>.fn f (rens K a) (rens K b)
 | .JK t v=>.JK t (ren K v)
 | p=>p
def rens (K:List Nat):List PV->List PV
 | []=>[]
 | p::ps=>ren K p::rens K ps
end
mutual
/-- What names no row stays. -/
theorem ren_byval {K:List Nat}:∀ {p:PV},mlt 0 p=true->ren K p=p
 | .val _,_=>rfl
 | .any,_=>rfl
 | .CQ _ _ _,_=>rfl
 | .Ee _ _ _,_=>rfl
 | .gv _,_=>rfl
 | .bad _,_=>rfl
 | .KI _ _,_=>rfl
 | .ptr _ _ _ _,h=>by simp[mlt] at h
 | .sl _ _ _ _,h=>by simp[mlt] at h
 | .mp _,h=>by simp[mlt] at h
 | .HE _,h=>by simp[mlt] at h
 | .agg cs,h=>by simp only[ren];rw[H7 (by simpa [mlt] using h)]
 | .D8 cs,h=>by simp only[ren];rw[H7 (by simpa [mlt] using h)]
 | .fn f a b,h=>by
  simp only[mlt,Aa] at h;simp only[ren];rw[H7 h.1,H7 h.2]
 | .JK t v,h=>by simp only[ren];rw[ren_byval (by simpa [mlt] using h)]
theorem H7 {K:List Nat}:∀ {ps:List PV},EJ 0 ps=true->rens K ps=ps
 | [],_=>rfl
 | p::ps,h=>by
  simp only[EJ,Aa] at h;simp only[rens];rw[ren_byval h.1,H7 h.2]
end
section
variable {P:Program} {C:Ctx} {K:List Nat}
end
section
variable {P:Program} {C:Ctx} {K:List Nat}
end
def frz2 (P:Program) (H:List Row):PV->PV
 | .sl i n k len =>
  match rowAt H i with
  | some r =>
   match !r.bv&&r.es.length==n&&((r.es.drop k).take len).all (fun e=>(e.cells.all fun c=>mlt 0 (frz H 0 c))&&wt P r.t (frzE H 0 e)) with
   | true=>.CQ false r.t (((r.es.drop k).take len).map (frzE H 0))
   | false=>frz H 0 (.sl i n k len)
  | none=>frz H 0 (.sl i n k len)
 | p=>frz H 0 p
section
variable {P:Program} {C:Ctx}
theorem RV.frz2 (hR:RH P C) {ro:Nat} {p:PV} {V:Value} (hv:RV P C p V):mlt 0 (frz2 P C.H p)=true->RV P (C.cut 0 False ro) (Hx.frz2 P C.H p) V:=by
 unfold Hx.frz2;split
 ·rename_i i n k len;split
  ·rename_i r hr;split
   ·rename_i hc;intro _;simp only[Aa,Al,Aw,Ap] at hc;obtain⟨⟨_,hn⟩,hall⟩:=hc;cases hv with
    | sl hV hi hle h1 =>
     obtain⟨hk,a,cap,rfl,hcap,hs⟩:=h1 r hr hn;have hl:(((r.es.drop k).take len).map (frzE C.H 0)).length=len:=by simp;omega
     have e1:(Value.slice a len cap)=.slice a (((r.es.drop k).take len).map (frzE C.H 0)).length cap:=by rw[hl]
     rw[e1];unfold EI at hs;split at hs
     ·obtain⟨rfl,rfl⟩:=hs;have h0:len=0:=by omega
      subst h0;simp only[List.take_zero,Bu];exact .CQ 0 0 (fun _ _=>undef) (by simp) (fun hf=>by cases hf) (fun h0=>by simp at h0) (fun x e j p hx=>by simp at hx) (fun x e j p hx=>by simp at hx) (fun e he=>by simp at he)
     ·obtain⟨b,hb,rfl,_⟩:=hs;have hB:=hR.Gv i b r hb hr;obtain⟨c,fr,cv,m1,m2,m3,m4⟩:=hB.mem;have hget:∀ (x:Nat) e,((r.es.drop k).take len)[x]? = some e->r.es[k+x]? = some e:=fun x e he=>by
       rw[Av] at he;split at he
       ·rw[A8] at he;exact he
       ·cases he
      have hcell:∀ (x:Nat) e (j:Nat) p,(((r.es.drop k).take len).map (frzE C.H 0))[x]? = some e->e.cells[j]? = some p ->
        ∃ e0 p0,((r.es.drop k).take len)[x]? = some e0/\e0.cells[j]? = some p0/\p=Hx.frz C.H 0 p0:=fun x e j p hx hj=>by
       rw[Ao] at hx;obtain⟨e0,g1,rfl⟩:=Af.1 hx;have hj:(e0.cells.map (Hx.frz C.H 0))[j]? = some p:=hj;rw[Ao] at hj;obtain⟨p0,g2,g3⟩:=Af.1 hj;exact⟨e0,p0,g1,g2,g3.symm⟩
      refine .CQ b (k*r.s) (fun x j=>cv (k+x) j) (by omega) (fun hf=>by cases hf) (fun _=>⟨rfl,?_,hB.lt⟩) (fun x e j p hx hj => ?_) (fun x e j p hx hj => ?_) (fun e he => ?_)
      ·rintro (⟨y,hy⟩ | hf | ⟨hf,_⟩)
       ·simp only[Ctx.cut] at hy;split at hy
        ·omega
        ·cases hy
       ·exact hR.Iu _ _ hb hf
       ·exact hf
      ·obtain⟨e0,p0,g1,g2,_⟩:=hcell x e j p hx hj;obtain⟨q1,_⟩:=m4 (k+x) e0 j p0 (hget x e0 g1) g2;rw[show k*r.s+x*P.cellsOf r.t+j=(k+x)*r.s+j by rw[<- hB.sz,A9]];show C.w.cell? _=_
       rw[IF m1];exact q1
      ·obtain⟨e0,p0,g1,g2,rfl⟩:=hcell x e j p hx hj;exact ((m4 (k+x) e0 j p0 (hget x e0 g1) g2).2).frz hR (A4 _) ((hall e0 (Ag g1)).1 p0 (Ag g2))
      ·obtain⟨e0,g1,rfl⟩:=AW.1 he;exact (hall e0 g1).2
   ·exact hv.frz hR (A4 _)
  ·exact hv.frz hR (A4 _)
 ·exact hv.frz hR (A4 _)
end
noncomputable def runP2 (P:Program) (E:CO) (n:Nat) (f:FuncId) (args:List PV):Option PV:=
 Ds (EJ 0 args) (LU P (EU P E n) 0 f args [] fun p H'=>Ds (mlt 0 (frz2 P H' p)) (some (frz2 P H' p)))
theorem runP2_sound {P:Program} {E:CO} (hE:Ck P E.env) {n:Nat} {f:FuncId} {args:List PV} {p:PV} (h:runP2 P E n f args=some p):CV P f/\Da P f args p:=by
 obtain⟨hm,h⟩:=CP h;obtain⟨q,H2,hI,h2⟩:=Fl (Fa n) h;obtain⟨hq,h2⟩:=CP h2;cases h2;refine⟨Gi hI,fun C hR Vs hv => ?_⟩;have hRc:RH P (C.cut 0 True 0):=hR.cut (A4 _) (Ak _) (by simp[Dj]);have hvc:Cs P (C.cut 0 True 0) args Vs:=⟨hv.1,fun j c v h1 h2=>(hv.2 j c v h1 h2).cut (A4 _) (C5 hm h1)⟩;have g2:=(Fk hE (Ho hE n) (C:=C.cut 0 True 0) hRc rfl hvc hI).2;refine g2.mono ?_
 rintro e w' ⟨V,C',rfl,rfl,hc⟩
 refine⟨V,rfl,IL hc.ext,?_⟩;have hH2:=hc.H;subst hH2;have h1:=hc.rv.frz2 (ro:=C'.ro) hc.rh hq;have hx2:Ext (C.cut 0 True 0) (C'.cut 0 False C'.ro):=hc.ext.cut (A4 _) (A4 _) (A4 _);exact RV.back (Ci:=C'.cut 0 False C'.ro) (A4 _) hx2 h1 hq
def insQ (P:Program) (ks:List TypeId) (ro:Nat) (H:List Row) (f:Operand->PV):Op->Option (PV × List Row)
 | .insert T x k v=>(updQ P ks ro H T (f x) (f k) (f v)).map fun H'=>(.val undef,H')
 | _=>none
theorem insQ_sound {P:Program} {ks:List TypeId} (hks:∀ K,K ∈ ks->Gt P K) {ro:Nat} {H:List Row} {f:Operand->PV} {op:Op} {p:PV} {H':List Row} (h:insQ P ks ro H f op=some (p,H')):OprS P ro H f op p H'/\∀ x,rowAt H' x=rowAt H x:=by
 cases op <;> simp only[insQ,reduceCtorEq] at h
 case insert T x k v =>
  refine⟨fun C g o ho hro hH hR hv => ?_,mapQ_rows (op:=.mapUpdate T x k v) h⟩;subst hro;subst hH;obtain⟨q,hq,he⟩:=Af.1 h;cases he;obtain⟨C',h1,h2⟩:=updQ_sound hks hR (hv x (by simp[Op.operands])) (hv k (by simp[Op.operands])) (hv v (by simp[Op.operands])) hq;refine⟨_,undef,C',?_,.inr ⟨rfl,rfl⟩,h2,.val⟩;unfold execOp;simp only[ho,Sem.run_bind,h1,Result.andThen_ok];rfl
def CO.addIns (E:CO) (P:Program) (ks:List TypeId):CO:={ E with EP:=fun ro H f op=>match insQ P ks ro H f op with | some r=>some (.leaf r) | none=>E.EP ro H f op }
theorem Ck.addIns {P:Program} {E:CO} (hE:Ck P E.env) {ks:List TypeId} (hks:∀ K,K ∈ ks->Gt P K):Ck P (E.addIns P ks).env where
 G2:=hE.G2
 Gq:=hE.Gq
 Ff:=hE.Ff
 lo:=fun f fn b h1 h2=>FV.mono (E:=E.env) (E':=(E.addIns P ks).env) (fun _ _ _ _ _ _ _ h=>h) (hE.lo f fn b h1 h2)
 Ec:=hE.Ec
 F9:=hE.F9
 Ev:=fun ro H f T x k p H' h=>hE.Ev ro H f T x k p H' h
 EP:=fun ro H f op p H' h=>by
  change (match insQ P ks ro H f op with | some r=>some (DT.leaf r) | none=>E.EP ro H f op).bind DT.run=some (p,H') at h
  split at h
  ·rename_i r hr;have:r=(p,H'):=by simpa [DT.run] using h
   subst this;exact insQ_sound hks hr
  ·exact hE.EP ro H f op p H' h
end Go.Hx
namespace Go.Hx
open Go.ChangeShapes Go.WideShapes Go.RowKit

inductive Fit:PV->Prop
 | int {k:IntKind} {n:Int} (h:(Lit.int k n).wf=true):Fit (.val (.int k n))
 | bool {b:Bool}:Fit (.val (.bool b))
 | str {s:ByteArray} (h:s.size<=maxLen):Fit (.val (.string s))
 | CQ {f:Bool} {t:TypeId} {es:List PV} (hl:es.length<=maxLen) (h:∀ e,e ∈ es->∀ c,c ∈ e.cells->Fit c):Fit (.CQ f t es)

def Ctx.of (w:World):Ctx:={ ρ:=fun _=>none,H:=[],w:=w }
theorem glb_none {P:Program} {C:Ctx} (h:(List.range P.globals.size).all (fun g => !isLaid P g)=true):Glb P C:=fun g hl=>by
 have hg:g<P.globals.size:=by
  unfold isLaid at hl;split at hl
  ·rename_i G hG;exact (Aq.1 hG).1
  ·cases hl
 have:=Ap.1 h g (Bk.2 hg);rw[hl] at this;cases this
theorem of_rh (P:Program) (w:World) (hg:Glb P (Ctx.of w)):RH P (Ctx.of w):=
 ⟨fun _ _ _ h=>(by cases h),fun _ _ h=>(by cases h),fun _ _ _ h=>(by cases h),Ak _,fun _ _ h=>(by cases h),fun _ (h:False)=>h.elim,fun _ _ _ _ h=>(by cases h),hg⟩
theorem of_ban (w:World) (b:Nat):¬ (Ctx.of w).JZ b:=by
 rintro (⟨i,hi⟩ | hf)
 ·cases hi
 ·exact hf

theorem wtcs_append:∀ {k1 k2:List Kind} {p1 p2:List PV},DD k1 p1=true->DD k2 p2=true->DD (k1++k2) (p1++p2)=true
 | [],_,[],_,_,h=>h
 | [],_,_::_,_,h,_=>by simp[DD] at h
 | _::_,_,[],_,h,_=>by simp[DD] at h
 | k::ks,k2,p::ps,p2,h,g=>by
  simp only[DD,Aa,List.cons_append] at h ⊢;exact⟨h.1,wtcs_append h.2 g⟩

def Gp (P:Program) (w:World) (ks:List Kind) (cs:List Value) (ps:List PV):Prop:=
 ps.length=cs.length/\DD ks ps=true/\(∀ (j:Nat) p v,ps[j]? = some p->cs[j]? = some v->RV P (Ctx.of w) p v)/\∀ p,p ∈ ps->Fit p
theorem Gp.app {P:Program} {w:World} {k1 k2:List Kind} {c1 c2:List Value} {p1 p2:List PV} (h:Gp P w k1 c1 p1) (g:Gp P w k2 c2 p2):Gp P w (k1++k2) (c1++c2) (p1++p2):=by
 refine⟨by simp[h.1,g.1],wtcs_append h.2.1 g.2.1,fun j p v hp hv => ?_,fun p hp => ?_⟩
 ·rw[AL] at hp hv;rw[<- h.1] at hv;split at hp
  ·rename_i hj;rw[Ai hj] at hv;exact h.2.2.1 j p v hp hv
  ·rename_i hj;rw[An hj] at hv;exact g.2.2.1 _ p v hp hv
 ·rcases A5.1 hp with hp | hp
  ·exact h.2.2.2 p hp
  ·exact g.2.2.2 p hp

def cont:List (Nat × Nat × List Kind)->Nat->Nat->Bool
 | [],o,n=>o==n
 | (o',s,ks)::l,o,n=>o'==o&&ks.length==s&&cont l (o+s) n
theorem segs_ok {P:Program} {w:World} {cs:List Value}:∀ (l:List (Nat × Nat × List Kind)) (o:Nat),cont l o cs.length=true->(∀ x,x ∈ l->∃ ps,Gp P w x.2.2 ((cs.drop x.1).take x.2.1) ps) ->
  ∃ ps,Gp P w (l.flatMap fun x=>x.2.2) (cs.drop o) ps
 | [],o,h,_=>by
  simp only[cont,Aw] at h;subst h;exact⟨[],by simp,rfl,fun j p v hp=>(by simp at hp),fun p hp=>(by cases hp)⟩
 | (o',s,ks)::l,o,h,hx=>by
  simp only[cont,Aa,Aw] at h;obtain⟨⟨rfl,hs⟩,hc⟩:=h;obtain⟨p1,h1⟩:=hx (o',s,ks) (by simp);obtain⟨p2,h2⟩:=segs_ok l (o'+s) hc fun x hm=>hx x (by simp[hm])
  refine⟨p1++p2,?_⟩;have hsplit:cs.drop o'=(cs.drop o').take s++cs.drop (o'+s):=by
   rw[<- List.drop_drop];exact (List.take_append_drop s (cs.drop o')).symm
  rw[hsplit];exact h1.app h2

def Jc (P:Program):Nat->Nat->TypeId->Bool
 | 0,_,_=>false
 | _+1,0,_=>false
 | n+1,d+1,t =>
  match P.underlying t with
  | some (.int _)=>true
  | some .bool=>true
  | some .string=>true
  | some (.slice e)=>Jc P n 12 e&&decide (0<P.cellsOf e)&&(kinds P e).length==P.cellsOf e
  | some (.struct fs)=>fs.toList.all (fun f=>Jc P n d f.type)&&cont (fs.toList.map fun f=>(f.offset,P.cellsOf f.type,Dx P d f.type)) 0 (P.cellsOf t)
  | some (.array m e)=>Jc P n d e&&cont ((List.range m).map fun i=>(i*P.cellsOf e,P.cellsOf e,Dx P d e)) 0 (P.cellsOf t)
  | _=>false

def mkE (P:Program) (t:TypeId) (ps:List PV):PV:=if CX P t then .agg ps else ps.getD 0 .any
theorem mkE_cells {P:Program} {t:TypeId} {ks:List Kind} {ps:List PV} (h:DD ks ps=true) (hl:ks.length=P.cellsOf t) (h1:CX P t=false->P.cellsOf t=1):(mkE P t ps).cells=ps:=by
 unfold mkE;split
 ·rfl
 ·rename_i ha;have hl1:=h1 (by simpa using ha);have hp:=Ie h
  match ps,hp with
  | [p],_ =>
   match ks,h with
   | [k],h =>
    simp only[DD,BD] at h;show PV.cells p=[p]
    unfold JY at h;split at h <;> first | rfl | cases h
  | [],hp=>simp at hp;omega
  | _::_::_,hp=>simp at hp;omega

theorem Mk {w:World} {a:Addr} {n:Nat} {cs:List Value} (h:w.cells? 0 a n=some cs):cs.length=n/\∀ (x:Nat) v,cs[x]? = some v->w.cell? (a.add x)=some v:=by
 obtain⟨h1,h2,h3⟩:=World.cells?_some h;refine⟨by simpa using h2,fun x v hx => ?_⟩;have hlt:x<cs.length:=(Ad.1 hx).1;have:=h3 x (by omega);rw[this,<- hx]

section
variable {H:Type} {enc:TypeId × Value->H} {P:Program} {w:World} {sp:Nat->Bool} {held:Bool}
theorem trod_int1 {k:IntKind} {t:TypeId} (hu:P.underlying t=some (.int k)) {fuel:Nat} {cs:List Value} {x:DataW H × List MemPlace} (hx:DataW.trod enc P w 0 sp held fuel t cs=some x):∃ n,cs=[.int k n]/\(Lit.int k n).wf=true:=by
 cases fuel with
 | zero=>simp[DataW.trod] at hx
 | succ m =>
  unfold DataW.trod at hx;rw[hu] at hx;split at hx <;> simp_all
theorem trod_bool1 {t:TypeId} (hu:P.underlying t=some .bool) {fuel:Nat} {cs:List Value} {x:DataW H × List MemPlace} (hx:DataW.trod enc P w 0 sp held fuel t cs=some x):∃ b,cs=[.bool b]:=by
 cases fuel with
 | zero=>simp[DataW.trod] at hx
 | succ m =>
  unfold DataW.trod at hx;rw[hu] at hx;split at hx <;> simp_all
theorem trod_string1 {t:TypeId} (hu:P.underlying t=some .string) {fuel:Nat} {cs:List Value} {x:DataW H × List MemPlace} (hx:DataW.trod enc P w 0 sp held fuel t cs=some x):∃ s:ByteArray,cs=[.string s]/\s.size<=maxLen:=by
 cases fuel with
 | zero=>simp[DataW.trod] at hx
 | succ m =>
  unfold DataW.trod at hx;rw[hu] at hx;split at hx <;> simp_all
theorem JJ:∀ (n d:Nat) (t:TypeId),Jc P n d t=true->∀ (fuel:Nat) (cs:List Value) (x:DataW H × List MemPlace),DataW.trod enc P w 0 sp held fuel t cs=some x->∃ ps,Gp P w (Dx P d t) cs ps
 | 0,_,_,h=>fun _ _ _ _=>by simp[Jc] at h
 | n+1,0,_,h=>fun _ _ _ _=>by simp[Jc] at h
 | n+1,d+1,t,h=>by
  intro fuel cs x hx;have scalar:∀ {p:PV} {v:Value} {k:Kind},cs=[v]->Dx P (d+1) t=[k]->JY k p=true->RV P (Ctx.of w) p v->Fit p->∃ ps,Gp P w (Dx P (d+1) t) cs ps:=by
   intro p v k hc hk hw hr hf;subst hc;rw[hk];exact⟨[p],rfl,by simp[DD,hw],fun j q u h1 h2=>by
    match j with
    | 0=>simp at h1 h2;subst h1;subst h2;exact hr
    | j+1=>simp at h1
    ,fun q hq=>(by simp at hq;subst hq;exact hf)⟩
  unfold Jc at h;split at h
  ·rename_i k hu;obtain⟨n,hc,hwf⟩:=trod_int1 hu hx;exact scalar (k:=.int k) hc (by simp[Dx,hu]) (by simp[JY]) .val (.int hwf)
  ·rename_i hu;obtain⟨b,hc⟩:=trod_bool1 hu hx;exact scalar (k:=.bool) hc (by simp[Dx,hu]) rfl .val .bool
  ·rename_i hu;obtain⟨b,hc,hs⟩:=trod_string1 hu hx;exact scalar (k:=.str) hc (by simp[Dx,hu]) rfl .val (.str hs)
  ·rename_i e hu;simp only[Aa,Ab,Aw] at h;obtain⟨⟨he,hpos⟩,hlen⟩:=h;have hk:Dx P (d+1) t=[.sl e]:=by simp[Dx,hu]
   rcases DataW.trod_slice hu hx with ⟨rfl,_⟩ | ⟨a,len,cap,elems,rest,m,_,rfl,_,_,hl,hm,hlen2,hel,_,_⟩
   ·refine scalar rfl hk (p:=.CQ false e []) (by simp[JY]) ?_ (.CQ (A4 _) fun e' he'=>by cases he');exact .CQ (es:=[]) 0 0 (fun _ _=>undef) (Ak _) (fun h=>by cases h) (fun h=>by simp at h) (fun x e' j p h=>by simp at h) (fun x e' j p h=>by simp at h) (fun e' h=>by cases h)
   ·-- the elements
    have one1:CX P e=false->P.cellsOf e=1:=by
     intro ha;have:∀ D,Jc P n 12 e=true->CX P e=false->(Dx P 12 e).length=D->D=1:=by
      intro D hf ha hD;cases n with
      | zero=>simp[Jc] at hf
      | succ n' =>
       unfold Jc at hf;unfold CX at ha;split at hf <;> rename_i hu2 <;> simp_all [Dx]
     exact this _ he ha (by rw[<- hlen];rfl)
    have each:∀ i,i<len->∃ (cs':List Value) (ps:List PV),w.cells? 0 (a.add (i*P.cellsOf e)) (P.cellsOf e)=some cs'/\Gp P w (Dx P 12 e) cs' ps:=by
     intro i hi;have h1:=hel i hi;have h2:elems[i]? = some (elems[i]'(by omega)):=Ae _;rw[h2] at h1;obtain⟨cs',g1,g2⟩:=AE.1 h1;obtain⟨ps,g3⟩:=JJ n 12 e he _ _ _ g2;exact⟨cs',ps,g1,g3⟩
    have pick:∃ (F:Nat->List Value) (G:Nat->List PV),∀ i,i<len->w.cells? 0 (a.add (i*P.cellsOf e)) (P.cellsOf e)=some (F i)/\Gp P w (Dx P 12 e) (F i) (G i):=by
     have:∀ i,∃ y:List Value × List PV,i<len->w.cells? 0 (a.add (i*P.cellsOf e)) (P.cellsOf e)=some y.1/\Gp P w (Dx P 12 e) y.1 y.2:=by
      intro i;by_cases hi:i<len
      ·obtain⟨c,p,g1,g2⟩:=each i hi;exact⟨(c,p),fun _=>⟨g1,g2⟩⟩
      ·exact⟨([],[]),fun h=>absurd h hi⟩
     obtain⟨f,hf⟩:=Classical.axiomOfChoice this;exact⟨fun i=>(f i).1,fun i=>(f i).2,hf⟩
    obtain⟨F,G,hFG⟩:=pick;have hcells:∀ i,i<len->(mkE P e (G i)).cells=G i:=fun i hi=>mkE_cells (hFG i hi).2.2.1 hlen one1
    have hget:∀ (i:Nat) q,((List.range len).map fun i=>mkE P e (G i))[i]? = some q->i<len/\q=mkE P e (G i):=by
     intro i q hq;simp only[Ao,Af] at hq;obtain⟨j,hj,rfl⟩:=hq;have hjl:i<len:=by
      rcases Bo i len with h | h
      ·exact h
      ·rw[AD (by simpa using h)] at hj;cases hj
     rw[Ba hjl] at hj;cases hj;exact⟨hjl,rfl⟩
    have hspot:0<len->a.spot=none:=by
     intro h0;obtain⟨g1,g2⟩:=hFG 0 h0;obtain⟨q1,q2⟩:=Mk g1;have hc0:(F 0)[0]? = some ((F 0)[0]'(by omega)):=Ae _;have hz:=q2 0 _ hc0;rw[CJ,show (a.add 0).add 0=a from rfl] at hz;exact World.cell?_spot hz
    have hcell:∀ (i x:Nat) v,i<len->(F i)[x]? = some v->w.cell? ⟨a.block,a.off+i*P.cellsOf e+x,none⟩=some v:=by
     intro i x v hi hv;have hs:=hspot (by omega);have:=(Mk (hFG i hi).1).2 x v hv;obtain⟨b,off,spot⟩:=a;simp only at hs;subst hs;have ha:((⟨b,off,none⟩:Addr).add (i*P.cellsOf e)).add x=⟨b,off+i*P.cellsOf e+x,none⟩:=by
      unfold Addr.add;split <;> split <;> simp_all
     rw[ha] at this;exact this
    refine scalar rfl hk (p:=.CQ false e ((List.range len).map fun i=>mkE P e (G i))) (by simp[JY]) ?_ (.CQ (by simp;omega) fun e' he' c hc => ?_)
    ·have hRV:RV P (Ctx.of w) (.CQ false e ((List.range len).map fun i=>mkE P e (G i))) (.slice (some a) ((List.range len).map fun i=>mkE P e (G i)).length cap):=by
      refine .CQ a.block a.off (fun i j=>(F i).getD j undef) (by simpa using hl) (fun h=>by cases h) (fun h0 => ?_) (fun i q j p hq hj => ?_) (fun i q j p hq hj => ?_) (fun q hq => ?_)
      ·have h0':0<len:=by simpa using h0
       have hs:=hspot h0';refine⟨by obtain⟨b,off,spot⟩:=a;simp only at hs;subst hs;rfl,of_ban w _,?_⟩;obtain⟨g1,g2⟩:=hFG 0 h0';have hc0:(F 0)[0]? = some ((F 0)[0]'(by rw[(Mk g1).1];omega)):=Ae _;have:=hcell 0 0 _ h0' hc0;simp only[World.cell?] at this;split at this
       ·rename_i hb;exact (Aq.1 hb).1
       ·cases this
      ·obtain⟨hi,rfl⟩:=hget i q hq;rw[hcells i hi] at hj;have hjl:j<(F i).length:=by rw[<- (hFG i hi).2.1];exact (Ad.1 hj).1
       have hv:(F i)[j]? = some ((F i)[j]):=Ae hjl;show w.cell? _=_
       rw[hcell i j _ hi hv];simp[List.getD,hv]
      ·obtain⟨hi,rfl⟩:=hget i q hq;rw[hcells i hi] at hj;have hjl:j<(F i).length:=by rw[<- (hFG i hi).2.1];exact (Ad.1 hj).1
       have hv:(F i)[j]? = some ((F i)[j]):=Ae hjl;have:=(hFG i hi).2.2.2.1 j p _ hj hv;simpa [List.getD,hv] using this
      ·obtain⟨i,hiq⟩:=Bb hq;obtain⟨hi,rfl⟩:=hget i q hiq;simp only[wt,Aa,Aw];exact⟨by rw[hcells i hi];exact (hFG i hi).2.2.1,hlen⟩
     simpa using hRV
    ·obtain⟨i,hiq⟩:=Bb he';obtain⟨hi,rfl⟩:=hget i e' hiq;rw[hcells i hi] at hc;exact (hFG i hi).2.2.2.2 c hc
  ·rename_i fs hu;simp only[Aa,Ap] at h;obtain⟨xs,m,_,_,hl,hxs,hf⟩:=DataW.trod_struct hu hx;have:=segs_ok (P:=P) (w:=w) (cs:=cs) (fs.toList.map fun f=>(f.offset,P.cellsOf f.type,Dx P d f.type)) 0 (by rw[hl];exact h.2) fun y hy => ?_
   ·obtain⟨ps,hp⟩:=this;refine⟨ps,?_⟩;have hk:Dx P (d+1) t=(fs.toList.map fun f=>(f.offset,P.cellsOf f.type,Dx P d f.type)).flatMap fun x=>x.2.2:=by
     simp only[Dx,hu,List.flatMap_map]
    rw[hk];simpa using hp
   ·simp only[AW] at hy;obtain⟨f,hfm,rfl⟩:=hy;obtain⟨i,hi⟩:=Bb hfm;have hfi:fs[i]? = some f:=by simpa using hi
    have h1:=hf i f hfi;have hil:i<xs.length:=by rw[hxs];exact (Aq.1 hfi).1
    rw[Ae hil] at h1;exact JJ n d f.type (h.1 f hfm) _ _ _ h1
  ·rename_i m e hu;simp only[Aa] at h;obtain⟨xs,mm,_,_,hl,hxs,hf⟩:=DataW.trod_array hu hx;have:=segs_ok (P:=P) (w:=w) (cs:=cs) ((List.range m).map fun i=>(i*P.cellsOf e,P.cellsOf e,Dx P d e)) 0 (by rw[hl];exact h.2) fun y hy => ?_
   ·obtain⟨ps,hp⟩:=this;refine⟨ps,?_⟩;have hk:Dx P (d+1) t=((List.range m).map fun i=>(i*P.cellsOf e,P.cellsOf e,Dx P d e)).flatMap fun x=>x.2.2:=by
     simp only[Dx,hu,List.flatMap_map];rw[List.flatten_eq_flatMap];clear hp hf hxs hx;have:∀ (l:List Nat) (k:List Kind),(List.replicate l.length k).flatMap id=l.flatMap fun _=>k:=by
      intro l k;induction l with
      | nil=>rfl
      | cons a l ih=>simp only[Ay,List.replicate_succ,CN,id,ih]
     have h2:=this (List.range m) (Dx P d e);rwa [List.length_range] at h2
    rw[hk];simpa using hp
   ·simp only[AW,Bk] at hy;obtain⟨i,hi,rfl⟩:=hy;have h1:=hf i hi;rw[Ae (by rw[hxs];exact hi)] at h1;exact JJ n d e h.1 _ _ _ h1
  ·cases h
end
section
variable {H:Type} {enc:TypeId × Value->H} {P:Program} {w:World} {sp:Nat->Bool} {held:Bool} {base:Nat}
theorem arg_rv {t:TypeId} {v:Value} {d:DataW H} {p:List MemPlace} (hval:Value.okWide P w .any base t v) (h:DataW.Trod enc P w 0 sp held t v d p) (hf:Jc P 20 12 t=true):
  ∃ ps,DD (kinds P t) ps=true/\(∀ p,p ∈ ps->Fit p)/\RV P (Ctx.of w) (mkE P t ps) v:=by
 have hd:=h;obtain⟨fuel,hx⟩:=h;obtain⟨ps,h1,h2,h3,h4⟩:=JJ 20 12 t hf _ _ _ hx;refine⟨ps,h2,h4,?_⟩;have scalar:v.cells.toList=[v]->CX P t=false->RV P (Ctx.of w) (mkE P t ps) v:=by
  intro hc ha;rw[hc] at h1 h3
  match ps,h1 with
  | [q],_ =>
   have:=h3 0 q v rfl rfl;simpa [mkE,ha] using this
 unfold Jc at hf;split at hf
 ·rename_i k hu;obtain⟨n,rfl,_⟩:=open_int hu hval hd;exact scalar rfl (by simp[CX,hu])
 ·rename_i hu;obtain⟨b,rfl,_⟩:=open_bool hu hval hd;exact scalar rfl (by simp[CX,hu])
 ·rename_i hu;obtain⟨b,rfl⟩:=okWide_string hu hval;exact scalar rfl (by simp[CX,hu])
 ·rename_i e hu;obtain⟨a,len,cap,rfl⟩:=okWide_slice hu hval;exact scalar rfl (by simp[CX,hu])
 ·rename_i fs hu;obtain⟨cs,rfl,hl⟩:=okWide_struct hu hval;have ha:CX P t=true:=by simp[CX,hu]
  unfold mkE;rw[Ai ha];exact .agg (by simpa [Value.cells] using h1.symm) fun j c u g1 g2=>h3 j c u g1 (by simpa [Value.cells] using g2)
 ·rename_i m e hu;unfold Value.okWide at hval;rw[hu] at hval;obtain⟨cs,rfl,hl,_⟩:=hval;have ha:CX P t=true:=by simp[CX,hu]
  unfold mkE;rw[Ai ha];exact .agg (by simpa [Value.cells] using h1.symm) fun j c u g1 g2=>h3 j c u g1 (by simpa [Value.cells] using g2)
 ·cases hf
end
theorem Iw.below {w w':World} (h:Iw w w'):Below w.heap.size w w':=⟨h.os,h.tape,h.output,h.size,h.block⟩
theorem law_calls {P:Program} {k:FuncId} {args:List PV} {Vs:Array Value} {w:World} (h:Da P k args (.val (.bool true))) (hv:Cs P (Ctx.of w) args Vs) (hg:Glb P (Ctx.of w):=by exact glb_none (by decide +kernel)):Calls P k Vs w fun e w'=>e=.returned (.bool true)/\Below w.heap.size w w':=by
 refine (h (Ctx.of w) (of_rh P w hg) Vs hv).mono ?_
 rintro e w' ⟨V,rfl,hs,hrv⟩
 cases hrv;exact⟨rfl,hs.below⟩
end Go.Hx
