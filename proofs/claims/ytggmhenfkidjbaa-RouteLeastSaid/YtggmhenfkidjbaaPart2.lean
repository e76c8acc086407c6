import Derived.Test.YtggmhenfkidjbaaPart1
import Derived.RangeFuncRecord
import Derived.OrdersIn
import Derived.LoopNIn
import Derived.TacticsIn
namespace Go.Hx

def JN (H:List Row):PV->Option (Bool × TypeId × List PV)
 | .sl i n k len =>
  match rowAt H i with
  | some r=>if r.es.length=n then some (r.bv,r.t,(r.es.drop k).take len) else none
  | none=>none
 | .CQ _ t es=>some (true,t,es)
 | _=>none
def strSrc (P:Program) (T:TypeId) (y:PV):Option (Bool × TypeId × List PV):=
 match P.underlying T,y with
 | some (.slice e),.val (.string s)=>if byteT P e then some (true,e,Fb s) else none
 | _,_=>none
def zsl:PV->Bool
 | .val (.slice (some _) 0 _)=>true
 | _=>false
def Jj (P:Program) (T T2:TypeId) (H:List Row) (y:PV):Option (Bool × TypeId × List PV):=
 match P.underlying T2 with
 | some (.slice e)=>match zsl y with | true=>some (true,e,[]) | false=>JN H y
 | some .string=>strSrc P T y
 | _=>none

theorem wtc_cellish {k:Kind} {p:PV} (h:JY k p=true):Gc p=true:=by
 unfold JY at h;split at h <;> first | rfl | cases h
theorem My:∀ {ks:List Kind} {ps:List PV},DD ks ps=true->∀ p ∈ ps,Gc p=true
 | [],[],_,p,h=>by cases h
 | [],_::_,h,_,_=>by simp[DD] at h
 | _::_,[],h,_,_=>by simp[DD] at h
 | k::ks,q::ps,h,p,hp=>by
  simp only[DD,Aa] at h;rcases AK.1 hp with rfl | hp
  ·exact wtc_cellish h.1
  ·exact My h.2 p hp
theorem wt_cellish {P:Program} {t:TypeId} {e:PV} (h:wt P t e=true):∀ p ∈ e.cells,Gc p=true:=by
 simp only[wt,Aa] at h;exact My h.1

structure Src (P:Program) (C:Ctx) (s:Nat) (t:TypeId) (ty:Bool) (es:List PV) (V:Value) (vs:List Value):Prop where
 shape:∀ w,(Builtin.lenOf V).run P w=.ok es.length w
 first:∀ n,n=es.length->(Builtin.firstCells s n V).run P C.w=.ok vs.toArray C.w
 len:vs.length=es.length*s
 el:∀ e,e ∈ es->e.cells.length=s
 rel:∀ (k:Nat) e (j:Nat) p,es[k]? = some e->e.cells[j]? = some p->∃ v,vs[k*s+j]? = some v/\RV P C p v
 typed:ty=true->∀ e,e ∈ es->wt P t e=true

theorem cells_list {P:Program} {C:Ctx} {b off s:Nat} {es:List PV} (hl:∀ e,e ∈ es->e.cells.length=s)
  (h:∀ (k:Nat) e (j:Nat) p,es[k]? = some e->e.cells[j]? = some p->∃ v,C.w.cell? ⟨b,off+k*s+j,none⟩=some v/\RV P C p v):
  ∃ vs:List Value,vs.length=es.length*s/\(∀ (j:Nat) v,vs[j]? = some v->C.w.cell? ((⟨b,off,none⟩:Addr).add j)=some v) /\
   ∀ (k:Nat) e (j:Nat) p,es[k]? = some e->e.cells[j]? = some p->∃ v,vs[k*s+j]? = some v/\RV P C p v:=by
 refine⟨(List.range (es.length*s)).map fun x=>(C.w.cell? ⟨b,off+x,none⟩).getD undef,by simp,fun j v hj => ?_,fun k e j p h1 h2 => ?_⟩
 ·simp only[Ao,Af] at hj;obtain⟨x,hx,rfl⟩:=hj;have hlt:j<es.length*s:=by
   have:=(Ad.1 hx).1;simpa using this
  rw[Ba hlt] at hx;cases hx;rw[E3];have hs:0<s:=by
   rcases Cm s with h0 | h0
   ·subst h0;simp at hlt
   ·exact h0
  have hk:j / s<es.length:=(Cr hs).2 hlt;have he:=Ae hk;have hm:j % s<(es[j / s]).cells.length:=by rw[hl _ (Bl hk)];exact Nat.mod_lt _ hs
  obtain⟨v,g1,_⟩:=h (j / s) _ (j % s) _ he (Ae hm);have e2:off+j / s*s+j % s=off+j:=by
   have:=Nat.div_add_mod j s;rw[CI] at this;omega
  rw[e2] at g1;rw[g1];rfl
 ·obtain⟨v,g1,g2⟩:=h k e j p h1 h2;have hk:k<es.length:=(Ad.1 h1).1;have hj:j<s:=by
   rw[<- hl e (Ag h1)];exact (Ad.1 h2).1
  have hlt:k*s+j<es.length*s:=by
   have h5:(k+1)*s<=es.length*s:=AY _ hk;rw[A9,BJ] at h5;omega
  refine⟨v,?_,g2⟩;simp only[Ao,Ba hlt,AH,<- BT,g1];rfl

theorem J9 {P:Program} {C:Ctx} {x:PV} {X:Value} {ty:Bool} {t:TypeId} {es:List PV} (hR:RH P C) (hx:RV P C x X) (h:JN C.H x=some (ty,t,es)):
  ∃ vs,Src P C (P.cellsOf t) t ty es X vs:=by
 unfold JN at h;split at h
 ·rename_i i n k len;split at h
  ·rename_i r hr;split at h
   ·rename_i hn;cases h;cases hx with
    | sl hV hi hle hh =>
     obtain⟨hk,a,cap,rfl,hc,hs⟩:=hh r hr hn;have hlen:((r.es.drop k).take len).length=len:=by simp;omega
     unfold EI at hs;split at hs
     ·obtain⟨rfl,rfl⟩:=hs;have h0:len=0:=by omega
      subst h0;simp only[List.take_zero];exact⟨[],fun _=>rfl,fun n hn=>by subst hn;simp[Builtin.firstCells],by simp,fun e he=>by simp at he,fun k e j p h1=>by simp at h1,fun _ e he=>by simp at he⟩
     ·obtain⟨b,hb,rfl,c,e',fr,hh1,hh2,_⟩:=hs;have hB:=hR.Gv i b r hb hr;have hsz:=hB.sz;obtain⟨c0,fr0,cv,m1,m2,m3,m4⟩:=hB.mem;have hel:∀ e,e ∈ (r.es.drop k).take len->e.cells.length=r.s:=fun e he=>hB.len e (BI (BQ he))
      have hget:∀ (x:Nat) e,((r.es.drop k).take len)[x]? = some e->r.es[k+x]? = some e:=fun x e he=>by
       rw[Av] at he;split at he
       ·rw[A8] at he;exact he
       ·cases he
      obtain⟨vs,v1,v2,v3⟩:=cells_list (P:=P) (C:=C) (b:=b) (off:=k*r.s) hel (fun x e j p h1 h2=>by
       obtain⟨g1,g2⟩:=m4 (k+x) e j p (hget x e h1) h2;refine⟨_,?_,g2⟩;rw[IF m1,<- g1,A9])
      rw[<- hsz];refine⟨vs,fun _=>by rw[hlen];rfl,fun n hn => ?_,v1,hel,v3,fun hb e he=>hB.typed hb e (BI (BQ he))⟩;exact run_firstCells_some C.w r.s n _ len cap vs (by rw[v1,hn]) v2
   ·cases h
  ·cases h
 ·cases h;cases hx with
  | @CQ _ _ _ a cap b off cv hcap hfull hA hC hR' ht =>
   by_cases h0:es.length=0
   ·have:es=[]:=Bz h0;subst this;refine⟨[],fun _=>rfl,fun n hn => ?_,by simp,fun e he=>by simp at he,fun k e j p h1=>by simp at h1,fun _ e he=>by simp at he⟩;subst hn;cases a
    ·simp[Builtin.firstCells]
    ·simp[Builtin.firstCells,loadCells,loadCellsFrom]
   ·obtain⟨rfl,g2,g3⟩:=hA (by omega);obtain⟨vs,v1,v2,v3⟩:=cells_list (P:=P) (C:=C) (b:=b) (off:=off) (s:=P.cellsOf t) (fun e he=>wt_length (ht e he)) (fun x e j p h1 h2=>⟨_,hC x e j p h1 h2,hR' x e j p h1 h2⟩);refine⟨vs,fun _=>rfl,fun n hn => ?_,v1,fun e he=>wt_length (ht e he),v3,fun _=>ht⟩;exact run_firstCells_some C.w (P.cellsOf t) n _ es.length cap vs (by rw[v1,hn]) v2
 ·cases h

theorem LL {P:Program} {C:Ctx} {x:PV} {X:Value} {ty:Bool} {t T T2:TypeId} {es:List PV} (hR:RH P C) (hx:RV P C x X) (h:Jj P T T2 C.H x=some (ty,t,es)):
  ∃ vs,Src P C (P.cellsOf t) t ty es X vs:=by
 unfold Jj at h;split at h
 ·split at h
  ·rename_i hz;cases h;unfold zsl at hz;split at hz
   ·cases hx;exact⟨[],fun _=>rfl,fun n hn=>by subst hn;simp[Builtin.firstCells,loadCells,loadCellsFrom],by simp,fun e he=>by simp at he,fun k e j p h1=>by simp at h1,fun _ e he=>by simp at he⟩
   ·cases hz
  ·exact J9 hR hx h
 ·unfold strSrc at h;split at h
  ·rename_i e s _;split at h
   ·rename_i hb;obtain⟨_,b1,b2⟩:=J7 hb;cases h;cases hx;have hl:(Fb s).length=s.size:=by rw[Fb,A1];rfl
    refine⟨s.data.toList.map fun b=>.int .u8 (b.toNat:Int),fun _=>by rw[hl];rfl,fun n hn => ?_,by rw[b1,hl,A1,CH];rfl,fun e he => ?_,fun k e j p h1 h2 => ?_,fun _ e he => ?_⟩
    ·subst hn;rw[hl];have:s.extract 0 s.size=s:=by simp
     simp only[Builtin.firstCells,this,Sem.run_pure];congr 1
     apply Bs
     simp
    ·rw[b1];simp only[Fb,AW] at he;obtain⟨b,_,rfl⟩:=he;rfl
    ·simp only[Fb,Ao,Af] at h1;obtain⟨b,hb1,rfl⟩:=h1;have hj:j=0:=by
      have:=(Ad.1 h2).1;simpa [bytePV,PV.cells] using this
     subst hj;cases h2;refine⟨.int .u8 (b.toNat:Int),?_,.val⟩;rw[b1,CH,Bq,Ao,hb1];rfl
    ·simp only[Fb,AW] at he;obtain⟨b,_,rfl⟩:=he;exact byteT_wt b2 _
   ·cases h
  ·cases h
 ·cases h
theorem srcT_under {P:Program} {T T2:TypeId} {H:List Row} {y:PV} {q:Bool × TypeId × List PV} (h:Jj P T T2 H y=some q):(∃ e2,P.underlying T2=some (.slice e2))\/P.underlying T2=some .string:=by
 unfold Jj at h;split at h
 ·exact .inl ⟨_,by assumption⟩
 ·exact .inr (by assumption)
 ·cases h
def Gx (es:List PV):Bool:=es.all fun e=>e.cells.all Gc

def Es (P:Program) (ro:Nat) (H:List Row) (c:Call) (x y:PV):Option (PV × List Row):=
 match c.argTypes[0]?,c.argTypes[1]? with
 | some T,some T2 =>
  match P.underlying T,Jj P T T2 H y with
  | some (.slice e),some (ty,t,news) =>
   if known P e&&t==e&&(EL P e).any (fun z=>z.cells.size==P.cellsOf e)&&P.bytesOf e != 0&&(ty||Gx news) then
    match x with
    | .sl i n 0 len =>
     match rowAt H i with
     | some r =>
      if ro<=i/\r.es.length=n/\n=len/\(n+news.length)*P.bytesOf e<=140737488355328 then
       if r.t==e&&r.s==P.cellsOf e && !r.fz then
        some (.sl i (n+news.length) 0 (n+news.length),H.set i { r with es:=r.es++news,bv:=r.bv&&ty,nl:=r.nl&&news.isEmpty }) else none
      else none
     | none=>none
    | .val (.slice none 0 0) =>
     if news.length*P.bytesOf e<=140737488355328 then
      if news.isEmpty then some (x,H) else some (.sl H.length news.length 0 news.length,H++[{ es:=news,s:=P.cellsOf e,t:=e,bv:=ty }]) else none
    | .CQ true t2 es =>
     if t2==e then
      if (es.length+news.length)*P.bytesOf e<=140737488355328 then
       if news.isEmpty then some (x,H) else some (.sl H.length (es.length+news.length) 0 (es.length+news.length),H++[{ es:=es++news,s:=P.cellsOf e,t:=e,bv:=ty }]) else none
     else none
    | _=>none
   else none
  | _,_=>none
 | _,_=>none

section
variable {P:Program} {T T2 e:TypeId} {i:TypeInfo} {z Y:Value} {n cap m:Nat} {a:Option Addr} {ts:Array TypeId}
theorem run_append_grow' (w:World) (hT:ts[0]? = some T) (hT2:ts[1]? = some T2) (hu:P.underlying T=some (.slice e)) (hu2:(∃ e2,P.underlying T2=some (.slice e2))\/P.underlying T2=some .string) (hY:∀ w,(Builtin.lenOf Y).run P w=.ok m w) (hi:P.info? e=some i) (hz:i.zero=some z)
  (hb:i.bytes ≠ 0) (hbig:(n+m)*i.bytes<=140737488355328) (hg:cap<n+m) (ty:TypeId):
  (Builtin.append_ ts ty #[.slice a n cap,Y]).run P w=((Builtin.firstCells i.size n (.slice a n cap)).run P w.drew).andThen fun old w1 =>
   ((Builtin.firstCells i.size m Y).run P w1).andThen fun new w2 =>
    .ok (.slice (some ⟨w2.heap.size,0,none⟩) (n+m) (grownCap w (n+m) cap e)) (w2.alloc (.cells (old++new++Builtin.zeroCells z.cells (grownCap w (n+m) cap e-(n+m))) e)):=by
 have hfit:=growslice_fits hg hbig;have hb':¬ (Builtin.nextslicecap (n+m) cap*i.bytes > 281474976710656):=by omega
 have hf:(Question.appendCap (n+m) cap e).forced=false:=rfl;rcases hu2 with ⟨e2,hu2⟩ | hu2 <;>
 ·simp only[Builtin.append_,hT,hT2,Bt,AV,BH,Sem.run_bind,run_underlying hu,run_underlying hu2,Result.andThen_ok,sizeOf,typeInfo,run_program,hi,Sem.run_pure,hY,
   BU,BO,A2,B5,Dk]
  rw[An (by omega)];simp only[Sem.run_bind,Sem.run_pure,Result.andThen_ok,run_program,hi,hb,and_false,B5];rw[An (by omega)];simp only[Sem.run_bind,run_choose,hf,A2,B5,Result.andThen_ok,run_askRoom,zeroValue,typeInfo,run_program,hi,hz,Sem.run_pure,newRow,run_newObj];rfl

theorem run_append_room' (w:World) (hT:ts[0]? = some T) (hT2:ts[1]? = some T2) (hu:P.underlying T=some (.slice e)) (hu2:(∃ e2,P.underlying T2=some (.slice e2))\/P.underlying T2=some .string) (hY:∀ w,(Builtin.lenOf Y).run P w=.ok m w) (hi:P.info? e=some i)
  (hg:n+m<=cap) (ty:TypeId):
  (Builtin.append_ ts ty #[.slice a n cap,Y]).run P w=((Builtin.firstCells i.size m Y).run P w).andThen fun new w1 =>
   match a with
   | some ad=>((storeCells (ad.add (n*i.size)) new.toList).run P w1).andThen fun _ w2=>.ok (.slice a (n+m) cap) w2
   | none=>.ok (.slice a (n+m) cap) w1:=by
 rcases hu2 with ⟨e2,hu2⟩ | hu2 <;>
 ·simp only[Builtin.append_,hT,hT2,Bt,AV,BH,Sem.run_bind,run_underlying hu,run_underlying hu2,Result.andThen_ok,sizeOf,typeInfo,run_program,hi,Sem.run_pure,hY,
   BU,BO,A2,B5]
  rw[Ai hg];cases a <;> simp
end

structure GZ (P:Program) (C:Ctx) (s:Nat) (es:List PV) (vs:List Value):Prop where
 len:vs.length=es.length*s
 el:∀ e,e ∈ es->e.cells.length=s
 rel:∀ (k:Nat) e (j:Nat) p,es[k]? = some e->e.cells[j]? = some p->∃ v,vs[k*s+j]? = some v/\RV P C p v
theorem Src.rel3 {P:Program} {C:Ctx} {s:Nat} {t:TypeId} {ty:Bool} {es:List PV} {V:Value} {vs:List Value} (h:Src P C s t ty es V vs):GZ P C s es vs:=⟨h.len,h.el,h.rel⟩
theorem GZ.app {P:Program} {C:Ctx} {s:Nat} {es fs:List PV} {vs us:List Value} (h:GZ P C s es vs) (k:GZ P C s fs us):GZ P C s (es++fs) (vs++us):=by
 refine⟨by simp[h.len,k.len,Nat.add_mul],fun e he => ?_,fun x e j p h1 h2 => ?_⟩
 ·rcases A5.1 he with he | he
  ·exact h.el e he
  ·exact k.el e he
 ·rw[AL] at h1;split at h1
  ·rename_i hx;obtain⟨v,g1,g2⟩:=h.rel x e j p h1 h2;refine⟨v,?_,g2⟩;rw[AL,Ai (Ad.1 g1).1];exact g1
  ·rename_i hx;obtain⟨v,g1,g2⟩:=k.rel _ e j p h1 h2;refine⟨v,?_,g2⟩;have h5:es.length*s<=x*s:=AY _ (by omega);rw[AL,An (by rw[h.len];omega),h.len];rw[Nat.sub_mul] at g1;rw[<- g1];congr 1
   omega
theorem GZ.mono {P:Program} {C C':Ctx} {s:Nat} {es:List PV} {vs:List Value} (h:GZ P C s es vs) (hx:Ext C C'):GZ P C' s es vs:=
 ⟨h.len,h.el,fun k e j p h1 h2=>let ⟨v,g1,g2⟩:=h.rel k e j p h1 h2; ⟨v,g1,g2.mono hx⟩⟩

theorem GZ.rb {P:Program} {C:Ctx} {b:Nat} {r:Row} {vs:List Value} {c:Array Value} {fr:Nat × Nat} (h:GZ P C r.s r.es vs) (hs:r.s=P.cellsOf r.t) (hb:C.w.heap[b]? = some (.cells c r.t fr))
  (hf:r.fz=false->∀ off,off<c.size->(decide (fr.1<=off)&&decide (off<fr.2))=false) (hc:∀ (j:Nat) v,vs[j]? = some v->c[j]? = some v) (ht:r.bv=true->∀ e,e ∈ r.es->wt P r.t e=true):RB P C b r:=by
 refine⟨hs,⟨c,fr,fun k j=>c.getD (k*r.s+j) undef,hb,hf,?_,fun k e j p h1 h2 => ?_⟩,h.el,ht⟩
 ·rw[<- h.len];rcases Cm vs.length with h0 | h0
  ·omega
  ·have:vs[vs.length-1]? = some (vs[vs.length-1]):=Ae (by omega);have:=(Aq.1 (hc _ _ this)).1;omega
 ·obtain⟨v,g1,g2⟩:=h.rel k e j p h1 h2;have g3:=hc _ _ g1;have e2:c.getD (k*r.s+j) undef=v:=by rw[Bg,g3];rfl
  simp only[e2];exact⟨g3,g2⟩

theorem rows_ne {C:Ctx} {i x:Nat} {r r':Row} (hr:C.row? i=some r) (h1:C.H[x]? = some r') (h3:r'.live=false):x ≠ i:=fun e=>by
 subst e;have:C.row? x=none:=by unfold Ctx.row? rowAt;rw[h1];simp[h3]
 rw[this] at hr;cases hr
theorem setRow_turn {P:Program} {C:Ctx} (hR:RH P C) {i:Nat} {r r2:Row} (hi:i<C.H.length) (hro:C.ro<=i) (hr:C.row? i=some r) (hl:r2.live=true) (he:r2.es=r.es) (hs:r2.s=r.s) (ht:r2.t=r.t) (hn:r2.nl=r.nl) (hb:r2.bv=true->r.bv=true) (hz:r2.fz=false->r.fz=false:=by simp):
  Iv P C { C with H:=C.H.set i r2 } (C.H.set i r2):=by
 have hx:Ext C { C with H:=C.H.set i r2 }:=by
  refine⟨rfl,rfl,rfl,Ak _,fun _ _ _=>rfl,fun _ c _ fr h=>⟨c,fr,h,rfl⟩,by simp,fun x r' hxl hr' => ?_,fun _ h=>.inl h,fun _ h=>.inl h,rfl,rfl,fun x hx=>⟨by show (C.H.set i r2)[x]? = _;rw[Au,An (by omega)],rfl⟩,
   fun x r' info h1 h2 h3=>⟨⟨r',info.st,by show (C.H.set i r2)[x]? = _;rw[Au,An (fun e=>rows_ne hr h1 h3 e.symm)];exact h1,h2,h3⟩,fun _ h=>h⟩,fun _ rec h=>⟨rec,h⟩⟩
  have h1:rowAt (C.H.set i r2) x=some r':=hr';rw[DX hi hl] at h1;split at h1
  ·rename_i e;subst e;cases h1;exact⟨r,hr,hs.symm,ht.symm,by rw[he];exact Ak _,fun _=>⟨hn.symm,fun _ h=>h⟩⟩
  ·exact⟨r',h1,rfl,rfl,Ak _,fun _=>⟨rfl,fun _ h=>h⟩⟩
 refine⟨rfl,hx,hR.inj,fun x b h => ?_,fun x b r' h1 h2 => ?_,by simpa using hR.ro,hR.Iu,hR.JL,fun x b r' info h1 h2 h3 h4 => ?_,hR.K5.mono hx⟩
 ·by_cases hxi:x=i
  ·refine .inl ?_;show ∃ q,rowAt (C.H.set i r2) x=some q
   rw[DX hi hl,Ai hxi];exact⟨_,rfl⟩
  ·rcases hR.KJ x b h with ⟨q,hq⟩ | ⟨q,info,h1,h2,h3⟩
   ·exact .inl ⟨q,by show rowAt (C.H.set i r2) x=some q;rw[DX hi hl,An hxi];exact hq⟩
   ·exact .inr ⟨q,info,by show (C.H.set i r2)[x]? = _;rw[Au,An (fun e=>hxi e.symm)];exact h1,h2,h3⟩
 ·have h3:rowAt (C.H.set i r2) x=some r':=h2;rw[DX hi hl] at h3;split at h3
  ·rename_i e;subst e;cases h3;have hB:=hR.Gv x b r h1 hr;obtain⟨c,fr,cv,m1,m2,m3,m4⟩:=hB.mem;exact⟨by rw[hs,ht];exact hB.sz,⟨c,fr,cv,by rw[ht];exact m1,fun q=>m2 (hz q),by rw[he,hs];exact m3,fun k e j p q1 q2=>by rw[he] at q1;rw[hs];exact⟨(m4 k e j p q1 q2).1,(m4 k e j p q1 q2).2.mono hx⟩⟩,
    fun e q=>by rw[he] at q;rw[hs];exact hB.len e q,fun q e q2=>by rw[he] at q2;rw[ht];exact hB.typed (hb q) e q2⟩
  ·exact (hR.Gv x b r' h1 h3).mono hx rfl
 ·have hxi:x ≠ i:=fun e=>by
   subst e;have h2':(C.H.set x r2)[x]? = some r':=h2;rw[Au,Ai rfl,Ai hi] at h2';cases h2';rw[hl] at h4;cases h4
  have h2':(C.H.set i r2)[x]? = some r':=h2;rw[Au,An (fun e=>hxi e.symm)] at h2';exact (hR.Hw x b r' info h1 h2' h3 h4).mono hx rfl

def Ctx.more (C:Ctx) (r:Row):Ctx:={ C with H:=C.H++[r] }
theorem DE {H:List Row} {r:Row} {x:Nat} (h:x<H.length):rowAt (H++[r]) x=rowAt H x:=by
 unfold rowAt;rw[As h]
theorem EM {P:Program} {C:Ctx} (hR:RH P C) (r:Row):Ext C (C.more r):=
 ⟨rfl,rfl,rfl,Ak _,fun _ _ _=>rfl,fun _ c _ fr h=>⟨c,fr,h,rfl⟩,by simp[Ctx.more],fun x r' hx h=>⟨r',by rw[<- h];exact (DE hx).symm,rfl,rfl,Ak _,fun _=>⟨rfl,fun _ h=>h⟩⟩,fun _ h=>.inl h,fun _ h=>.inl h,rfl,rfl,fun x hx=>⟨As (by have:=hR.ro;omega),rfl⟩,
  fun x r' info h1 h2 h3=>⟨⟨r',info.st,by rw[<- h1];exact As (Ad.1 h1).1,h2,h3⟩,fun _ h=>h⟩,fun _ rec h=>⟨rec,h⟩⟩
theorem RH.Ka {P:Program} {C:Ctx} (h:RH P C) {i b:Nat} (hi:C.ρ i=some b):i<C.H.length:=by
 rcases h.KJ i b hi with ⟨r,hr⟩ | ⟨r,info,h1,_⟩
 ·exact Ek hr
 ·exact (Ad.1 h1).1
theorem RH.Gd {P:Program} {C:Ctx} (h:RH P C) {i:Nat} (hi:C.H.length<=i):C.ρ i=none:=by
 cases hh:C.ρ i with
 | none=>rfl
 | some b=>have:=h.Ka hh;omega
theorem GN {P:Program} {C:Ctx} (h:RH P C) (r:Row):RH P (C.more r):=by
 refine⟨h.inj,fun i b hi => ?_,fun i b r' h1 h2 => ?_,by have:=h.ro;simp[Ctx.more];omega,h.Iu,h.JL,fun i b r' info h1 h2 h3 h4 => ?_,h.K5.mono (EM h r)⟩
 ·rcases h.KJ i b hi with ⟨q,hq⟩ | ⟨q,info,h1,h2,h3⟩
  ·exact .inl ⟨q,by rw[<- hq];exact DE (h.Ka hi)⟩
  ·exact .inr ⟨q,info,by rw[<- h1];exact As (h.Ka hi),h2,h3⟩
 ·have h3:rowAt (C.H++[r]) i=some r':=h2;rw[DE (h.Ka h1)] at h3;exact (h.Gv i b r' h1 h3).mono (EM h r) rfl
 ·have h2':(C.H++[r])[i]? = some r':=h2;rw[As (h.Ka h1)] at h2';exact (h.Hw i b r' info h1 h2' h3 h4).mono (EM h r) rfl

theorem new_row {P:Program} {C:Ctx} (hR:RH P C) {t:TypeId} {es:List PV} {ty:Bool} {vs:List Value} {c:Array Value} {cap:Nat} (h:GZ P C (P.cellsOf t) es vs) (hc:∀ (j:Nat) v,vs[j]? = some v->c[j]? = some v)
  (ht:ty=true->∀ e,e ∈ es->wt P t e=true) (hcap:es.length<=cap) (hcs:cap*P.cellsOf t<=c.size):
  Iv P C ((C.more { es,s:=P.cellsOf t,t,bv:=ty }).bind C.H.length (.cells c t)) (C.H++[{ es,s:=P.cellsOf t,t,bv:=ty }]) /\
   RV P ((C.more { es,s:=P.cellsOf t,t,bv:=ty }).bind C.H.length (.cells c t)) (.sl C.H.length es.length 0 es.length) (.slice (some ⟨C.w.heap.size,0,none⟩) es.length cap):=by
 generalize hr:({ es,s:=P.cellsOf t,t,bv:=ty }:Row)=r;have hrow:(C.more r).row? C.H.length=some r:=by
  show rowAt (C.H++[r]) C.H.length=some r
  unfold rowAt;simp[<- hr]
 have hρ:(C.more r).ρ C.H.length=none:=hR.Gd (Ak _);have hx1:=EM hR r;have hx2:=Ctx.Ga (C:=C.more r) hρ hR.ro (.cells c t);have hB:RB P ((C.more r).bind C.H.length (.cells c t)) C.w.heap.size r:=by
  subst hr;exact GZ.rb (h.mono (hx1.trans hx2)) rfl (heap_alloc_new C.w _) (fun _ off _=>by simp) hc ht
 refine⟨⟨rfl,hx1.trans hx2,?_⟩,?_⟩
 ·have hR1:=GN hR r;refine⟨fun x y b h1 h2 => ?_,fun x b h1 => ?_,fun x b r' h1 h2 => ?_,hR1.ro,fun x b hx => ?_,fun b hb=>Ax (hR.JL b hb) (hx1.trans hx2).size,fun x b r' info h1 h2 h3 h4 => ?_,hR.K5.mono (hx1.trans hx2)⟩
  ·simp only[Ctx.bind] at h1 h2;split at h1 <;> split at h2
   ·omega
   ·cases h1;have:=hR1.lt h2;simp only[Ctx.more] at this;omega
   ·cases h2;have:=hR1.lt h1;simp only[Ctx.more] at this;omega
   ·exact hR1.inj x y b h1 h2
  ·simp only[Ctx.bind] at h1;split at h1
   ·rename_i e;subst e;exact .inl ⟨r,hrow⟩
   ·exact hR1.KJ x b h1
  ·simp only[Ctx.bind] at h1;split at h1
   ·rename_i e;subst e;cases h1;have e2:r'=r:=Ah ((show (C.more r).row? C.H.length=some r' from h2).symm.trans hrow);subst e2;exact hB
   ·have hb:=hR1.Gv x b r' h1 h2;exact hb.mono hx2 (AT C.w _ hb.lt)
  ·simp only[Ctx.bind] at hx ⊢;split at hx
   ·cases hx;exact fun hf=>CY _ (hR1.JL _ hf)
   ·exact hR1.Iu x b hx
  ·simp only[Ctx.bind] at h1;have hxi:x ≠ C.H.length:=rows_ne (C:=C.more r) hrow h2 h4;rw[An hxi] at h1;have hb:=hR1.Hw x b r' info h1 h2 h3 h4;exact hb.mono hx2 (AT C.w _ hb.lt)
 ·have key:∀ r',((C.more r).bind C.H.length (.cells c t)).row? C.H.length=some r'->r'=r:=fun r' h2=>Ah ((show (C.more r).row? C.H.length=some r' from h2).symm.trans hrow)
  refine .sl ⟨_,_,rfl⟩ (by simp[Ctx.bind,Ctx.more]) (fun r' hr' => ?_) fun r' hr' _ => ?_
  ·rw[key r' hr',<- hr];exact Ak _
  ·rw[key r' hr'];refine⟨by omega,_,_,rfl,hcap,?_⟩;unfold EI;rw[An (by simp[<- hr])];refine⟨C.w.heap.size,by simp[Ctx.bind,Ctx.more],by simp,c,t,(0,0),heap_alloc_new C.w _,?_,by rw[AN,<- hr];exact hcap⟩;subst hr;simpa using hcs

theorem getElem?_app3 {old new rest:Array Value} {vs us:List Value} (ho:old=vs.toArray) (hn:new=us.toArray):∀ (j:Nat) v,(vs++us)[j]? = some v->(old++new++rest)[j]? = some v:=by
 intro j v h;subst ho;subst hn;rw[<- AI];simp only[Array.toList_append];rw[AL,Ai (Ad.1 h).1];exact h

theorem size_app3 {P:Program} {C:Ctx} {t:TypeId} {es fs:List PV} {vs us:List Value} {z:Value} {cap:Nat} (h:GZ P C (P.cellsOf t) es vs) (k:GZ P C (P.cellsOf t) fs us) (hz:z.cells.size=P.cellsOf t) (hc:es.length+fs.length<=cap):
  cap*P.cellsOf t<=(vs.toArray++us.toArray++Builtin.zeroCells z.cells (cap-(es.length+fs.length))).size:=by
 simp only[Array.size_append,List.size_toArray,size_zeroCells,h.len,k.len,hz,<- A9];rw[show es.length+fs.length+(cap-(es.length+fs.length))=cap by omega];exact Ak _

theorem FA {P:Program} {C:Ctx} {c:Call} {x y p:PV} {X Y:Value} {H':List Row} (hR:RH P C) (hx:RV P C x X) (hy:RV P C y Y) (h:Es P C.ro C.H c x y=some (p,H')) (ty0:TypeId):
  ∃ v C',(Builtin.append_ c.argTypes ty0 #[X,Y]).run P C.w=.ok v C'.w/\Iv P C C' H'/\RV P C' p v/\∀ i n k l,x=.sl i n k l->∀ z,z ≠ i->C'.ρ z=C.ρ z:=by
 unfold Es at h;split at h
 ·rename_i T T2 hT hT2;split at h
  ·rename_i e ty t news hu hsrc;have hu2:=srcT_under hsrc;split at h
   ·rename_i hc;simp only[Aa,Aw,bne_iff_ne] at hc;obtain⟨⟨⟨⟨hk,rfl⟩,hz⟩,hby⟩,hcell⟩:=hc;obtain⟨i,d,hinfo,hd,hsz⟩:=Fz hk;obtain⟨z,hz,hzs⟩:∃ z,EL P t=some z/\z.cells.size=P.cellsOf t:=by
     cases hzz:EL P t with
     | none=>simp[hzz] at hz
     | some z=>exact⟨z,rfl,by simpa [hzz] using hz⟩
    have hiz:i.zero=some z:=by simpa [EL,hinfo] using hz
    have hib:P.bytesOf t=i.bytes:=by simp[Program.bytesOf,hinfo]
    rw[hib] at hby h;obtain⟨us,hS⟩:=LL hR hy hsrc;have hS1:=LL (C:=C.dr) (Lo hR) (hy.mono (Fw C)) hsrc;obtain⟨us1,hS1⟩:=hS1;have hY:=hS.shape
    -- growing,out of a source
    have grow:∀ {es:List PV} {vs:List Value} {a:Option Addr} {cap:Nat},GZ P C.dr (P.cellsOf t) es vs->(Builtin.firstCells i.size es.length (.slice a es.length cap)).run P C.dr.w=.ok vs.toArray C.dr.w ->
      cap<es.length+news.length->(es.length+news.length)*i.bytes<=140737488355328 ->
      ∃ cc nc,(Builtin.append_ c.argTypes ty0 #[.slice a es.length cap,Y]).run P C.w=.ok (.slice (some ⟨C.w.heap.size,0,none⟩) (es.length+news.length) nc) (C.w.drew.alloc (.cells cc t)) /\
       (∀ (j:Nat) v,(vs++us1)[j]? = some v->cc[j]? = some v)/\es.length+news.length<=nc/\nc*P.cellsOf t<=cc.size:=by
     intro es vs a cap hr3 hf hg hb;have hrun:=run_append_grow' (P:=P) (n:=es.length) (cap:=cap) (m:=news.length) (Y:=Y) (a:=a) C.w hT hT2 hu hu2 hY hinfo hiz hby hb hg ty0;have hf2:=hS1.first news.length rfl
     rw[hsz] at hf2;have e1:(Builtin.firstCells i.size es.length (.slice a es.length cap)).run P C.w.drew=.ok vs.toArray C.w.drew:=hf;have e2:(Builtin.firstCells i.size news.length Y).run P C.w.drew=.ok us1.toArray C.w.drew:=hf2;rw[e1] at hrun;simp only[Result.andThen_ok,e2] at hrun;refine⟨_,_,hrun,getElem?_app3 rfl rfl,grownCap_ge C.w _ _ _,?_⟩;exact size_app3 hr3 hS1.rel3 hzs (grownCap_ge C.w _ _ _)
    split at h
    ·-- a row
     rename_i ii n len;split at h
     ·rename_i r hr;split at h
      ·rename_i hc2;obtain⟨hro,hn,rfl,hbig⟩:=hc2;split at h
       ·rename_i hc3;simp only[Aa,Aw,Al] at hc3;obtain⟨⟨hrt,hrs⟩,hfz⟩:=hc3;cases h;have hxs:JN C.H (.sl ii n 0 n)=some (r.bv,r.t,r.es):=by
         simp only[JN,hr,hn,BO,AM];rw[<- hn,Be]
        have hlive:r.live=true:=by
         unfold rowAt at hr;split at hr
         ·split at hr
          ·rename_i hlv;cases hr;exact hlv
          ·cases hr
         ·cases hr
        have hxc:=hx;cases hx with
        | sl hV hi hle hh =>
         obtain⟨_,a,cap,rfl,hcap,hs⟩:=hh r hr hn;subst hn;by_cases hm:news.length=0
         ·-- nothing is appended
          have hnil:news=[]:=Bz hm;subst hnil;have hrun:=run_append_room' (P:=P) (n:=r.es.length) (cap:=cap) (m:=0) (Y:=Y) (a:=a) C.w hT hT2 hu hu2 hY hinfo (by omega) ty0;have hf:=hS.first 0 rfl
          rw[hsz] at hf;have hus:us=[]:=Bz (by simpa using hS.len);subst hus;have hf':(Builtin.firstCells i.size 0 Y).run P C.w=.ok #[] C.w:=hf;rw[hf'] at hrun;simp only[Result.andThen_ok,storeCells,Sem.run_pure,Bq] at hrun;have hT2':=setRow_turn (r2:={ r with es:=r.es++[],bv:=r.bv&&ty,nl:=r.nl&&([]:List PV).isEmpty }) hR hi hro hr hlive (by simp) rfl rfl (by simp) (fun hb=>by simp only[Aa] at hb;exact hb.1);refine⟨.slice a r.es.length cap,_,?_,hT2',?_,fun _ _ _ _ _ _ _=>rfl⟩
          ·show (Builtin.append_ c.argTypes ty0 #[.slice a r.es.length cap,Y]).run P C.w=_
           rw[hrun];cases a <;> rfl
          ·exact hxc.mono hT2'.ext
         ·-- something is
          have hnl:(r.nl&&news.isEmpty)=false:=by
           cases news with
           | nil=>simp at hm
           | cons _ _=>simp
          have hne:r.es.length ≠ (r.es++news).length:=by rw[Ar];omega
          obtain⟨vs1,hD1⟩:=J9 (C:=C.dr) (Lo hR) (hxc.mono (Fw C)) hxs;rw[hrt] at hD1;have tyd:(r.bv&&ty)=true->∀ e,e ∈ r.es++news->wt P t e=true:=fun hb e he=>by
           simp only[Aa] at hb;rcases A5.1 he with he | he
           ·exact hD1.typed hb.1 e he
           ·exact hS.typed hb.2 e he
          by_cases hroom:r.es.length+news.length<=cap
          ·-- in place
           unfold EI at hs;split at hs
           ·omega
           ·obtain⟨b,hb,rfl,c0,e0,fr0,hh1,hh2,_⟩:=hs;have hB:=hR.Gv ii b r hb hr;obtain⟨c1,fr,cv,m1,m2,m3,m4⟩:=hB.mem;rw[m1] at hh1;obtain⟨rfl,rfl,rfl⟩:c1=c0/\r.t=e0/\fr=fr0:=by cases hh1;exact⟨rfl,rfl,rfl⟩
            have hD:GZ P C (P.cellsOf t) r.es (c1.toList.take (r.es.length*P.cellsOf t)):=by
             rw[<- hrs];refine⟨by rw[Az,CA];exact Nat.min_eq_left m3,hB.len,fun k e j p q1 q2 => ?_⟩;have hkl:=(Ad.1 q1).1;have hjl:j<r.s:=by rw[<- hB.len e (Ag q1)];exact (Ad.1 q2).1
             have h5:(k+1)*r.s<=r.es.length*r.s:=AY _ hkl;rw[A9,BJ] at h5;obtain⟨w1,w2⟩:=m4 k e j p q1 q2;exact⟨_,by rw[Av,Ai (by omega),AI];exact w1,w2⟩
            have hone:∀ v ∈ us,v.oneCell'=true:=fun v hv=>by
             obtain⟨j,hj⟩:=Bb hv;have hlt:j<news.length*P.cellsOf t:=by rw[<- hS.len];exact (Ad.1 hj).1
             have hs0:0<P.cellsOf t:=by
              rcases Cm (P.cellsOf t) with h0 | h0
              ·rw[h0] at hlt;simp at hlt
              ·exact h0
             have hkk:j / P.cellsOf t<news.length:=(Cr hs0).2 hlt;have he:=Ae hkk;have hmem:=Bl hkk;have hmm:j % P.cellsOf t<(news[j / P.cellsOf t]).cells.length:=by rw[hS.el _ hmem];exact Nat.mod_lt _ hs0
             obtain⟨v',g1,g2⟩:=hS.rel (j / P.cellsOf t) _ (j % P.cellsOf t) _ he (Ae hmm);have e3:j / P.cellsOf t*P.cellsOf t+j % P.cellsOf t=j:=by
              have:=Nat.div_add_mod j (P.cellsOf t);rw[CI] at this;omega
             rw[e3,hj] at g1;cases g1;refine g2.oneCell ?_;rcases (A0 _ _).mp hcell with hty | hca
             ·exact wt_cellish (hS.typed hty _ hmem) _ (Bl hmm)
             ·have:=Ap.1 hca _ hmem;exact Ap.1 this _ (Bl hmm)
            have hle5:(r.es.length+news.length)*P.cellsOf t<=c1.size:=by
             refine A_ (AY _ hroom) ?_;rw[<- hrs];simpa using hh2
            rw[A9] at hle5;obtain⟨w',c',g1,g2,g3⟩:=EV (P:=P) (b:=b) (off:=r.es.length*P.cellsOf t) us 0 C.w c1 m1 (m2 hfz) (by rw[hS.len];omega) hone;have hrun:=run_append_room' (P:=P) (n:=r.es.length) (cap:=cap) (m:=news.length) (Y:=Y) (a:=some ⟨b,0,none⟩) C.w hT hT2 hu hu2 hY hinfo hroom ty0;have hf:=hS.first news.length rfl
            rw[hsz] at hf;rw[hf] at hrun;simp only[Result.andThen_ok,E3,AN,<- hsz] at hrun;rw[g1] at hrun;simp only[Result.andThen_ok] at hrun;generalize hr2:({ r with es:=r.es++news,bv:=r.bv&&ty,nl:=r.nl&&news.isEmpty }:Row)=r2;have hl2:r2.live=true:=by rw[<- hr2];exact hlive
            have hext:Ext C (C.Hy ii b r2 w'):=by
             refine Mw hi hro hr hl2 (by rw[<- hr2]) (by rw[<- hr2]) (by rw[<- hr2];simp) (fun he=>absurd he (by rw[<- hr2];exact hne)) g2.os g2.tape g2.output (by rw[g2.size];exact Ak _) (fun b' hlt hno=>g2.other b' fun e=>hno ⟨ii,hro,by rw[e];exact hb⟩) (fun b' cx ex frx h1 => ?_) (fun b' rec h1=>by rw[g2.other b' fun e=>by rw[e,m1] at h1;cases h1];exact h1) (.inl hb);by_cases hbb:b'=b
             ·subst hbb;rw[m1] at h1;cases h1;exact⟨c',_,g2.at_,g2.Lp⟩
             ·exact⟨cx,_,by rw[g2.other b' hbb];exact h1,rfl⟩
            have hcat:∀ (j:Nat) v,(c1.toList.take (r.es.length*P.cellsOf t)++us)[j]? = some v->c'[j]? = some v:=by
             intro j v hj;rw[g3 j];rw[AL] at hj;split at hj
             ·rename_i hjl;rw[hD.len] at hjl;rw[An (by omega)];rw[Av,Ai hjl,AI] at hj;exact hj
             ·rename_i hjl;rw[hD.len] at hjl hj;have hjs:=(Ad.1 hj).1;rw[Ai (by rw[Bq];omega),Bq];exact hj
            have hRB:RB P (C.Hy ii b r2 w') b r2:=by
             have hr3:GZ P (C.Hy ii b r2 w') r2.s r2.es (c1.toList.take (r.es.length*P.cellsOf t)++us):=by
               rw[show r2.s=P.cellsOf t by rw[<- hr2];exact hrs,show r2.es=r.es++news by rw[<- hr2]];exact (hD.app hS.rel3).mono hext
             exact GZ.rb (c:=c') (fr:=fr) hr3 (by rw[<- hr2];exact hB.sz) (by rw[<- hr2];exact g2.at_) (fun _ off ho=>m2 hfz off (by rw[<- g2.Lp];exact ho)) hcat (by rw[<- hr2];rw[hrt];exact tyd)
            have hRH:=upd_rh hR hext hi hl2 (fun b' hlt hne=>g2.other b' fun e=>hne (by rw[e];exact hb)) (.inl hb) hRB;refine⟨.slice (some ⟨b,0,none⟩) (r.es.length+news.length) cap,C.Hy ii b r2 w',?_,⟨rfl,hext,hRH⟩,?_,fun _ _ _ _ he z hz=>An (by cases he;exact hz)⟩
            ·rw[CJ];exact hrun
            ·have hrow:(C.Hy ii b r2 w').row? ii=some r2:=by
              show rowAt (C.H.set ii r2) ii=_
              rw[DX hi hl2];simp
             have hlen2:r2.es.length=r.es.length+news.length:=by rw[<- hr2];simp
             refine .sl ⟨_,_,rfl⟩ (by simp[Ctx.Hy];exact hi) (fun r' hr' => ?_) fun r' hr' _ => ?_
             ·have:r'=r2:=Ah (hr'.symm.trans hrow);rw[this,hlen2];exact Ak _
             ·have:r'=r2:=Ah (hr'.symm.trans hrow);subst this;refine⟨by omega,_,_,rfl,hroom,?_⟩;unfold EI;rw[An (by rw[<- hr2];simp[hnl])];refine⟨b,by simp[Ctx.Hy],by simp,c',_,fr,g2.at_,?_,by rw[hlen2];omega⟩;rw[g2.Lp,<- hr2];exact hh2
          ·-- it grows
           have hfd:=hD1.first r.es.length rfl
           rw[hsz] at hfd;obtain⟨cc,nc,q1,q2,q3,q4⟩:=grow (es:=r.es) (vs:=vs1) (a:=a) (cap:=cap) hD1.rel3 hfd (by omega) hbig;have hcn:C.w.drew.heap.size=C.w.heap.size:=rfl;generalize hr2:({ r with es:=r.es++news,bv:=r.bv&&ty,nl:=r.nl&&news.isEmpty }:Row)=r2;have hl2:r2.live=true:=by rw[<- hr2];exact hlive
           have hold:∀ b',b'<C.w.heap.size->(C.w.drew.alloc (.cells cc t)).heap[b']? = C.w.heap[b']?:=fun b' hlt=>AT C.w.drew _ hlt
           have hext:Ext C (C.Hy ii C.w.heap.size r2 (C.w.drew.alloc (.cells cc t))):=by
            refine Mw hi hro hr hl2 (by rw[<- hr2]) (by rw[<- hr2]) (by rw[<- hr2];simp) (fun he=>absurd he (by rw[<- hr2];exact hne)) rfl rfl rfl (by simp) (fun b' hlt _=>hold b' hlt) (fun b' cx ex frx h1=>⟨cx,frx,by rw[hold b' (Aq.1 h1).1];exact h1,rfl⟩) (fun b' rec h1=>by rw[hold b' (Aq.1 h1).1];exact h1) (.inr (Ak _))
           have hRB:RB P (C.Hy ii C.w.heap.size r2 (C.w.drew.alloc (.cells cc t))) C.w.heap.size r2:=by
            have hdx:Ext C.dr (C.Hy ii C.w.heap.size r2 (C.w.drew.alloc (.cells cc t))):=
             ⟨rfl,rfl,rfl,hext.size,hext.block,hext.shape,hext.len,hext.rows,hext.fresh,hext.DJ,hext.fo,hext.ro,hext.low,hext.lp,hext.loop⟩
            have hr3:GZ P (C.Hy ii C.w.heap.size r2 (C.w.drew.alloc (.cells cc t))) r2.s r2.es (vs1++us1):=by
             rw[show r2.s=P.cellsOf t by rw[<- hr2];exact hrs,show r2.es=r.es++news by rw[<- hr2]];exact (hD1.rel3.app hS1.rel3).mono hdx
            exact GZ.rb (c:=cc) (fr:=(0,0)) hr3 (by rw[<- hr2,hrs,hrt]) (by rw[<- hr2,hrt];exact heap_alloc_new C.w.drew _) (fun _ off _=>by simp) q2 (by rw[<- hr2];rw[hrt];exact tyd)
           have hRH:=upd_rh hR hext hi hl2 (fun b' hlt _=>hold b' hlt) (.inr (Ak _)) hRB;refine⟨_,C.Hy ii C.w.heap.size r2 (C.w.drew.alloc (.cells cc t)),q1,⟨rfl,hext,hRH⟩,?_,fun _ _ _ _ he z hz=>An (by cases he;exact hz)⟩;have hrow:(C.Hy ii C.w.heap.size r2 (C.w.drew.alloc (.cells cc t))).row? ii=some r2:=by
            show rowAt (C.H.set ii r2) ii=_
            rw[DX hi hl2];simp
           have hlen2:r2.es.length=r.es.length+news.length:=by rw[<- hr2];simp
           refine .sl ⟨_,_,rfl⟩ (by simp[Ctx.Hy];exact hi) (fun r' hr' => ?_) fun r' hr' _ => ?_
           ·have:r'=r2:=Ah (hr'.symm.trans hrow);rw[this,hlen2];exact Ak _
           ·have:r'=r2:=Ah (hr'.symm.trans hrow);subst this;refine⟨by omega,_,_,rfl,q3,?_⟩;unfold EI;rw[An (by rw[<- hr2];simp[hnl])];refine⟨C.w.heap.size,by simp[Ctx.Hy],by simp,cc,t,(0,0),heap_alloc_new C.w.drew _,?_,by rw[hlen2];omega⟩;rw[<- hr2,AN,hrs];exact q4
       ·cases h
      ·cases h
     ·cases h
    ·-- the nil slice
     split at h
     ·rename_i hbig;split at h
      ·rename_i hnil;cases h;cases hx;have hnil:news=[]:=by simpa using hnil
       subst hnil;have hrun:=run_append_room' (P:=P) (n:=0) (cap:=0) (m:=0) (Y:=Y) (a:=none) C.w hT hT2 hu hu2 hY hinfo (by omega) ty0;have hf:=hS.first 0 rfl
       rw[hsz] at hf;have hf':(Builtin.firstCells i.size 0 Y).run P C.w=.ok us.toArray C.w:=hf;rw[hf'] at hrun;exact⟨_,C,hrun,⟨rfl,.refl C,hR⟩,.val,fun _ _ _ _ he=>by cases he⟩
      ·rename_i hne;cases h;cases hx;have hm:0<news.length:=by
        cases news with
        | nil=>simp at hne
        | cons _ _=>simp
       obtain⟨cc,nc,q1,q2,q3,q4⟩:=grow (es:=[]) (vs:=[]) (a:=none) (cap:=0) ⟨(by simp),(fun e he=>(by cases he)),(fun k e j p h1=>(by simp at h1))⟩ (by simp[Builtin.firstCells]) (by simpa using hm) (by simpa using hbig);simp only[AC,AN,BM] at q1 q2 q3;obtain⟨g1,g2⟩:=new_row (C:=C.dr) (Lo hR) (t:=t) (es:=news) (ty:=ty) (vs:=us1) (c:=cc) (cap:=nc) hS1.rel3 q2 hS1.typed q3 q4;exact⟨_,_,q1,⟨g1.H,(Fw C).trans g1.ext,g1.rh⟩,g2,fun _ _ _ _ he=>by cases he⟩
     ·cases h
    ·-- a full list
     rename_i t2 es;split at h
     ·rename_i ht2;have ht2:t2=t:=by simpa using ht2
      subst ht2;split at h
      ·rename_i hbig;have hxc:=hx;have hxs:JN C.H (.CQ true t2 es)=some (true,t2,es):=rfl;cases hx with
       | @CQ _ _ _ a cap b off cv hcap hfull hA hC hRr ht =>
        have hcap2:cap=es.length:=hfull rfl;subst hcap2;split at h
        ·rename_i hnil;cases h;have hnil:news=[]:=by simpa using hnil
         subst hnil;have hrun:=run_append_room' (P:=P) (n:=es.length) (cap:=es.length) (m:=0) (Y:=Y) (a:=a) C.w hT hT2 hu hu2 hY hinfo (by omega) ty0;have hf:=hS.first 0 rfl
         rw[hsz] at hf;have hus:us=[]:=Bz (by simpa using hS.len);subst hus;have hf':(Builtin.firstCells i.size 0 Y).run P C.w=.ok #[] C.w:=hf;rw[hf'] at hrun;simp only[Result.andThen_ok,storeCells,Sem.run_pure,Bq] at hrun;refine⟨.slice a es.length es.length,C,?_,⟨rfl,.refl C,hR⟩,hxc,fun _ _ _ _ he=>by cases he⟩;show (Builtin.append_ c.argTypes ty0 #[.slice a es.length es.length,Y]).run P C.w=_
         rw[hrun];cases a <;> rfl
        ·rename_i hne;cases h;have hm:0<news.length:=by
          cases news with
          | nil=>simp at hne
          | cons _ _=>simp
         obtain⟨vs1,hD1⟩:=J9 (C:=C.dr) (Lo hR) (hxc.mono (Fw C)) hxs;have hfd:=hD1.first es.length rfl
         rw[hsz] at hfd;obtain⟨cc,nc,q1,q2,q3,q4⟩:=grow (es:=es) (vs:=vs1) (a:=a) (cap:=es.length) hD1.rel3 hfd (by omega) hbig;obtain⟨g1,g2⟩:=new_row (C:=C.dr) (Lo hR) (t:=t2) (es:=es++news) (ty:=ty) (vs:=vs1++us1) (c:=cc) (cap:=nc) (hD1.rel3.app hS1.rel3) q2 (fun hb e he=>by
          rcases A5.1 he with he | he
          ·exact hD1.typed rfl e he
          ·exact hS1.typed hb e he) (by simpa using q3) q4
         rw[Ar] at g2;exact⟨_,_,q1,⟨g1.H,(Fw C).trans g1.ext,g1.rh⟩,g2,fun _ _ _ _ he=>by cases he⟩
      ·cases h
     ·cases h
    ·cases h
   ·cases h
  ·cases h
 ·cases h

mutual
/-- All rows that it names are below h. -/
def mlt (h:Nat):PV->Bool
 | .ptr i _ _ _=>decide (i<h)
 | .sl i _ _ _=>decide (i<h)
 | .agg cs=>EJ h cs
 | .D8 cs=>EJ h cs
 | .fn _ a b=>EJ h a&&EJ h b
 | .JK _ v=>mlt h v
 | .val _=>true
 | .any=>true
 | .CQ _ _ _=>true
 | .Ee _ _ _=>true
 | .HE i=>decide (i<h)
 | .mp i=>decide (i<h)
 | .gv _=>true
 | .bad _=>true
 | .KI _ _=>true
def EJ (h:Nat):List PV->Bool
 | []=>true
 | p::ps=>mlt h p&&EJ h ps
end
theorem mlts_mk {h:Nat}:∀ {ps:List PV},(∀ p ∈ ps,mlt h p=true)->EJ h ps=true
 | [],_=>rfl
 | p::ps,hp=>by
  unfold EJ;rw[hp p (.head _),mlts_mk fun q hq=>hp q (.tail _ hq)];rfl
theorem IJ {h:Nat} {p:PV} (hp:p.flatL=true):mlt h p=true:=by
 unfold PV.flatL at hp;split at hp
 ·rfl
 ·rfl
 ·rename_i cs;unfold mlt;refine mlts_mk fun c hc => ?_
  have:=Ap.1 hp c hc;split at this
  ·rfl
  ·rfl
  ·cases this
 ·cases hp
theorem C5 {h:Nat}:∀ {ps:List PV} {j:Nat} {p:PV},EJ h ps=true->ps[j]? = some p->mlt h p=true
 | [],j,p,_,hj=>by simp at hj
 | q::ps,0,p,hm,hj=>by simp at hj;subst hj;simp only[EJ,Aa] at hm;exact hm.1
 | q::ps,j+1,p,hm,hj=>by simp only[EJ,Aa] at hm;exact C5 hm.2 (by simpa using hj)

def Ctx.cut (C:Ctx) (h:Nat) (HK:Prop) (ro:Nat):Ctx:=
 { ρ:=fun i=>if i<h then C.ρ i else none,H:=C.H.take h,w:=C.w,fo:=fun b=>C.fo b\/(HK/\∃ i,h<=i/\C.ρ i=some b),ro:=ro }

theorem Hk {C:Ctx} {h ro i:Nat} {HK:Prop} (hi:i<h):(C.cut h HK ro).row? i=C.row? i:=by
 show rowAt (C.H.take h) i=rowAt C.H i
 unfold rowAt;rw[Av,Ai hi]
theorem Hl {C:Ctx} {h ro i:Nat} {HK:Prop} {r:Row} (hr:(C.cut h HK ro).row? i=some r):i<h:=by
 have:=Ek hr;simp only[Ctx.cut,Az] at this;omega
theorem Mz {C:Ctx} {h ro b:Nat} {HK:Prop} (hb:¬ C.JZ b):¬ (C.cut h HK ro).JZ b:=by
 rintro (⟨i,hi⟩ | hf | ⟨_,i,_,hi⟩)
 ·simp only[Ctx.cut] at hi;split at hi
  ·exact hb (.inl ⟨i,hi⟩)
  ·cases hi
 ·exact hb (.inr hf)
 ·exact hb (.inl ⟨i,hi⟩)

theorem wtc_byval {k:Kind} {p:PV} (h:JY k p=true) (n:Nat):mlt n p=true:=by
 unfold JY at h;split at h <;> first | rfl | cases h
theorem wtcs_byval (n:Nat):∀ {ks:List Kind} {ps:List PV},DD ks ps=true->∀ p ∈ ps,mlt n p=true
 | [],[],_,p,h=>by cases h
 | [],_::_,h,_,_=>by simp[DD] at h
 | _::_,[],h,_,_=>by simp[DD] at h
 | k::ks,q::ps,h,p,hp=>by
  simp only[DD,Aa] at h;rcases AK.1 hp with rfl | hp
  ·exact wtc_byval h.1 n
  ·exact wtcs_byval n h.2 p hp
theorem Ey {P:Program} {t:TypeId} {e:PV} (h:wt P t e=true) (n:Nat):∀ p ∈ e.cells,mlt n p=true:=by
 simp only[wt,Aa] at h;exact wtcs_byval n h.1

theorem RV.cut {P:Program} {C:Ctx} {h ro:Nat} {HK:Prop} (hh:h<=C.H.length) {p:PV} {V:Value} (hv:RV P C p V):mlt h p=true->RV P (C.cut h HK ro) p V:=by
 have hlen:(C.cut h HK ro).H.length=h:=by simp[Ctx.cut];omega
 induction hv with
 | any=>intro _;exact .any
 | val=>intro _;exact .val
 | ptr hV hk hi hn h1 =>
  rename_i i _ _ _ _;intro hm;have hm:i<h:=by simpa [mlt] using hm
  refine .ptr hV hk (by rw[hlen];exact hm) (fun r hr=>hn r (by rw[<- Hk hm];exact hr)) fun r hr he => ?_
  obtain⟨b,g1,g2⟩:=h1 r (by rw[<- Hk hm];exact hr) he;exact⟨b,by simp[Ctx.cut,hm,g1],g2⟩
 | Ee cv hb hlt hc hr ht ih =>
  intro _;exact .Ee cv (Mz hb) hlt hc (fun x p hx=>ih x p hx (Ey ht h _ (Ag hx))) ht
 | sl hV hi hn h1 =>
  rename_i i _ _ _ _;intro hm;have hm:i<h:=by simpa [mlt] using hm
  refine .sl hV (by rw[hlen];exact hm) (fun r hr=>hn r (by rw[<- Hk hm];exact hr)) fun r hr he => ?_
  obtain⟨g0,a,cap,g1,g2,g3⟩:=h1 r (by rw[<- Hk hm];exact hr) he;refine⟨g0,a,cap,g1,g2,?_⟩;unfold EI at *;split
  ·rename_i hnl;rwa [Ai hnl] at g3
  ·rename_i hnl;rw[An hnl] at g3;obtain⟨b,q1,q2⟩:=g3;exact⟨b,by simp[Ctx.cut,hm,q1],q2⟩
 | CQ b off cv hcap hfull ha hc hr ht ih =>
  intro _;refine .CQ b off cv hcap hfull (fun h0 => ?_) hc (fun x e j p hx hj=>ih x e j p hx hj (Ey (ht e (Ag hx)) h _ (Ag hj))) ht;obtain⟨g1,g2,g3⟩:=ha h0;exact⟨g1,Mz g2,g3⟩
 | agg hs _ ih=>intro hm;exact .agg hs fun j c v h1 h2=>ih j c v h1 h2 (C5 (by simpa [mlt] using hm) h1)
 | D8 hs _ ih=>intro hm;exact .D8 hs fun j c v h1 h2=>ih j c v h1 h2 (C5 (by simpa [mlt] using hm) h1)
 | fn h1 h2 _ _ ih3 ih4 =>
  intro hm;simp only[mlt,Aa] at hm;exact .fn h1 h2 (fun j c v g1 g2=>ih3 j c v g1 g2 (C5 hm.1 g1)) (fun j c v g1 g2=>ih4 j c v g1 g2 (C5 hm.2 g1))
 | JK _ ih=>intro hm;exact .JK (ih (by simpa [mlt] using hm))
 | HE hi hl hb =>
  rename_i i b;intro hm;have hm:i<h:=by simpa [mlt] using hm
  obtain⟨r,info,h1,h2,h3⟩:=hl;exact .HE (by rw[hlen];exact hm) ⟨r,info,by simp only[Ctx.cut];rw[Av,Ai hm];exact h1,h2,h3⟩ (by simp[Ctx.cut,hm,hb])
 | mp hi hl hb =>
  rename_i i b _;intro hm;have hm:i<h:=by simpa [mlt] using hm
  obtain⟨r,info,h1,h2,h3⟩:=hl;exact .mp (by rw[hlen];exact hm) ⟨r,info,by simp only[Ctx.cut];rw[Av,Ai hm];exact h1,h2,h3⟩ (by simp[Ctx.cut,hm,hb])
 | gv hb hlt hc hV=>intro _;exact .gv (Mz hb) hlt hc hV
 | bad hb=>intro _;exact .bad (hb.tr fun x v h1 h2 h3=>⟨Mz h1,h2,h3⟩)
 | KI hp _ ih=>intro _;exact .KI hp (ih rfl)

def Dj (h:Nat) (H:List Row):Bool:=H.all fun r=>(!r.live||r.bv||r.es.all fun e=>EJ h e.cells)&&(match r.lp with | some info=>EJ h info.k.S0 | none=>true)

theorem HL {h:Nat} {H:List Row} (hk:Dj h H=true) {i:Nat} {r:Row} (hr:rowAt H i=some r):r.bv=true\/∀ e ∈ r.es,EJ h e.cells=true:=by
 unfold rowAt at hr;split at hr
 ·rename_i r' hr';split at hr
  ·rename_i hl;cases hr;have:=Ap.1 hk r (Ag hr');rw[Aa] at this;have:=this.1;simp only[A0,Al,hl,Bool.true_eq_false,Dk] at this;rcases this with h | h
   ·exact .inl h
   ·exact .inr fun e he=>Ap.1 h e he
  ·cases hr
 ·cases hr

theorem IK {h:Nat} {H:List Row} (hk:Dj h H=true) {i:Nat} {r:Row} {info:Fe} (hr:H[i]? = some r) (hl:r.lp=some info):EJ h info.k.S0=true:=by
 have:=Ap.1 hk r (Ag hr);rw[Aa] at this;have:=this.2;rw[hl] at this;exact this

theorem RH.cut {P:Program} {C:Ctx} (hR:RH P C) {h ro:Nat} {HK:Prop} (hh:h<=C.H.length) (hro:ro<=h) (hk:Dj h (C.H.take h)=true):RH P (C.cut h HK ro):=by
 refine⟨fun i j b h1 h2 => ?_,fun i b h1 => ?_,fun i b r h1 h2 => ?_,?_,fun i b h1 => ?_,fun b hb => ?_,fun i b r info h1 h2 h3 h4 => ?_,fun g hl=>⟨Mz (hR.K5 g hl).1,(hR.K5 g hl).2⟩⟩
 ·simp only[Ctx.cut] at h1 h2;split at h1 <;> split at h2 <;> first | exact hR.inj _ _ _ h1 h2 | cases h1 | cases h2
 ·simp only[Ctx.cut] at h1;split at h1
  ·rename_i hi;rcases hR.KJ i b h1 with ⟨r,hr⟩ | ⟨r,info,g1,g2,g3⟩
   ·exact .inl ⟨r,by rw[Hk hi];exact hr⟩
   ·exact .inr ⟨r,info,by simp only[Ctx.cut];rw[Av,Ai hi];exact g1,g2,g3⟩
  ·cases h1
 ·have hi:=Hl h2;simp only[Ctx.cut,hi,BO] at h1;have h3:=h2;rw[Hk hi] at h2;have hB:=hR.Gv i b r h1 h2;obtain⟨c,fr,cv,m1,m2,m3,m4⟩:=hB.mem;refine⟨hB.sz,⟨c,fr,cv,m1,m2,m3,fun k e j p hk1 hj1=>⟨(m4 k e j p hk1 hj1).1,(m4 k e j p hk1 hj1).2.cut hh ?_⟩⟩,hB.len,hB.typed⟩;rcases HL hk (show rowAt (C.H.take h) i=some r from h3) with hb | hb
  ·exact Ey (hB.typed hb e (Ag hk1)) h p (Ag hj1)
  ·exact C5 (hb e (Ag hk1)) hj1
 ·simp only[Ctx.cut,Az];omega
 ·simp only[Ctx.cut] at h1;split at h1
  ·rename_i hi
   rintro (hf | ⟨_,j,hj,hj2⟩)
   ·exact hR.Iu i b h1 hf
   ·have:=hR.inj i j b h1 hj2;omega
  ·cases h1
 ·rcases hb with hf | ⟨_,i,_,hi⟩
  ·exact hR.JL b hf
  ·exact hR.lt hi
 ·simp only[Ctx.cut] at h1 h2;split at h1
  ·rename_i hi;have h5:=IK hk h2 h3;rw[Av,Ai hi] at h2;refine (hR.Hw i b r info h1 h2 h3 h4).via (fun p V hp hv=>hv.cut hh (IJ hp)) (fun t m5=>⟨m5.1,fun j p v g1 g2=>(m5.2 j p v g1 g2).cut hh (C5 h5 g1)⟩) (fun hl => ?_) (fun _ _ h=>h);obtain⟨⟨rec,m1,m2,m3,m4,m5,m6⟩,ha,hb⟩:=hl;exact⟨⟨rec,m1,m2,m3,m4,⟨m5.1,fun j p v g1 g2=>(m5.2 j p v g1 g2).cut hh (C5 h5 g1)⟩,m6⟩,ha,hb⟩
  ·cases h1

theorem Ext.cut {C0 C:Ctx} (hx:Ext C0 C) {h:Nat} (h0:C0.H.length<=h) (hh:h<=C.H.length) (hro:C0.ro<=C0.H.length):Ext C0 (C.cut h False C.ro) where
 os:=hx.os
 tape:=hx.tape
 output:=hx.output
 size:=hx.size
 block:=hx.block
 shape:=hx.shape
 len:=by simp only[Ctx.cut,Az];omega
 rows i r' hi hr:=by
  have hi2:=Hl hr;rw[Hk hi2] at hr;obtain⟨r,a1,a2,a3,a4,a5⟩:=hx.rows i r' hi hr;exact⟨r,a1,a2,a3,a4,fun he=>⟨(a5 he).1,fun b hb=>by simp[Ctx.cut,hi2,(a5 he).2 b hb]⟩⟩
 fresh b hb:=by
  obtain⟨i,hi⟩:=hb;simp only[Ctx.cut] at hi;split at hi
  ·exact hx.fresh b ⟨i,hi⟩
  ·cases hi
 DJ b hb:=by
  obtain⟨i,hir,hi⟩:=hb;simp only[Ctx.cut] at hi hir;split at hi
  ·exact hx.DJ b ⟨i,hir,hi⟩
  ·cases hi
 fo:=by
  funext b
  simp only[Ctx.cut,false_and,B6];rw[hx.fo]
 ro:=hx.ro
 low i hi:=by
  obtain⟨g1,g2⟩:=hx.low i hi;simp only[Ctx.cut];rw[Av,Ai (by omega),Ai (by omega)];exact⟨g1,g2⟩
 lp i r info h1 h2 h3:=by
  have hi:i<h:=Ax (Ad.1 h1).1 h0;obtain⟨⟨r',st,a1,a2,a3⟩,a4⟩:=hx.lp i r info h1 h2 h3;exact⟨⟨r',st,by simp only[Ctx.cut];rw[Av,Ai hi];exact a1,a2,a3⟩,fun b hb=>by simp[Ctx.cut,hi,a4 b hb]⟩
 loop:=hx.loop

structure Iw (w w':World):Prop where
 os:w'.os=w.os
 tape:w'.tape=w.tape
 output:w'.output=w.output
 size:w.heap.size<=w'.heap.size
 block:∀ b,b<w.heap.size->w'.heap[b]? = w.heap[b]?
def Ctx.at (C:Ctx) (w':World):Ctx:={ C with w:=w' }
theorem Iw.ext {C:Ctx} {w':World} (h:Iw C.w w'):Ext C (C.at w'):=
 ⟨h.os,h.tape,h.output,h.size,fun b hb _=>h.block b hb,fun b c _ fr hb=>⟨c,fr,by rw[<- hb];exact h.block b (Aq.1 hb).1,rfl⟩,Ak _,
  fun _ r' _ h=>⟨r',h,rfl,rfl,Ak _,fun _=>⟨rfl,fun _ h=>h⟩⟩,fun _ h=>.inl h,fun _ h=>.inl h,rfl,rfl,fun _ _=>⟨rfl,rfl⟩,
  fun _ r info h1 h2 h3=>⟨⟨r,info.st,h1,h2,h3⟩,fun _ h=>h⟩,fun b rec hb=>⟨rec,by rw[<- hb];exact h.block b (Aq.1 hb).1⟩⟩
theorem Iw.rh {P:Program} {C:Ctx} {w':World} (h:Iw C.w w') (hR:RH P C):RH P (C.at w'):=
 ⟨hR.inj,hR.KJ,fun i b r h1 h2=>(hR.Gv i b r h1 h2).mono h.ext (h.block b (hR.lt h1)),hR.ro,hR.Iu,fun b hb=>Ax (hR.JL b hb) h.size,
  fun i b r info h1 h2 h3 h4=>(hR.Hw i b r info h1 h2 h3 h4).mono h.ext (h.block b (hR.lt h1)),hR.K5.mono h.ext⟩

theorem IL {C Ci:Ctx} {h:Nat} (hx:Ext (C.cut h True h) Ci):Iw C.w Ci.w:=
 ⟨hx.os,hx.tape,hx.output,hx.size,fun b hb=>hx.block b hb (by
  rintro⟨i,hi,hi2⟩
  simp only[Ctx.cut] at hi hi2;split at hi2
  ·omega
  ·cases hi2)⟩
theorem MA {C Ci:Ctx} {h b:Nat} (hx:Ext (C.cut h True h) Ci) (hb:¬ Ci.JZ b):¬ (C.at Ci.w).JZ b:=by
 rintro (⟨i,hi⟩ | hf)
 ·by_cases hih:i<h
  ·have h2:=(hx.low i hih).2;simp only[Ctx.cut,hih,BO] at h2;exact hb (.inl ⟨i,by rw[h2];exact hi⟩)
  ·refine hb (.inr ?_);rw[hx.fo];exact .inr ⟨trivial,i,by omega,hi⟩
 ·refine hb (.inr ?_);rw[hx.fo];exact .inl hf
theorem MB {C Ci:Ctx} {h i:Nat} (hx:Ext (C.cut h True h) Ci) (hi:i<h):(C.at Ci.w).row? i=Ci.row? i:=by
 have h1:=(hx.low i hi).1;show rowAt C.H i=rowAt Ci.H i
 unfold rowAt;rw[h1];simp only[Ctx.cut];rw[Av,Ai hi]

theorem RV.back {P:Program} {C Ci:Ctx} {h:Nat} (hh:h<=C.H.length) (hx:Ext (C.cut h True h) Ci) {p:PV} {V:Value} (hv:RV P Ci p V):mlt h p=true->RV P (C.at Ci.w) p V:=by
 have hρ:∀ i,i<h->Ci.ρ i=C.ρ i:=fun i hi=>by have:=(hx.low i hi).2;simpa [Ctx.cut,hi] using this
 induction hv with
 | any=>intro _;exact .any
 | val=>intro _;exact .val
 | ptr hV hk hi hn h1 =>
  rename_i i _ _ _ _;intro hm;have hm:i<h:=by simpa [mlt] using hm
  refine .ptr hV hk (Ax hm hh) (fun r hr=>hn r (by rw[<- MB hx hm];exact hr)) fun r hr he => ?_
  obtain⟨b,g1,g2⟩:=h1 r (by rw[<- MB hx hm];exact hr) he;exact⟨b,by show C.ρ i=_;rw[<- hρ _ hm];exact g1,g2⟩
 | gv hb hlt hc hV=>intro _;exact .gv (MA hx hb) hlt hc hV
 | bad hb=>intro _;exact .bad (hb.tr fun x v h1 h2 h3=>⟨MA hx h1,h2,h3⟩)
 | KI hp _ ih=>intro _;exact .KI hp (ih rfl)
 | Ee cv hb hlt hc hr ht ih =>
  intro _;exact .Ee cv (MA hx hb) hlt hc (fun x p hx'=>ih x p hx' (Ey ht h _ (Ag hx'))) ht
 | sl hV hi hn h1 =>
  rename_i i _ _ _ _;intro hm;have hm:i<h:=by simpa [mlt] using hm
  refine .sl hV (Ax hm hh) (fun r hr=>hn r (by rw[<- MB hx hm];exact hr)) fun r hr he => ?_
  obtain⟨g0,a,cap,g1,g2,g3⟩:=h1 r (by rw[<- MB hx hm];exact hr) he;refine⟨g0,a,cap,g1,g2,?_⟩;unfold EI at *;split
  ·rename_i hnl;rwa [Ai hnl] at g3
  ·rename_i hnl;rw[An hnl] at g3;obtain⟨b,q1,q2⟩:=g3;exact⟨b,by show C.ρ _=_;rw[<- hρ _ hm];exact q1,q2⟩
 | CQ b off cv hcap hfull ha hc hr ht ih =>
  intro _;refine .CQ b off cv hcap hfull (fun h0 => ?_) hc (fun x e j p hx' hj=>ih x e j p hx' hj (Ey (ht e (Ag hx')) h _ (Ag hj))) ht;obtain⟨g1,g2,g3⟩:=ha h0;exact⟨g1,MA hx g2,g3⟩
 | agg hs _ ih=>intro hm;exact .agg hs fun j c v h1 h2=>ih j c v h1 h2 (C5 (by simpa [mlt] using hm) h1)
 | D8 hs _ ih=>intro hm;exact .D8 hs fun j c v h1 h2=>ih j c v h1 h2 (C5 (by simpa [mlt] using hm) h1)
 | fn h1 h2 _ _ ih3 ih4 =>
  intro hm;simp only[mlt,Aa] at hm;exact .fn h1 h2 (fun j c v g1 g2=>ih3 j c v g1 g2 (C5 hm.1 g1)) (fun j c v g1 g2=>ih4 j c v g1 g2 (C5 hm.2 g1))
 | JK _ ih=>intro hm;exact .JK (ih (by simpa [mlt] using hm))
 | HE hi hl hb =>
  rename_i i b;intro hm;have hm:i<h:=by simpa [mlt] using hm
  obtain⟨r,info,h1,h2,h3⟩:=hl;have hlo:=(hx.low i hm).1;simp only[Ctx.cut] at hlo;rw[Av,Ai hm] at hlo;exact .HE (Ax hm hh) ⟨r,info,by rw[<- h1];exact hlo.symm,h2,h3⟩ (by show C.ρ i=_;rw[<- hρ i hm];exact hb)
 | mp hi hl hb =>
  rename_i i b _;intro hm;have hm:i<h:=by simpa [mlt] using hm
  obtain⟨r,info,h1,h2,h3⟩:=hl;have hlo:=(hx.low i hm).1;simp only[Ctx.cut] at hlo;rw[Av,Ai hm] at hlo;exact .mp (Ax hm hh) ⟨r,info,by rw[<- h1];exact hlo.symm,h2,h3⟩ (by show C.ρ i=_;rw[<- hρ i hm];exact hb)

mutual
/-- New rows that a result names are let go: they are lists from here on. -/
def frz (H:List Row) (h:Nat):PV->PV
 | .sl i n k len =>
  if h<=i then
   match rowAt H i with
   | some r=>if r.bv&&r.es.length==n then .CQ false r.t ((r.es.drop k).take len) else .sl i n k len
   | none=>.sl i n k len
  else .sl i n k len
 | .agg cs=>.agg (GR H h cs)
 | .D8 cs=>.D8 (GR H h cs)
 | p=>p
def GR (H:List Row) (h:Nat):List PV->List PV
 | []=>[]
 | p::ps=>frz H h p::GR H h ps
end
theorem Kb (H:List Row) (h:Nat):∀ (ps:List PV) (j:Nat),(GR H h ps)[j]? = (ps[j]?).map (frz H h)
 | [],j=>by simp[GR]
 | p::ps,0=>by simp[GR]
 | p::ps,j+1=>by simp[GR,Kb H h ps j]
theorem GS (H:List Row) (h:Nat):∀ (ps:List PV),(GR H h ps).length=ps.length
 | []=>rfl
 | p::ps=>by simp[GR,GS H h ps]

theorem RV.frz {P:Program} {C:Ctx} (hR:RH P C) {h ro:Nat} (hh:h<=C.H.length) {p:PV} {V:Value} (hv:RV P C p V):mlt h (frz C.H h p)=true->RV P (C.cut h False ro) (frz C.H h p) V:=by
 induction hv with
 | sl hV hi hn h1 =>
  intro hm;have hx:=RV.sl (P:=P) hV hi hn h1;rename_i i n k len V;unfold Hx.frz at hm ⊢;split
  ·rename_i hhi;split
   ·rename_i r hr;split
    ·rename_i hc;simp only[Aa,Aw] at hc;obtain⟨hbv,hlen⟩:=hc;obtain⟨hk,a,cap,rfl,hcap,hs⟩:=h1 r hr hlen;have hl:((r.es.drop k).take len).length=len:=by simp;omega
     have e1:(Value.slice a len cap)=.slice a ((r.es.drop k).take len).length cap:=by rw[hl]
     rw[e1];unfold EI at hs;split at hs
     ·obtain⟨rfl,rfl⟩:=hs;have h0:len=0:=by omega
      subst h0;simp only[List.take_zero];exact .CQ 0 0 (fun _ _=>undef) (by simp) (fun hf=>by cases hf) (fun h0=>by simp at h0) (fun x e j p hx=>by simp at hx) (fun x e j p hx=>by simp at hx) (fun e he=>by simp at he)
     ·obtain⟨b,hb,rfl,_⟩:=hs;have hB:=hR.Gv i b r hb hr;obtain⟨c,fr,cv,m1,m2,m3,m4⟩:=hB.mem;have hget:∀ (x:Nat) e,((r.es.drop k).take len)[x]? = some e->r.es[k+x]? = some e:=fun x e he=>by
       rw[Av] at he;split at he
       ·rw[A8] at he;exact he
       ·cases he
      refine .CQ b (k*r.s) (fun x j=>cv (k+x) j) (by omega) (fun hf=>by cases hf) (fun _=>⟨rfl,?_,hB.lt⟩) (fun x e j p hx hj => ?_) (fun x e j p hx hj => ?_) (fun e he=>hB.typed hbv e (BI (BQ he)))
      ·rintro (⟨y,hy⟩ | hf | ⟨hf,_⟩)
       ·simp only[Ctx.cut] at hy;split at hy
        ·have:=hR.inj _ _ _ hy hb;omega
        ·cases hy
       ·exact hR.Iu _ _ hb hf
       ·exact hf
      ·obtain⟨g1,_⟩:=m4 (k+x) e j p (hget x e hx) hj;rw[show k*r.s+x*P.cellsOf r.t+j=(k+x)*r.s+j by rw[<- hB.sz,A9]];show C.w.cell? _=_
       rw[IF m1];exact g1
      ·exact (m4 (k+x) e j p (hget x e hx) hj).2.cut hh (Ey (hB.typed hbv e (Ag (hget x e hx))) h p (Ag hj))
    ·rename_i hc;simp only[hhi,BO,hr,hc] at hm;simp[mlt] at hm;omega
   ·rename_i hr;simp only[hhi,BO,hr] at hm;simp[mlt] at hm;omega
  ·rename_i hhi;exact hx.cut hh (by simp[mlt];omega)
 | agg hs _ ih =>
  intro hm;simp only[Hx.frz,mlt] at hm ⊢;refine .agg (by rw[GS];exact hs) fun j c v h1 h2 => ?_
  have hmj:=C5 hm h1;rw[Kb] at h1;obtain⟨q,hq,rfl⟩:=Af.1 h1;exact ih j q v hq h2 hmj
 | D8 hs _ ih =>
  intro hm;simp only[Hx.frz,mlt] at hm ⊢;refine .D8 (by rw[GS];exact hs) fun j c v h1 h2 => ?_
  have hmj:=C5 hm h1;rw[Kb] at h1;obtain⟨q,hq,rfl⟩:=Af.1 h1;exact ih j q v hq h2 hmj
 | any=>intro _;exact .any
 | val=>intro _;exact .val
 | ptr hV hk hi hn h1=>intro hm;exact (RV.ptr (P:=P) hV hk hi hn h1).cut hh hm
 | Ee cv hb hlt hc hr ht _=>intro hm;exact (RV.Ee (P:=P) cv hb hlt hc hr ht).cut hh hm
 | CQ b off cv hcap hfull ha hc hr ht _=>intro hm;exact (RV.CQ (P:=P) b off cv hcap hfull ha hc hr ht).cut hh hm
 | fn h1 h2 h3 h4 _ _=>intro hm;exact (RV.fn (P:=P) h1 h2 h3 h4).cut hh hm
 | JK h1 _=>intro hm;exact (RV.JK (P:=P) h1).cut hh hm
 | HE h1 h2 h3=>intro hm;exact (RV.HE (P:=P) h1 h2 h3).cut hh hm
 | mp h1 h2 h3=>intro hm;exact (RV.mp (P:=P) h1 h2 h3).cut hh hm
 | gv h1 h2 h3 h4=>intro hm;exact (RV.gv (P:=P) h1 h2 h3 h4).cut hh hm
 | bad h1=>intro hm;exact (RV.bad (P:=P) h1).cut hh hm
 | KI hp h1 _=>intro hm;exact (RV.KI (P:=P) hp h1).cut hh hm

def ShpR (r r':Row):Prop:=r.s=r'.s/\r.es.length=r'.es.length/\r.nl=r'.nl/\r.t=r'.t
structure Shp (C C':Ctx):Prop where
 w:C'.w=C.w
 ρ:C'.ρ=C.ρ
 fo:C'.fo=C.fo
 ro:C'.ro=C.ro
 len:C'.H.length=C.H.length
 row:∀ i r',C'.row? i=some r'->∃ r,C.row? i=some r/\ShpR r r'
 row':∀ i r,C.row? i=some r->∃ r',C'.row? i=some r'/\ShpR r r'
 lp:∀ (i:Nat) r,C.H[i]? = some r->r.live=false->C'.H[i]? = some r
 lp':∀ (i:Nat) r,C'.H[i]? = some r->r.live=false->C.H[i]? = some r
theorem Shp.symm {C C':Ctx} (h:Shp C C'):Shp C' C:=
 ⟨h.w.symm,h.ρ.symm,h.fo.symm,h.ro.symm,h.len.symm,fun i r' hr=>let ⟨r,a,b1,b2,b3,b4⟩:=h.row' i r' hr; ⟨r,a,b1.symm,b2.symm,b3.symm,b4.symm⟩,
  fun i r' hr=>let ⟨r,a,b1,b2,b3,b4⟩:=h.row i r' hr; ⟨r,a,b1.symm,b2.symm,b3.symm,b4.symm⟩,h.lp',h.lp⟩
theorem RV.shp {P:Program} {C C':Ctx} (h:Shp C C') {p:PV} {V:Value} (hv:RV P C p V):RV P C' p V:=by
 have hban:∀ b,C'.JZ b->C.JZ b:=by
  intro b hb;rcases hb with ⟨i,hi⟩ | hf
  ·exact .inl ⟨i,by rw[<- h.ρ];exact hi⟩
  ·exact .inr (by rw[<- h.fo];exact hf)
 induction hv with
 | any=>exact .any
 | val=>exact .val
 | ptr hV hk hi hn h1 =>
  refine .ptr hV hk (by rw[h.len];exact hi) (fun r' hr' => ?_) fun r' hr' he => ?_
  ·obtain⟨r,a,b1,b2,b3,b4⟩:=h.row _ r' hr';rw[<- b2];exact hn r a
  ·obtain⟨r,a,b1,b2,b3,b4⟩:=h.row _ r' hr';obtain⟨b,g1,g2⟩:=h1 r a (by rw[b2];exact he);exact⟨b,by rw[h.ρ];exact g1,by rw[<- b1];exact g2⟩
 | Ee cv hb hlt hc hr ht ih=>exact .Ee cv (fun hb'=>hb (hban _ hb')) (by rw[h.w];exact hlt) (fun x p hx=>by rw[h.w];exact hc x p hx) ih ht
 | sl hV hi hn h1 =>
  refine .sl hV (by rw[h.len];exact hi) (fun r' hr' => ?_) fun r' hr' he => ?_
  ·obtain⟨r,a,b1,b2,b3,b4⟩:=h.row _ r' hr';rw[<- b2];exact hn r a
  ·obtain⟨r,a,b1,b2,b3,b4⟩:=h.row _ r' hr';obtain⟨g0,ad,cap,g1,g2,g3⟩:=h1 r a (by rw[b2];exact he);refine⟨g0,ad,cap,g1,g2,?_⟩;unfold EI at *;rw[<- b3,<- b1,<- b2];split
   ·rename_i hnl;rwa [Ai hnl] at g3
   ·rename_i hnl;rw[An hnl] at g3;obtain⟨b,q1,q2,c,e,fr,q3,q4⟩:=g3;exact⟨b,by rw[h.ρ];exact q1,q2,c,e,fr,by rw[h.w];exact q3,q4⟩
 | CQ b off cv hcap hfull ha hc hr ht ih =>
  refine .CQ b off cv hcap hfull (fun h0 => ?_) (fun x e j p hx hj=>by rw[h.w];exact hc x e j p hx hj) ih ht;obtain⟨g1,g2,g3⟩:=ha h0;exact⟨g1,fun hb=>g2 (hban _ hb),by rw[h.w];exact g3⟩
 | agg hs _ ih=>exact .agg hs ih
 | D8 hs _ ih=>exact .D8 hs ih
 | fn h1 h2 _ _ ih3 ih4=>exact .fn h1 h2 ih3 ih4
 | JK _ ih=>exact .JK ih
 | HE hi hl hb =>
  obtain⟨r,info,h1,h2,h3⟩:=hl;exact .HE (by rw[h.len];exact hi) ⟨r,info,h.lp _ r h1 h3,h2,h3⟩ (by rw[h.ρ];exact hb)
 | mp hi hl hb =>
  obtain⟨r,info,h1,h2,h3⟩:=hl;exact .mp (by rw[h.len];exact hi) ⟨r,info,h.lp _ r h1 h3.1,h2,h3⟩ (by rw[h.ρ];exact hb)
 | gv hb hlt hc hV=>exact .gv (fun h=>hb (hban _ h)) (by rw[h.w];exact hlt) (by rw[h.w];exact hc) hV
 | bad hb=>exact .bad (hb.tr fun x v h1 h2 h3=>⟨fun hh=>h1 (hban _ hh),by rw[h.w];exact h2,by rw[h.w];exact h3⟩)
 | KI hp _ ih=>exact .KI hp ih

def Dv (r:Row):Row:=match r.live with | true=>{ r with es:=r.es.map fun _=>.agg (List.replicate r.s .any),bv:=false,fz:=true } | false=>r
def DP (R:List Nat) (H:List Row):List Row:=H.zipIdx.map fun x=>match R.contains x.2 with | true=>Dv x.1 | false=>x.1
theorem Eh (R:List Nat) (H:List Row):(DP R H).length=H.length:=by simp[DP]
theorem FM (R:List Nat) (H:List Row) (i:Nat):(DP R H)[i]? = H[i]?.map fun r=>if R.contains i then Dv r else r:=by
 simp only[DP,Ao,Br,AN,B7];congr 1
 funext r
 simp only[Function.comp];cases R.contains i <;> rfl
theorem Kc (r:Row):(Dv r).live=r.live:=by unfold Dv;split <;> simp_all
theorem Lq (r:Row):ShpR r (Dv r):=by unfold Dv;split <;> simp[ShpR]
theorem poisonRow_eq {r r':Row} (h:ShpR r r') (h1:r.live=true) (h2:r'.live=true) (h3:r.lp=r'.lp):Dv r=Dv r':=by
 obtain⟨a1,a2,a3,a4⟩:=h;cases r with | mk es s t bv live nl lp fz=>cases r' with | mk es' s' t' bv' live' nl' lp' fz' =>
 simp only at a1 a2 a3 a4 h1 h2 h3;subst a1;subst a3;subst a4;subst h1;subst h2;subst h3;simp only[Dv];congr 1
 rw[List.map_const',List.map_const',a2]
def Ctx.poi (C:Ctx) (R:List Nat):Ctx:={ C with H:=DP R C.H }
theorem poi_row {C:Ctx} {R:List Nat} (i:Nat):(C.poi R).row? i=(C.row? i).map fun r=>if R.contains i then Dv r else r:=by
 show rowAt (DP R C.H) i=(rowAt C.H i).map _
 unfold rowAt;rw[FM];cases C.H[i]? with
 | none=>rfl
 | some r =>
  have e:(if R.contains i=true then Dv r else r).live=r.live:=by split <;> simp[Kc]
  show (if (if R.contains i=true then Dv r else r).live=true then some (if R.contains i=true then Dv r else r) else none)=Option.map _ (if r.live=true then some r else none)
  rw[e];by_cases hl:r.live=true
  ·rw[Ai hl,Ai hl];rfl
  ·rw[An hl,An hl];rfl
theorem KL (C:Ctx) (R:List Nat):Shp C (C.poi R):=by
 refine⟨rfl,rfl,rfl,rfl,Eh R C.H,fun i r' hr => ?_,fun i r hr => ?_,fun i r hr hl => ?_,fun i r hr hl => ?_⟩
 ·rw[poi_row] at hr;obtain⟨r,a,rfl⟩:=Af.1 hr;refine⟨r,a,?_⟩;split
  ·exact Lq r
  ·exact⟨rfl,rfl,rfl,rfl⟩
 ·refine⟨_,by rw[poi_row,hr];rfl,?_⟩;dsimp only;split
  ·exact Lq r
  ·exact⟨rfl,rfl,rfl,rfl⟩
 ·show (DP R C.H)[i]? = _
  rw[FM,hr];simp only[AH];split
  ·unfold Dv;rw[hl]
  ·rfl
 ·have hr':(DP R C.H)[i]? = some r:=hr;rw[FM] at hr';obtain⟨q,a,b⟩:=Af.1 hr';have hq:q=r:=by
   split at b
   ·have:q.live=false:=by rw[<- Kc,b];exact hl
    unfold Dv at b;rw[this] at b;exact b
   ·exact b
  rw[a,hq]
theorem RB.DP {P:Program} {C:Ctx} {b:Nat} {r:Row} (h:RB P C b r):RB P C b (Dv r):=by
 unfold Dv;split
 ·obtain⟨c,fr,cv,m1,m2,m3,m4⟩:=h.mem;refine⟨h.sz,⟨c,fr,fun k j=>c.getD (k*r.s+j) undef,m1,fun hz=>by simp at hz,by simpa using m3,fun k e j p hk hj => ?_⟩,fun e he => ?_,fun hb=>by cases hb⟩
  ·simp only[Ao,Af] at hk;obtain⟨e0,hk0,rfl⟩:=hk;simp only[PV.cells] at hj;rw[Bx] at hj;split at hj
   ·rename_i hjs;cases hj;have hkl:=(Ad.1 hk0).1;have hlt:k*r.s+j<c.size:=by
     have h5:(k+1)*r.s<=r.es.length*r.s:=AY _ hkl;rw[A9,BJ] at h5;omega
    have g:c[k*r.s+j]? = some c[k*r.s+j]:=AB hlt;have e2:c.getD (k*r.s+j) undef=c[k*r.s+j]:=by rw[Bg,g];rfl
    exact⟨by simp only[e2];exact g,.any⟩
   ·cases hj
  ·simp only[AW] at he;obtain⟨_,_,rfl⟩:=he;simp[PV.cells]
 ·exact h
theorem RB.shp {P:Program} {C C':Ctx} (h:Shp C C') {b:Nat} {r:Row} (hr:RB P C b r):RB P C' b r:=by
 obtain⟨c,fr,cv,m1,m2,m3,m4⟩:=hr.mem;exact⟨hr.sz,⟨c,fr,cv,by rw[h.w];exact m1,m2,m3,fun k e j p hk hj=>⟨(m4 k e j p hk hj).1,(m4 k e j p hk hj).2.shp h⟩⟩,hr.len,hr.typed⟩
theorem Fj.shp {P:Program} {C C':Ctx} (h:Shp C C') {b:Nat} {info:Fe} (hr:Fj P C b info):Fj P C' b info:=by
 refine hr.via (fun _ _ _ hv=>hv.shp h) (fun t h5=>⟨h5.1,fun i p v g1 g2=>(h5.2 i p v g1 g2).shp h⟩) (fun hl => ?_) (fun es c h'=>by rw[h.w];exact h');obtain⟨⟨rec,h1,h2,h3,h4,h5,h6⟩,ha,hbd⟩:=hl;exact⟨⟨rec,by rw[h.w,h1],h2,h3,h4,⟨h5.1,fun i p v g1 g2=>(h5.2 i p v g1 g2).shp h⟩,h6⟩,ha,hbd⟩
theorem Fv.shp {P:Program} {C C':Ctx} (h:Shp C C') {S:List PV} {t:Array Value} (hs:Fv P C S t):Fv P C' S t:=
 ⟨hs.1,fun i p v h1 h2=>(hs.2 i p v h1 h2).shp h⟩
theorem RH.shp {P:Program} {C C':Ctx} (h:Shp C C') (hR:RH P C) (hb:∀ i b r,C.ρ i=some b->C'.row? i=some r->RB P C' b r):RH P C':=by
 refine⟨fun i j b h1 h2=>hR.inj i j b (by rw[<- h.ρ];exact h1) (by rw[<- h.ρ];exact h2),fun i b h1 => ?_,fun i b r h1 h2=>hb i b r (by rw[<- h.ρ];exact h1) h2,by rw[h.ro,h.len];exact hR.ro,
  fun i b h1=>by rw[h.fo];exact hR.Iu i b (by rw[<- h.ρ];exact h1),fun b hb=>by rw[h.w];exact hR.JL b (by rw[<- h.fo];exact hb),fun i b r info h1 h2 h3 h4 => ?_,fun g hl => ?_⟩
 ·rcases hR.KJ i b (by rw[<- h.ρ];exact h1) with ⟨r,hr⟩ | ⟨r,info,g1,g2,g3⟩
  ·obtain⟨r',hr',_⟩:=h.row' i r hr;exact .inl ⟨r',hr'⟩
  ·exact .inr ⟨r,info,h.lp i r g1 g3,g2,g3⟩
 ·exact (hR.Hw i b r info (by rw[<- h.ρ];exact h1) (h.lp' i r h2 h4) h3 h4).shp h
 ·obtain⟨g1,g2,g3⟩:=hR.K5 g hl;refine⟨fun hb=>g1 ?_,by rw[h.w];exact g2,by rw[h.w];exact g3⟩;rcases hb with ⟨i,hi⟩ | hf
  ·exact .inl ⟨i,by rw[<- h.ρ];exact hi⟩
  ·exact .inr (by rw[<- h.fo];exact hf)
theorem poi_rh {P:Program} {C:Ctx} (hR:RH P C) (R:List Nat):RH P (C.poi R):=by
 refine hR.shp (KL C R) fun i b r h1 h2 => ?_
 rw[poi_row] at h2;obtain⟨r0,a,rfl⟩:=Af.1 h2;have hB:=hR.Gv i b r0 h1 a;split
 ·exact hB.DP.shp (KL C R)
 ·exact hB.shp (KL C R)

def Ii (_:Row):Row:={ es:=[],s:=0,t:=0,bv:=true,live:=false }
def El (K:List Nat) (H:List Row):List Row:=H.zipIdx.map fun x=>match K.contains x.2 with | true=>x.1 | false=>Ii x.1
def HM (K:List Nat) (H H':List Row):List Row:=H.zipIdx.map fun x=>match K.contains x.2 with | true=>H'.getD x.2 x.1 | false=>x.1
theorem maskH_length (K:List Nat) (H:List Row):(El K H).length=H.length:=by simp[El]
theorem Ft (K:List Nat) (H H':List Row):(HM K H H').length=H.length:=by simp[HM]
theorem E9 (K:List Nat) (H:List Row) (i:Nat):(El K H)[i]? = H[i]?.map fun r=>if K.contains i then r else Ii r:=by
 simp only[El,Ao,Br,AN,B7];congr 1
 funext r
 simp only[Function.comp];cases K.contains i <;> rfl
theorem Hz (K:List Nat) (H H':List Row) (i:Nat):(HM K H H')[i]? = H[i]?.map fun r=>if K.contains i then H'.getD i r else r:=by
 simp only[HM,Ao,Br,AN,B7];congr 1
 funext r
 simp only[Function.comp];cases K.contains i <;> rfl
def inK (K:List Nat) (h i:Nat):Prop:=i<h/\K.contains i=true
instance (K:List Nat) (h i:Nat):Decidable (inK K h i):=inferInstanceAs (Decidable (_/\_))
def Ctx.mask (C:Ctx) (K:List Nat) (h:Nat):Ctx:=
 { ρ:=fun i=>if inK K h i then C.ρ i else none,H:=El K (C.H.take h),w:=C.w,fo:=fun b=>C.fo b\/∃ i,¬ inK K h i/\C.ρ i=some b,ro:=C.ro }
theorem GU {C:Ctx} {K:List Nat} {h:Nat} (hh:h<=C.H.length):(C.mask K h).H.length=h:=by simp[Ctx.mask,maskH_length];omega
theorem Kd {C:Ctx} {K:List Nat} {h i:Nat}:(C.mask K h).row? i=if inK K h i then C.row? i else none:=by
 show rowAt (El K (C.H.take h)) i=_
 unfold rowAt;rw[E9,Av];by_cases hk:inK K h i
 ·rw[Ai hk,Ai hk.1];simp only[hk.2,BO];cases hC:C.H[i]? with
  | none=>simp[Ctx.row?,rowAt,hC]
  | some r=>simp[Ctx.row?,rowAt,hC]
 ·rw[An hk];by_cases hi:i<h
  ·rw[Ai hi];have hc:K.contains i=false:=by
    cases hc:K.contains i with
    | false=>rfl
    | true=>exact absurd ⟨hi,hc⟩ hk
   simp only[hc,A2,B5];cases C.H[i]? with
   | none=>rfl
   | some r=>simp[Ii]
  ·rw[An hi];rfl
theorem HN {C:Ctx} {K:List Nat} {h b:Nat} (hb:¬ C.JZ b):¬ (C.mask K h).JZ b:=by
 rintro (⟨i,hi⟩ | hf | ⟨i,_,hi⟩)
 ·simp only[Ctx.mask] at hi;split at hi
  ·exact hb (.inl ⟨i,hi⟩)
  ·cases hi
 ·exact hb (.inr hf)
 ·exact hb (.inl ⟨i,hi⟩)

theorem RV.free {P:Program} {C C':Ctx} (hb:∀ b,C'.JZ b->C.JZ b) (hw:C'.w=C.w) {p:PV} {V:Value} (hv:RV P C p V):mlt 0 p=true->RV P C' p V:=by
 induction hv with
 | any=>intro _;exact .any
 | val=>intro _;exact .val
 | ptr=>intro hm;simp[mlt] at hm
 | sl=>intro hm;simp[mlt] at hm
 | HE=>intro hm;simp[mlt] at hm
 | mp=>intro hm;simp[mlt] at hm
 | gv hbn hlt hc hV=>intro _;exact .gv (fun h=>hbn (hb _ h)) (by rw[hw];exact hlt) (by rw[hw];exact hc) hV
 | bad hbn=>intro _;exact .bad (hbn.tr fun x v h1 h2 h3=>⟨fun hh=>h1 (hb _ hh),by rw[hw];exact h2,by rw[hw];exact h3⟩)
 | KI hp _ ih=>intro _;exact .KI hp (ih rfl)
 | Ee cv hbn hlt hc hr ht ih =>
  intro _;exact .Ee cv (fun h=>hbn (hb _ h)) (by rw[hw];exact hlt) (fun x p hx=>by rw[hw];exact hc x p hx) (fun x p hx=>ih x p hx (Ey ht 0 _ (Ag hx))) ht
 | CQ b off cv hcap hfull ha hc hr ht ih =>
  intro _;refine .CQ b off cv hcap hfull (fun h0 => ?_) (fun x e j p hx hj=>by rw[hw];exact hc x e j p hx hj) (fun x e j p hx hj=>ih x e j p hx hj (Ey (ht e (Ag hx)) 0 _ (Ag hj))) ht;obtain⟨g1,g2,g3⟩:=ha h0;exact⟨g1,fun h=>g2 (hb _ h),by rw[hw];exact g3⟩
 | agg hs _ ih=>intro hm;exact .agg hs fun j c v h1 h2=>ih j c v h1 h2 (C5 (by simpa [mlt] using hm) h1)
 | D8 hs _ ih=>intro hm;exact .D8 hs fun j c v h1 h2=>ih j c v h1 h2 (C5 (by simpa [mlt] using hm) h1)
 | fn h1 h2 _ _ ih3 ih4 =>
  intro hm;simp only[mlt,Aa] at hm;exact .fn h1 h2 (fun j c v g1 g2=>ih3 j c v g1 g2 (C5 hm.1 g1)) (fun j c v g1 g2=>ih4 j c v g1 g2 (C5 hm.2 g1))
 | JK _ ih=>intro hm;exact .JK (ih (by simpa [mlt] using hm))

def argOk (h:Nat):PV->Bool
 | .ptr i _ _ _=>decide (i<h)
 | p=>mlt 0 p
theorem mask_arg {P:Program} {C:Ctx} {K:List Nat} {h:Nat} (hh:h<=C.H.length) {p:PV} {V:Value} (hv:RV P C p V) (ho:argOk h p=true):RV P (C.mask K h) p V:=by
 have hfree:mlt 0 p=true->RV P (C.mask K h) p V:=hv.free (fun b hb=>AX fun hn=>HN hn hb) rfl;cases hv with
 | ptr hV hk hi hn h1 =>
  rename_i i _ _ _;have hm:i<h:=by simpa [argOk] using ho
  refine .ptr hV hk (by rw[GU hh];exact hm) (fun r hr => ?_) fun r hr he => ?_
  ·rw[Kd] at hr;split at hr
   ·exact hn r hr
   ·cases hr
  ·rw[Kd] at hr;split at hr
   ·rename_i hkk;obtain⟨b,g1,g2⟩:=h1 r hr he;exact⟨b,by simp[Ctx.mask,hkk,g1],g2⟩
   ·cases hr
 | _=>exact hfree (by simpa [argOk] using ho)

theorem mask_rh {P:Program} {C:Ctx} (hR:RH P C) {K:List Nat} {h:Nat} (hh:h<=C.H.length) (hro:C.ro<=h) (hk:Dj 0 (El K (C.H.take h))=true):RH P (C.mask K h):=by
 refine⟨fun i j b h1 h2 => ?_,fun i b h1 => ?_,fun i b r h1 h2 => ?_,by rw[GU hh];exact hro,fun i b h1 => ?_,fun b hb => ?_,fun i b r info h1 h2 h3 h4 => ?_,fun g hl=>⟨HN (hR.K5 g hl).1,(hR.K5 g hl).2⟩⟩
 ·simp only[Ctx.mask] at h1 h2;split at h1 <;> split at h2 <;> first | exact hR.inj _ _ _ h1 h2 | cases h1 | cases h2
 ·simp only[Ctx.mask] at h1;split at h1
  ·rename_i hi;rcases hR.KJ i b h1 with ⟨r,hr⟩ | ⟨r,info,g1,g2,g3⟩
   ·exact .inl ⟨r,by rw[Kd,Ai hi];exact hr⟩
   ·exact .inr ⟨r,info,by simp only[Ctx.mask];rw[E9,Av,Ai hi.1,g1];rw[AH,Ai hi.2],g2,g3⟩
  ·cases h1
 ·have h2':rowAt (El K (C.H.take h)) i=some r:=h2;rw[Kd] at h2;split at h2
  ·rename_i hi;simp only[Ctx.mask,hi,BO] at h1;have hB:=hR.Gv i b r h1 h2;obtain⟨c,fr,cv,m1,m2,m3,m4⟩:=hB.mem;refine⟨hB.sz,⟨c,fr,cv,m1,m2,m3,fun k e j p hk1 hj1=>⟨(m4 k e j p hk1 hj1).1,(m4 k e j p hk1 hj1).2.free (fun b hb=>AX fun hn=>HN hn hb) rfl ?_⟩⟩,hB.len,hB.typed⟩;rcases HL hk h2' with hb | hb
   ·exact Ey (hB.typed hb e (Ag hk1)) 0 p (Ag hj1)
   ·exact C5 (hb e (Ag hk1)) hj1
  ·cases h2
 ·simp only[Ctx.mask] at h1;split at h1
  ·rename_i hi
   rintro (hf | ⟨j,hj,hj2⟩)
   ·exact hR.Iu i b h1 hf
   ·have:=hR.inj i j b h1 hj2;subst this;exact hj hi
  ·cases h1
 ·rcases hb with hf | ⟨i,_,hi⟩
  ·exact hR.JL b hf
  ·exact hR.lt hi
 ·simp only[Ctx.mask] at h1 h2;split at h1
  ·rename_i hi;have h5:=IK hk h2 h3;rw[E9,Av,Ai hi.1] at h2;obtain⟨r0,g1,g2⟩:=Af.1 h2;rw[Ai hi.2] at g2;subst g2;refine (hR.Hw i b r0 info h1 g1 h3 h4).via (fun p V hp hv=>hv.free (fun b hb=>AX fun hn=>HN hn hb) rfl (IJ hp)) (fun t m5=>⟨m5.1,fun j p v g1 g2=>(m5.2 j p v g1 g2).free (fun b hb=>AX fun hn=>HN hn hb) rfl (C5 h5 g1)⟩) (fun hl => ?_) (fun _ _ h=>h);obtain⟨⟨rec,m1,m2,m3,m4,m5,m6⟩,ha,hb⟩:=hl;exact⟨⟨rec,m1,m2,m3,m4,⟨m5.1,fun j p v g1 g2=>(m5.2 j p v g1 g2).free (fun b hb=>AX fun hn=>HN hn hb) rfl (C5 h5 g1)⟩,m6⟩,ha,hb⟩
  ·cases h1

def Ctx.back (C C':Ctx) (K:List Nat) (h:Nat):Ctx:=
 { ρ:=fun i=>if inK K h i then C'.ρ i else C.ρ i,H:=(HM K (C.H.take h) C'.H)++C.H.drop h,w:=C'.w,fo:=C.fo,ro:=C.ro }
theorem Ge {C C':Ctx} {K:List Nat} {h:Nat} (hh:h<=C.H.length) (hl:h<=C'.H.length) (i:Nat):(C.back C' K h).H[i]? = if inK K h i then C'.H[i]? else C.H[i]?:=by
 have hlen:(HM K (C.H.take h) C'.H).length=h:=by rw[Ft,Az];omega
 show (HM K (C.H.take h) C'.H++C.H.drop h)[i]? = _
 rw[AL,hlen];by_cases hi:i<h
 ·rw[Ai hi,Hz,Av,Ai hi];have hC:C.H[i]? = some (C.H[i]'(by omega)):=Ae _;have hC':C'.H[i]? = some (C'.H[i]'(by omega)):=Ae _;rw[hC,hC'];simp only[AH];by_cases hk:K.contains i=true
  ·rw[Ai hk,Ai ⟨hi,hk⟩,AA,hC'];rfl
  ·rw[An hk,An (fun hh=>hk hh.2)]
 ·rw[An hi,An (fun hh=>hi hh.1),A8];congr 1;omega
theorem KM {C C':Ctx} {K:List Nat} {h:Nat} (hh:h<=C.H.length) (hl:h<=C'.H.length) (i:Nat):(C.back C' K h).row? i=if inK K h i then C'.row? i else C.row? i:=by
 unfold Ctx.row? rowAt;rw[Ge hh hl];by_cases hk:inK K h i
 ·rw[Ai hk,Ai hk]
 ·rw[An hk,An hk]
theorem backm_ban {C C':Ctx} {K:List Nat} {h:Nat} (hx:Ext (C.mask K h) C') (b:Nat) (hb:(C.back C' K h).JZ b):C'.JZ b:=by
 rcases hb with ⟨i,hi⟩ | hf
 ·simp only[Ctx.back] at hi;split at hi
  ·exact .inl ⟨i,hi⟩
  ·rename_i hk;refine .inr ?_;rw[hx.fo];exact .inr ⟨i,hk,hi⟩
 ·refine .inr ?_;rw[hx.fo];exact .inl hf
theorem mask_own {C:Ctx} (hR:∀ i j b,C.ρ i=some b->C.ρ j=some b->i=j) {K:List Nat} {h i b:Nat} (hk:¬ inK K h i) (hi:C.ρ i=some b):¬ (C.mask K h).own b:=by
 rintro⟨j,_,hj⟩
 simp only[Ctx.mask] at hj;split at hj
 ·rename_i hkj;exact hk (by rw[hR i j b hi hj];exact hkj)
 ·cases hj
theorem backm_ext {P:Program} {C C':Ctx} (_hR:RH P C) {K:List Nat} {h:Nat} (hh:h<=C.H.length) (hx:Ext (C.mask K h) C'):Ext C (C.back C' K h):=by
 have hl:h<=C'.H.length:=by have:=hx.len;rwa [GU hh] at this
 refine⟨hx.os,hx.tape,hx.output,hx.size,fun b hb ho=>hx.block b hb fun hm=>ho ?_,hx.shape,?_,fun i r' hi hr => ?_,fun b hb => ?_,fun b hb => ?_,rfl,rfl,fun i hi => ?_,fun i r info h1 h2 h3 => ?_,hx.loop⟩
 ·obtain⟨i,hir,hi⟩:=hm;simp only[Ctx.mask] at hi hir;split at hi
  ·exact⟨i,hir,hi⟩
  ·cases hi
 ·show C.H.length<=(HM K (C.H.take h) C'.H++C.H.drop h).length
  rw[Ar,Ft,Az,B1];omega
 ·rw[KM hh hl] at hr;split at hr
  ·rename_i hk;obtain⟨r,a1,a2,a3,a4,a5⟩:=hx.rows i r' (by rw[GU hh];exact hk.1) hr;rw[Kd,Ai hk] at a1;exact⟨r,a1,a2,a3,a4,fun e=>⟨(a5 e).1,fun b hb=>by
    show (if inK K h i then C'.ρ i else C.ρ i)=some b
    rw[Ai hk];exact (a5 e).2 b (by simp[Ctx.mask,hk,hb])⟩⟩
  ·rename_i hk;exact⟨r',hr,rfl,rfl,Ak _,fun _=>⟨rfl,fun b hb=>by
    show (if inK K h i then C'.ρ i else C.ρ i)=some b
    rw[An hk];exact hb⟩⟩
 ·obtain⟨i,hi⟩:=hb;simp only[Ctx.back] at hi;split at hi
  ·rcases hx.fresh b ⟨i,hi⟩ with ⟨j,hj⟩ | hs
   ·simp only[Ctx.mask] at hj;split at hj
    ·exact .inl ⟨j,hj⟩
    ·cases hj
   ·exact .inr hs
  ·exact .inl ⟨i,hi⟩
 ·obtain⟨i,hir,hi⟩:=hb;simp only[Ctx.back] at hi hir;split at hi
  ·rcases hx.DJ b ⟨i,by rw[hx.ro];exact hir,hi⟩ with ⟨j,hjr,hj⟩ | hs
   ·simp only[Ctx.mask] at hj hjr;split at hj
    ·exact .inl ⟨j,hjr,hj⟩
    ·cases hj
   ·exact .inr hs
  ·exact .inl ⟨i,hir,hi⟩
 ·obtain⟨g1,g2⟩:=hx.low i hi;refine⟨?_,?_⟩
  ·rw[Ge hh hl];split
   ·rename_i hk;rw[g1];simp only[Ctx.mask];rw[E9,Av,Ai hk.1];simp only[hk.2,BO];cases C.H[i]? <;> rfl
   ·rfl
  ·show (if inK K h i then C'.ρ i else C.ρ i)=_
   split
   ·rename_i hk;rw[g2];simp[Ctx.mask,hk]
   ·rfl
 ·by_cases hk:inK K h i
  ·obtain⟨⟨r',st,a1,a2,a3⟩,a4⟩:=hx.lp i r info (by simp only[Ctx.mask];rw[E9,Av,Ai hk.1,h1];rw[AH,Ai hk.2]) h2 h3;refine⟨⟨r',st,by rw[Ge hh hl,Ai hk];exact a1,a2,a3⟩,fun b hb => ?_⟩;show (if inK K h i then C'.ρ i else C.ρ i)=_
   rw[Ai hk];exact a4 b (by simp[Ctx.mask,hk,hb])
  ·refine⟨⟨r,info.st,by rw[Ge hh hl,An hk];exact h1,h2,h3⟩,fun b hb => ?_⟩;show (if inK K h i then C'.ρ i else C.ρ i)=_
   rw[An hk];exact hb
theorem backm_rh {P:Program} {C C':Ctx} (hR:RH P C) {K:List Nat} {h:Nat} (hh:h<=C.H.length) (hx:Ext (C.mask K h) C') (hR':RH P C') (hk:Dj 0 (El K (C'.H.take h))=true):RH P (C.back C' K h):=by
 have hl:h<=C'.H.length:=by have:=hx.len;rwa [GU hh] at this
 have hxe:=backm_ext hR hh hx;have hfree:∀ {p V},RV P C' p V->mlt 0 p=true->RV P (C.back C' K h) p V:=fun hv hm=>hv.free (backm_ban hx) rfl hm
 have hfo:∀ b,C'.fo b ↔ C.fo b\/∃ i,¬ inK K h i/\C.ρ i=some b:=fun b=>by rw[hx.fo];rfl
 have hold:∀ i b,¬ inK K h i->C.ρ i=some b->C'.w.heap[b]? = C.w.heap[b]?:=fun i b hk hi=>hx.block b (hR.lt hi) (mask_own hR.inj hk hi)
 have hKrow:∀ i r,inK K h i->C'.row? i=some r->r.bv=true\/∀ e ∈ r.es,EJ 0 e.cells=true:=by
  intro i r hki hr;refine HL hk (i:=i) ?_;have:=hr;unfold Ctx.row? rowAt at this;unfold rowAt;rw[E9,Av,Ai hki.1];simp only[Ai hki.2];cases hc:C'.H[i]? with
  | none=>rw[hc] at this;cases this
  | some q=>rw[hc] at this;exact this
 refine⟨fun i j b h1 h2 => ?_,fun i b h1 => ?_,fun i b r h1 h2 => ?_,A_ hR.ro hxe.len,fun i b h1 => ?_,fun b hb=>Ax (hR.JL b hb) hxe.size,fun i b r info h1 h2 h3 h4 => ?_,hR.K5.mono hxe⟩
 ·simp only[Ctx.back] at h1 h2;split at h1 <;> split at h2
  ·exact hR'.inj i j b h1 h2
  ·rename_i hi hj;exact absurd ((hfo b).2 (.inr ⟨j,hj,h2⟩)) (hR'.Iu i b h1)
  ·rename_i hi hj;exact absurd ((hfo b).2 (.inr ⟨i,hi,h1⟩)) (hR'.Iu j b h2)
  ·exact hR.inj i j b h1 h2
 ·simp only[Ctx.back] at h1;split at h1
  ·rename_i hki;rcases hR'.KJ i b h1 with ⟨r,hr⟩ | ⟨r,info,g1,g2,g3⟩
   ·exact .inl ⟨r,by rw[KM hh hl,Ai hki];exact hr⟩
   ·exact .inr ⟨r,info,by rw[Ge hh hl,Ai hki];exact g1,g2,g3⟩
  ·rename_i hki;rcases hR.KJ i b h1 with ⟨r,hr⟩ | ⟨r,info,g1,g2,g3⟩
   ·exact .inl ⟨r,by rw[KM hh hl,An hki];exact hr⟩
   ·exact .inr ⟨r,info,by rw[Ge hh hl,An hki];exact g1,g2,g3⟩
 ·rw[KM hh hl] at h2;simp only[Ctx.back] at h1;split at h1
  ·rename_i hki;rw[Ai hki] at h2;have hB:=hR'.Gv i b r h1 h2;obtain⟨c,fr,cv,m1,m2,m3,m4⟩:=hB.mem;refine⟨hB.sz,⟨c,fr,cv,m1,m2,m3,fun k e j p hk1 hj1=>⟨(m4 k e j p hk1 hj1).1,hfree (m4 k e j p hk1 hj1).2 ?_⟩⟩,hB.len,hB.typed⟩;rcases hKrow i r hki h2 with hb | hb
   ·exact Ey (hB.typed hb e (Ag hk1)) 0 p (Ag hj1)
   ·exact C5 (hb e (Ag hk1)) hj1
  ·rename_i hki;rw[An hki] at h2;exact (hR.Gv i b r h1 h2).mono hxe (hold i b hki h1)
 ·simp only[Ctx.back] at h1 ⊢;split at h1
  ·exact fun hf=>hR'.Iu i b h1 ((hfo b).2 (.inl hf))
  ·exact hR.Iu i b h1
 ·rw[Ge hh hl] at h2;simp only[Ctx.back] at h1;split at h1
  ·rename_i hki;rw[Ai hki] at h2;have h5:EJ 0 info.k.S0=true:=by
    refine IK hk (i:=i) (r:=r) ?_ h3;rw[E9,Av,Ai hki.1,h2];rw[AH,Ai hki.2]
   refine (hR'.Hw i b r info h1 h2 h3 h4).via (fun p V hp hv=>hfree hv (IJ hp)) (fun t m5=>⟨m5.1,fun j p v g1 g2=>hfree (m5.2 j p v g1 g2) (C5 h5 g1)⟩) (fun hl => ?_) (fun _ _ h=>h);obtain⟨⟨rec,m1,m2,m3,m4,m5,m6⟩,ha,hb⟩:=hl;exact⟨⟨rec,m1,m2,m3,m4,⟨m5.1,fun j p v g1 g2=>hfree (m5.2 j p v g1 g2) (C5 h5 g1)⟩,m6⟩,ha,hb⟩
  ·rename_i hki;rw[An hki] at h2;exact (hR.Hw i b r info h1 h2 h3 h4).mono hxe (hold i b hki h1)

theorem live_of {H:List Row} {i:Nat} {r:Row} (h:rowAt H i=some r):r.live=true:=by
 unfold rowAt at h;split at h
 ·split at h
  ·rename_i hlv;cases h;exact hlv
  ·cases h
 ·cases h
theorem set_range {P:Program} {C:Ctx} (hR:RH P C) {i b k:Nat} {r:Row} (hi:i<C.H.length) (hro:C.ro<=i) (hr:C.row? i=some r) (hfz:r.fz=false) (hρ:C.ρ i=some b) {news:List PV} {vs:List Value} (hk:k+news.length<=r.es.length)
  (hN:GZ P C r.s news vs) (hone:∀ v ∈ vs,v.oneCell'=true) {ty:Bool} (hty:ty=true->∀ e,e ∈ news->wt P r.t e=true):
  ∃ C',(storeCells ⟨b,k*r.s,none⟩ vs).run P C.w=.ok () C'.w/\Iv P C C' (C.H.set i { r with es:=r.es.take k++news++r.es.drop (k+news.length),bv:=r.bv&&ty }):=by
 have hB:=hR.Gv i b r hρ hr;obtain⟨c,fr,cv,m1,m2,m3,m4⟩:=hB.mem;have hlive:=live_of hr;have hks:(k+news.length)*r.s<=r.es.length*r.s:=AY _ hk;rw[A9,<- hN.len] at hks;obtain⟨w',c',g1,g2,g3⟩:=EV (P:=P) (b:=b) (off:=k*r.s) vs 0 C.w c m1 (m2 hfz) (by omega) hone;have hlen:(r.es.take k++news++r.es.drop (k+news.length)).length=r.es.length:=by simp;omega
 have hupd:({ C with H:=C.H.set i { r with es:=r.es.take k++news++r.es.drop (k+news.length),bv:=r.bv&&ty },w:=w' }:Ctx)=C.Hy i b { r with es:=r.es.take k++news++r.es.drop (k+news.length),bv:=r.bv&&ty } w':=by
  unfold Ctx.Hy;congr 1
  funext x
  split
  ·rename_i e;rw[e,hρ]
  ·rfl
 have hext:Ext C (C.Hy i b { r with es:=r.es.take k++news++r.es.drop (k+news.length),bv:=r.bv&&ty } w'):=by
  refine Mw hi hro hr hlive rfl rfl (by rw[hlen];exact Ak _) (fun _=>⟨rfl,fun b' hb'=>by rw[hρ] at hb';exact Ah hb'⟩) g2.os g2.tape g2.output (by rw[g2.size];exact Ak _) (fun b' hlt hno=>g2.other b' fun e=>hno ⟨i,hro,by rw[e];exact hρ⟩) (fun b' c1 e1 fr1 h1 => ?_) (fun b' rec h1 => ?_) (.inl hρ)
  ·by_cases hbb:b'=b
   ·subst hbb;rw[m1] at h1;cases h1;exact⟨c',_,g2.at_,g2.Lp⟩
   ·exact⟨c1,_,by rw[g2.other b' hbb];exact h1,rfl⟩
  ·have hbb:b' ≠ b:=fun e=>by subst e;rw[m1] at h1;cases h1
   rw[g2.other b' hbb];exact h1
 refine⟨C.Hy i b { r with es:=r.es.take k++news++r.es.drop (k+news.length),bv:=r.bv&&ty } w',g1,⟨rfl,hext,?_⟩⟩;refine upd_rh hR hext hi hlive (fun b' hlt hne=>g2.other b' fun e=>hne (by rw[e];exact hρ)) (.inl hρ) ?_;have part:∀ (x:Nat) e,(r.es.take k++news++r.es.drop (k+news.length))[x]? = some e->(r.es[x]? = some e/\(x<k\/k+news.length<=x))\/(news[x-k]? = some e/\k<=x/\x<k+news.length):=fun x e h=>by
  rw[BG,AL] at h;split at h
  ·rename_i hx;rw[Av] at h;split at h
   ·exact .inl ⟨h,.inl (by assumption)⟩
   ·cases h
  ·rename_i hx;rw[Az] at hx h;rw[Nat.min_eq_left (by omega)] at hx h;rw[AL] at h;split at h
   ·exact .inr ⟨h,by omega,by omega⟩
   ·rw[A8,show k+news.length+(x-k-news.length)=x by omega] at h;exact .inl ⟨h,.inr (by omega)⟩
 refine⟨hB.sz,⟨c',fr,fun k2 j2=>c'.getD (k2*r.s+j2) undef,g2.at_,fun hz off ho=>m2 hz off (by rw[<- g2.Lp];exact ho),by rw[hlen,g2.Lp];exact m3,fun k2 e2 j2 p2 hk2 hj2 => ?_⟩,fun e2 he2 => ?_,fun hbv e2 he2 => ?_⟩
 ·have key:∃ v,c'[k2*r.s+j2]? = some v/\RV P C p2 v:=by
   rcases part k2 e2 hk2 with ⟨q1,q2⟩ | ⟨q1,q2,q3⟩
   ·have hm:=m4 k2 e2 j2 p2 q1 hj2;have hj2s:j2<r.s:=by rw[<- hB.len _ (Ag q1)];exact (Ad.1 hj2).1
    refine⟨_,?_,hm.2⟩;rw[g3,An ?_]
    ·exact hm.1
    ·rintro⟨z1,z2⟩
     rw[hN.len] at z2;rcases q2 with q2 | q2
     ·have h5:(k2+1)*r.s<=k*r.s:=AY _ q2;rw[A9,BJ] at h5;omega
     ·have h5:(k+news.length)*r.s<=k2*r.s:=AY _ q2;rw[A9] at h5;omega
   ·obtain⟨v,z1,z2⟩:=hN.rel (k2-k) e2 j2 p2 q1 hj2;refine⟨v,?_,z2⟩;have h5:k*r.s<=k2*r.s:=AY _ q2;have hlt:=(Ad.1 z1).1;rw[Nat.sub_mul] at z1 hlt;rw[g3,Ai (by omega),<- z1];congr 1
    omega
  obtain⟨v,q1,q2⟩:=key;have e2':c'.getD (k2*r.s+j2) undef=v:=by rw[Bg,q1];rfl
  simp only[e2'];exact⟨q1,q2.mono hext⟩
 ·obtain⟨x,hx⟩:=Bb he2;rcases part x e2 hx with ⟨q1,_⟩ | ⟨q1,_⟩
  ·exact hB.len _ (Ag q1)
  ·exact hN.el _ (Ag q1)
 ·simp only[Aa] at hbv;obtain⟨x,hx⟩:=Bb he2;rcases part x e2 hx with ⟨q1,_⟩ | ⟨q1,_⟩
  ·exact hB.typed hbv.1 _ (Ag q1)
  ·exact hty hbv.2 _ (Ag q1)

def zCell:Kind->Value->PV
 | .sl t,.slice none 0 0=>.CQ false t []
 | _,v=>.val v
def zeroE (P:Program) (e:TypeId) (z:Value):PV:=.agg ((List.range z.cells.size).map fun j=>zCell ((kinds P e).getD j .other) (z.cells.getD j undef))
theorem zCell_rv {P:Program} {C:Ctx} (k:Kind) (v:Value):RV P C (zCell k v) v:=by
 unfold zCell;split
 ·exact .CQ (es:=[]) 0 0 (fun _ _=>undef) (by simp) (fun hf=>by cases hf) (fun h0=>by simp at h0) (fun x e j p hx=>by simp at hx) (fun x e j p hx=>by simp at hx) (fun e he=>by simp at he)
 ·exact .val
theorem zeroE_cells (P:Program) (e:TypeId) (z:Value):(zeroE P e z).cells=(List.range z.cells.size).map fun j=>zCell ((kinds P e).getD j .other) (z.cells.getD j undef):=rfl
theorem zeroE_rel {P:Program} {C:Ctx} {e:TypeId} {z:Value} (hz:z.cells.size=P.cellsOf e) (len:Nat):GZ P C (P.cellsOf e) (List.replicate len (zeroE P e z)) (Builtin.zeroCells z.cells len).toList:=by
 refine⟨by simp[Builtin.zeroCells,hz],fun p hp => ?_,fun k p j q h1 h2 => ?_⟩
 ·have:=Cc hp;subst this;rw[zeroE_cells];simp[hz]
 ·rw[Bx] at h1;split at h1
  ·rename_i hk;cases h1;rw[zeroE_cells,Ao] at h2;obtain⟨x,hx,rfl⟩:=Af.1 h2;have hj:j<z.cells.size:=by
    have:=(Ad.1 hx).1;simpa using this
   rw[Ba hj] at hx;cases hx;have hz2:z.cells.getD j undef=z.cells[j]:=by simp[hj]
   refine⟨z.cells[j],?_,by rw[hz2];exact zCell_rv _ _⟩;have hlt:k*P.cellsOf e+j<len*z.cells.size:=by
    have h5:(k+1)*P.cellsOf e<=len*P.cellsOf e:=AY _ (by omega);rw[A9,BJ] at h5;rw[hz] at hj ⊢;omega
   unfold Builtin.zeroCells;rw[AI,B0,<- AI,CE,Ba hlt];simp only[AH,A3,hz];rw[CI,Nat.mul_add_mod,Nat.mod_eq_of_lt (by omega)];simp[hj]
  ·cases h1
def zPV (P:Program) (e:TypeId) (z:Value):PV:=bif wt P e (.val z) then .val z else zeroE P e z
def clearRow (P:Program) (e:TypeId) (z:Value) (r:Row) (k len:Nat):Row:={ r with es:=r.es.take k++List.replicate len (zPV P e z)++r.es.drop (k+len),bv:=r.bv&&wt P e (zPV P e z) }
def clearOk (P:Program) (e:TypeId) (z:Value):Bool:=known P e&&z.cells.size==P.cellsOf e&&z.cells.toList.all (fun v=>Gc (.val v))&&okc (.val z)
def clearQ (P:Program) (ro:Nat) (H:List Row) (c:Call) (x:PV):Option (PV × List Row):=
 match c.argTypes[0]? with
 | some T =>
  match P.underlying T with
  | some (.slice e) =>
   match EL P e with
   | some z =>
    match x with
    | .sl i n k len =>
     match rowAt H i with
     | some r =>
      if decide (ro<=i)&&r.t==e&&clearOk P e z && !r.fz&&(r.es.length==n) then
       some (.val (.tuple #[]),if r.nl then H else H.set i (clearRow P e z r k len)) else none
     | none=>none
    | .val (.slice none 0 0)=>some (.val (.tuple #[]),H)
    | _=>none
   | none=>none
  | _=>none
 | none=>none
def usQ (P:Program) (ro:Nat) (H:List Row) (c:Call) (x y:PV):Option (PV × List Row):=
 match c.argTypes[0]? with
 | some T =>
  match P.underlying T with
  | some (.pointer e) =>
   match x,y with
   | .ptr i n 0 0,.val (.int .i64 m) =>
    match rowAt H i with
    | some r =>
     if decide (ro<=i)&&Ln P e&&r.t==e&&r.bv&&(r.es.length==n)&&decide (0<m)&&decide (m<=n)&&decide (m<=9223372036854775807) then
      some (.val (.string (strB ((r.es.drop 0).take m.toNat))),H.set i { r with fz:=true }) else none
    | none=>none
   | .val (.pointer none),.val (.int .i64 0)=>some (.val (.string .empty),H)
   | _,_=>none
  | _=>none
 | none=>none
def Lr (P:Program) (ro:Nat) (H:List Row) (f:Operand->PV):Op->Option (PV × List Row)
 | .call c =>
  match c.callee with
  | .builtin .clear=>match c.args.toList with | [x]=>clearQ P ro H c (f x) | _=>none
  | .builtin .unsafeString=>match c.args.toList with | [x,y]=>usQ P ro H c (f x) (f y) | _=>none
  | _=>none
 | _=>none

theorem zero_rel {P:Program} {C:Ctx} {e:TypeId} {z:Value} (hz:z.cells.size=P.cellsOf e) (ho:okc (.val z)=true) (len:Nat):GZ P C (P.cellsOf e) (List.replicate len (.val z)) (Builtin.zeroCells z.cells len).toList:=by
 have h6:=(RV.Jf (P:=P) (C:=C) (V:=z) .val ho);refine⟨by simp[Builtin.zeroCells,hz],fun p hp => ?_,fun k p j q h1 h2 => ?_⟩
 ·have:=Cc hp;subst this;rw[<- h6.1,hz]
 ·rw[Bx] at h1;split at h1
  ·rename_i hk;cases h1;have hj:j<z.cells.size:=by rw[h6.1];exact (Ad.1 h2).1
   have hz2:z.cells[j]? = some z.cells[j]:=AB hj;refine⟨z.cells[j],?_,h6.2 j q _ h2 hz2⟩;have hlt:k*P.cellsOf e+j<len*z.cells.size:=by
    have h5:(k+1)*P.cellsOf e<=len*P.cellsOf e:=AY _ (by omega);rw[A9,BJ] at h5;rw[hz] at hj ⊢;omega
   unfold Builtin.zeroCells;rw[AI,B0,<- AI,CE,Ba hlt];simp only[AH,A3,hz];rw[CI,Nat.mul_add_mod,Nat.mod_eq_of_lt (by omega)];simp[hj]
  ·cases h1
theorem zPV_rel {P:Program} {C:Ctx} {e:TypeId} {z:Value} (hz:z.cells.size=P.cellsOf e) (ho:okc (.val z)=true) (len:Nat):GZ P C (P.cellsOf e) (List.replicate len (zPV P e z)) (Builtin.zeroCells z.cells len).toList:=by
 unfold zPV;cases wt P e (.val z) with
 | true=>exact zero_rel hz ho len
 | false=>exact zeroE_rel hz len
theorem clearQ_sound {P:Program} {C:Ctx} {c:Call} {x p:PV} {X:Value} {H':List Row} (hR:RH P C) (hx:RV P C x X) (h:clearQ P C.ro C.H c x=some (p,H')) (ty:TypeId):
  ∃ v C',(Builtin.clear_ c.argTypes ty #[X]).run P C.w=.ok v C'.w/\Iv P C C' H'/\RV P C' p v:=by
 unfold clearQ at h;split at h
 ·rename_i T hT;split at h
  ·rename_i e hu;split at h
   ·rename_i z hz;split at h
    ·rename_i i n k len;split at h
     ·rename_i r hr;split at h
      ·rename_i hc;simp only[Aa,Aw,Ab,Al] at hc;obtain⟨⟨⟨⟨hro,ht⟩,hok⟩,hfz⟩,hn⟩:=hc;unfold clearOk at hok;simp only[Aa,Aw] at hok;obtain⟨⟨⟨hkn,hzs⟩,hzc⟩,hzo⟩:=hok;cases h;cases hx with
       | sl hV hi hle hh =>
        obtain⟨hk,a,cap,rfl,hlc,hsl⟩:=hh r hr hn;unfold EI at hsl;split at hsl
        ·rename_i hnl;obtain⟨rfl,rfl⟩:=hsl;rw[Ai hnl];refine⟨_,C,?_,⟨rfl,.refl C,hR⟩,.val⟩;simp only[Builtin.clear_,hT,Bt,AV,Sem.run_bind,run_underlying hu,Result.andThen_ok];rfl
        ·rename_i hnl;obtain⟨b,hρ,rfl,c0,ee,fr,hheap,hcs⟩:=hsl;rw[An hnl];have hB:=hR.Gv i b r hρ hr;have hsz:r.s=P.cellsOf e:=by rw[hB.sz,ht]
         have hrel:=zPV_rel (P:=P) (C:=C) (e:=e) hzs hzo len;rw[<- hsz] at hrel;obtain⟨C',g1,g2⟩:=set_range (ty:=wt P e (zPV P e z)) hR hi hro hr hfz hρ (k:=k) (by simp;omega) hrel (fun v hv=>by
          have hv2:v ∈ z.cells:=by
           unfold Builtin.zeroCells at hv;simp only[Array.toList_map,AW,Array.mem_toList_iff,Array.mem_range] at hv;obtain⟨y,hy,rfl⟩:=hv;have:y % z.cells.size<z.cells.size:=Nat.mod_lt _ (by
            rcases Cm z.cells.size with h0 | h0
            ·rw[h0] at hy;omega
            ·exact h0)
           rw[getElem!_pos z.cells _ this];exact Array.getElem_mem _
          exact RV.oneCell (P:=P) (C:=C) (p:=.val v) .val (Ap.1 hzc v (by simpa using hv2))) (fun hty p hp=>by
          have:=Cc hp;subst this;rw[ht];exact hty)
         rw[B8] at g2;by_cases h0:len=0
         ·subst h0;have hw:C'.w=C.w:=by
           have:(storeCells ⟨b,k*r.s,none⟩ (Builtin.zeroCells z.cells 0).toList).run P C.w=.ok () C.w:=by simp[Builtin.zeroCells,storeCells]
           rw[this] at g1;exact (Result.ok.inj g1).2.symm
          refine⟨_,C',?_,g2,.val⟩;rw[hw];simp only[Builtin.clear_,hT,Bt,AV,Sem.run_bind,run_underlying hu,Result.andThen_ok];rfl
         ·refine⟨_,C',?_,g2,.val⟩;obtain⟨m,rfl⟩:∃ m,len=m+1:=⟨len-1,by omega⟩;simp only[Builtin.clear_,hT,Bt,AV,Sem.run_bind,run_underlying hu,Result.andThen_ok,E8 hz,g1];rfl
      ·cases h
     ·cases h
    ·cases h;cases hx;refine⟨_,C,?_,⟨rfl,.refl C,hR⟩,.val⟩;simp only[Builtin.clear_,hT,Bt,AV,Sem.run_bind,run_underlying hu,Result.andThen_ok];rfl
    ·cases h
   ·cases h
  ·cases h
 ·cases h
theorem MC {P:Program} (w:World):∀ (l:List Int) (b off:Nat) (acc:ByteArray),(∀ j x,l[j]? = some x->w.cell? ⟨b,off+j,none⟩=some (.int .u8 x)) ->
  (loadBytes ⟨b,off,none⟩ acc l.length).run P w=.ok ⟨acc.data++(l.map fun n=>n.toNat.toUInt8).toArray⟩ w
 | [],b,off,acc,_=>by simp[loadBytes]
 | x::l,b,off,acc,h=>by
  have h0:w.cell? ⟨b,off,none⟩=some (.int .u8 x):=h 0 x rfl;have ih:=MC (P:=P) w l b (off+1) (acc.push x.toNat.toUInt8) (fun j y hy=>by
   rw[show off+1+j=off+(j+1) by omega];exact h (j+1) y (by simpa using hy))
  simp only[Ay,loadBytes,Sem.run_bind,run_load,h0,Result.andThen,E3];rw[ih];congr 1
  apply ByteArray.ext
  simp[ByteArray.push]
theorem freeze_at {w:World} {b:Nat} {c:Array Value} {t:TypeId} {fr:Nat × Nat} (h:w.heap[b]? = some (.cells c t fr)) (n:Nat):∃ fr',(w.freeze ⟨b,0,none⟩ n).heap[b]? = some (.cells c t fr'):=by
 unfold World.freeze;split
 ·exact⟨fr,h⟩
 ·obtain⟨lo,hi⟩:=fr;exact⟨if lo==hi then (0,0+n) else (min lo 0,max hi (0+n)),by simp[Array.getElem?_modify,h]⟩
theorem Hm {w:World} {b x:Nat} (hx:x ≠ b) (n:Nat):(w.freeze ⟨b,0,none⟩ n).heap[x]? = w.heap[x]?:=by
 unfold World.freeze;split
 ·rfl
 ·simp only[B9];rw[An (fun e=>hx e.symm)]
theorem freeze_rest (w:World) (b n:Nat):(w.freeze ⟨b,0,none⟩ n).os=w.os/\(w.freeze ⟨b,0,none⟩ n).tape=w.tape/\(w.freeze ⟨b,0,none⟩ n).output=w.output/\(w.freeze ⟨b,0,none⟩ n).heap.size=w.heap.size:=by
 unfold World.freeze;split
 ·exact⟨rfl,rfl,rfl,rfl⟩
 ·exact⟨rfl,rfl,rfl,by simp⟩
theorem usQ_sound {P:Program} {C:Ctx} {c:Call} {x y p:PV} {X Y:Value} {H':List Row} (hR:RH P C) (hx:RV P C x X) (hy:RV P C y Y) (h:usQ P C.ro C.H c x y=some (p,H')) (ty:TypeId):
  ∃ v C',(Builtin.unsafeString_ c.argTypes ty #[X,Y]).run P C.w=.ok v C'.w/\Iv P C C' H'/\RV P C' p v:=by
 unfold usQ at h;split at h
 ·rename_i T hT;split at h
  ·rename_i e hu;split at h
   ·rename_i i n m;split at h
    ·rename_i r hr;split at h
     ·rename_i hc;simp only[Aa,Ab,Aw] at hc;obtain⟨⟨⟨⟨⟨⟨⟨hro,hbk⟩,ht⟩,hbv⟩,hn⟩,hm0⟩,hmn⟩,hmm⟩:=hc;cases h;cases hy;cases hx with
      | ptr hV hk hi hle hh =>
       obtain⟨b,hb,rfl⟩:=hh r hr hn;have hB:=hR.Gv i b r hb hr;obtain⟨ca,fr,cv,m1,m2,m3,m4⟩:=hB.mem;have hsz:r.s=1:=by rw[hB.sz,ht];exact (D5 hbk).2.1
       have hlive:=live_of hr;rw[CJ,AN,AM];generalize hl:(r.es.take m.toNat).map (fun p=>(p.cellAt 0).Dn)=l;have hll:l.length=m.toNat:=by rw[<- hl];simp;omega
       have hcell:∀ j x,l[j]? = some x->C.w.cell? ⟨b,0+j,none⟩=some (.int .u8 x):=by
        intro j x hj;rw[<- hl,Ao] at hj;obtain⟨q,hq,rfl⟩:=Af.1 hj;rw[Av] at hq;split at hq
        ·have hw:=hB.typed hbv q (Ag hq);rw[ht] at hw;obtain⟨g1,g2⟩:=m4 j q 0 _ hq (Jg hbk hw);rw[hsz,CH,Bq] at g1;rw[AN,IF m1,g1];generalize hcv:cv j 0=v at g2;cases g2;rfl
        ·cases hq
       have hlb:=MC (P:=P) C.w l b 0 .empty hcell;have hlies:=Go.Lib.liesAt_bytes (P:=P) (D5 hbk).2.1 (ca.size / P.cellsOf e) l.length (by rw[(D5 hbk).2.1,hll];simp;rw[hsz] at m3;omega);obtain⟨fr',hfr⟩:=freeze_at m1 l.length;obtain⟨f1,f2,f3,f4⟩:=freeze_rest C.w b l.length;have hm:m=(l.length:Int):=by omega
       have hrun:(Builtin.unsafeString_ c.argTypes ty #[.pointer (some ⟨b,0,none⟩),.int .i64 m]).run P C.w=.ok (.string ⟨ByteArray.empty.data++(l.map fun n=>n.toNat.toUInt8).toArray⟩) (C.w.freeze ⟨b,0,none⟩ l.length):=by
        have hdef:Builtin.unsafeString_ c.argTypes ty #[.pointer (some ⟨b,0,none⟩),.int .i64 m] =
          (do
           let n <- asInt (.int .i64 m)
           let some pt:=c.argTypes[0]? | stuck "unsafe.String: no argument types"
           if n<0 then runtimePanic (.error "unsafe.String: len out of range")
           if n > IntKind.i64.max then unsupported (.unsafePointer "String: a length above the largest int")
           if n=0 then pure (.string .empty)
           else if <- variablesAt ⟨b,0,none⟩ (<- elemOf pt) n.toNat then do
            let s <- loadBytes ⟨b,0,none⟩ .empty n.toNat
            freeze ⟨b,0,none⟩ n.toNat
            pure (.string s)
           else unsupported (.unsafePointer "String: not so many bytes at ptr")):=rfl
        rw[hdef];have hmax:IntKind.i64.max=9223372036854775807:=rfl;have h1:¬ m<0:=by omega
        have h2:¬ (9223372036854775807:Int)<m:=by omega
        have h3:¬ m=0:=by omega
        have hsh:C.w.shape? b=some (e,ca.size):=by simp[World.shape?,m1,ht]
        simp[hT,asInt,asIntOf,hmax,h1,h2,h3,variablesAt,hsh,elemOf,run_underlying hu];rw[<- hll,hlies];simp[hlb]
       have hext:Ext C (C.Hy i b { r with fz:=true } (C.w.freeze ⟨b,0,none⟩ l.length)):=by
        refine Mw hi hro hr hlive rfl rfl (Ak _) (fun _=>⟨rfl,fun b' hb'=>by rw[hb] at hb';exact Ah hb'⟩) f1 f2 f3 (by rw[f4];exact Ak _) (fun b' _ hno=>Hm (fun e=>hno ⟨i,hro,by rw[e];exact hb⟩) _) (fun b' c1 e1 fr1 h1 => ?_) (fun b' rec h1=>by rw[Hm (fun e=>by rw[e,m1] at h1;cases h1)];exact h1) (.inl hb);by_cases hbb:b'=b
        ·subst hbb;rw[m1] at h1;cases h1;exact⟨_,fr',hfr,rfl⟩
        ·exact⟨c1,fr1,by rw[Hm hbb];exact h1,rfl⟩
       refine⟨_,C.Hy i b { r with fz:=true } (C.w.freeze ⟨b,0,none⟩ l.length),hrun,⟨rfl,hext,?_⟩,?_⟩
       ·exact upd_rh hR hext hi hlive (fun b' _ hne=>Hm (fun e=>hne (by rw[e];exact hb)) _) (.inl hb) ⟨hB.sz,⟨ca,fr',cv,hfr,fun hz=>by simp at hz,m3,fun k q j z q1 q2=>⟨(m4 k q j z q1 q2).1,(m4 k q j z q1 q2).2.mono hext⟩⟩,hB.len,hB.typed⟩
       ·have e1:(⟨ByteArray.empty.data++(l.map fun n=>n.toNat.toUInt8).toArray⟩:ByteArray)=strB (r.es.take m.toNat):=by
         unfold strB strOfNums;rw[hl];apply ByteArray.ext
         simp
        rw[e1];exact .val
     ·cases h
    ·cases h
   ·cases h;cases hx;cases hy;refine⟨_,C,?_,⟨rfl,.refl C,hR⟩,.val⟩;have hmax:IntKind.i64.max=9223372036854775807:=rfl;have hdef:Builtin.unsafeString_ c.argTypes ty #[.pointer none,.int .i64 0] =
      (do
       let n <- asInt (.int .i64 0)
       let some pt:=c.argTypes[0]? | stuck "unsafe.String: no argument types"
       if n<0 then runtimePanic (.error "unsafe.String: len out of range")
       if n > IntKind.i64.max then unsupported (.unsafePointer "String: a length above the largest int")
       if n=0 then pure (.string .empty)
       else runtimePanic (.error "unsafe.String: ptr is nil and len is not zero")):=rfl
    rw[hdef];simp[hT,asInt,asIntOf,hmax]
   ·cases h
  ·cases h
 ·cases h
theorem moreQ_sound {P:Program} {C:Ctx} {f:Operand->PV} {g:Operand->Value} {o:Oper} {p:PV} {H':List Row} (hR:RH P C) (hv:∀ x ∈ o.op.operands,RV P C (f x) (g x)) (h:Lr P C.ro C.H f o.op=some (p,H')):
  ∃ v C',(execOp g o).run P C.w=.ok (.value v) C'.w/\Iv P C C' H'/\RV P C' p v:=by
 obtain⟨dst,op,type,pos,after,guard⟩:=o;simp only at h hv;cases op <;> simp only[Lr,reduceCtorEq] at h
 rename_i c;split at h
 ·rename_i hc;split at h
  ·rename_i x hargs;obtain⟨v,C',g1,g2,g3⟩:=clearQ_sound hR (hv x (by simp[Op.operands,Call.operands,hc];exact Array.mem_toList_iff.1 (by rw[hargs];simp))) h type;have hca:c.args = #[x]:=by apply Bs;simpa using hargs
   refine⟨v,C',?_,g2,g3⟩;simp only[execOp,resolve,hc,hca,Sem.run_bind,Sem.run_pure,Result.andThen_ok,invoke,builtin,BC,AZ,Bu,g1]
  ·cases h
 ·rename_i hc;split at h
  ·rename_i x y hargs;have hca:c.args = #[x,y]:=by apply Bs;simpa using hargs
   obtain⟨v,C',g1,g2,g3⟩:=usQ_sound hR (hv x (by simp[Op.operands,Call.operands,hc,hca])) (hv y (by simp[Op.operands,Call.operands,hc,hca])) h type;refine⟨v,C',?_,g2,g3⟩;simp only[execOp,resolve,hc,hca,Sem.run_bind,Sem.run_pure,Result.andThen_ok,invoke,builtin,BC,AZ,Bu,g1]
  ·cases h
 ·cases h

inductive PX where
 | normal | exit (id:Nat) | ret
 deriving DecidableEq,Inhabited

structure Env where
 Ff:FuncId->List PV->Option PV:=fun _ _=>none
 live:FuncId->Nat->Option (List Tmp):=fun _ _=>none
 lo:FuncId->Nat->Nat->List PV->List Row->Option (PX × List PV × List Row):=fun _ _ _ _ _=>none
 JU:FuncId->Bool:=fun _=>false
 Gq:Nat->FuncId->List PV->List Row->Option (PV × List Row):=fun _ _ _ _=>none
 Ke:FuncId->Nat->List (Tmp × TypeId × Nat):=fun _ _=>[]
 pure:FuncId->Bool:=fun _=>false
 drop:FuncId->Nat->Option (Nat × Bool):=fun _ _=>none
 fgt:FuncId->Nat->List Nat:=fun _ _=>[]
 EP:Nat->List Row->(Operand->PV)->Op->Option (PV × List Row):=fun _ _ _ _=>none
 chain:FuncId->Nat->Bool:=fun _ _=>false
 Ec:Nat->List Row->(Operand->PV)->Op->Option (PV × List Row):=fun _ _ _ _=>none
 piv:FuncId->Nat->Option Nat:=fun _ _=>none
 soft:FuncId->Nat->Bool:=fun _ _=>false
 F9:List Row->(Operand->PV)->Op->Option PV:=fun _ _ _=>none

mutual
def plain:PV->Bool
 | .val _=>true
 | .any=>true
 | .agg cs=>plains cs
 | .D8 cs=>plains cs
 | .JK _ v=>plain v
 | _=>false
def plains:List PV->Bool
 | []=>true
 | p::ps=>plain p&&plains ps
end
theorem LM:∀ {ps:List PV} {j:Nat} {p:PV},plains ps=true->ps[j]? = some p->plain p=true
 | [],j,p,_,hj=>by simp at hj
 | q::ps,0,p,hm,hj=>by simp at hj;subst hj;simp only[plains,Aa] at hm;exact hm.1
 | q::ps,j+1,p,hm,hj=>by simp only[plains,Aa] at hm;exact LM hm.2 (by simpa using hj)
theorem RV.plain {P:Program} {C C':Ctx} {p:PV} {V:Value} (hv:RV P C p V):plain p=true->RV P C' p V:=by
 induction hv with
 | any=>intro _;exact .any
 | val=>intro _;exact .val
 | agg hs _ ih=>intro hm;exact .agg hs fun j c v h1 h2=>ih j c v h1 h2 (LM (by simpa [Hx.plain] using hm) h1)
 | D8 hs _ ih=>intro hm;exact .D8 hs fun j c v h1 h2=>ih j c v h1 h2 (LM (by simpa [Hx.plain] using hm) h1)
 | JK _ ih=>intro hm;exact .JK (ih (by simpa [Hx.plain] using hm))
 | ptr=>intro hm;simp[Hx.plain] at hm
 | Ee=>intro hm;simp[Hx.plain] at hm
 | sl=>intro hm;simp[Hx.plain] at hm
 | CQ=>intro hm;simp[Hx.plain] at hm
 | fn=>intro hm;simp[Hx.plain] at hm
 | HE=>intro hm;simp[Hx.plain] at hm
 | mp=>intro hm;simp[Hx.plain] at hm
 | gv=>intro hm;simp[Hx.plain] at hm
 | bad=>intro hm;simp[Hx.plain] at hm
 | KI=>intro hm;simp[Hx.plain] at hm

def resOne (P:Program) (S:List PV) (H:List Row):ResultVar->Option PV
 | .tmp t=>some (S.getD t (.val undef))
 | .cell a t=>if Ig H (S.getD a (.val undef)) then loadQ P H t (S.getD a (.val undef)) else none
def Jk (P:Program) (S:List PV) (H:List Row):List ResultVar->Option (List PV)
 | []=>some []
 | r::rs=>match resOne P S H r,Jk P S H rs with | some p,some ps=>some (p::ps) | _,_=>none
def resQ (P:Program) (fn:Func) (S:List PV) (H:List Row):Option PV:=
 match Jk P S H fn.results.toList with
 | some [p]=>some p
 | some ps=>some (.D8 ps)
 | none=>none

def settle (h:Nat) (p:PV) (H:List Row):PV × List Row:=
 if mlt h (frz H h p)&&Dj h (H.take h) then (frz H h p,H.take h) else (p,H)

abbrev Ex:=Nat->FuncId->Code->List PV->List Row->Option (PX × List PV × List Row)

def Gr (E:Env) (k:FuncId) (args:List PV) (H:List Row):Option PV:=
 match E.Ff k (GR H 0 args) with
 | some r=>if EJ 0 (GR H 0 args)&&mlt 0 r&&(plain r||EJ 0 args) then some r else none
 | none=>none
def callX (P:Program) (ex:Ex) (ro:Nat) (k:FuncId) (args:List PV) (H:List Row):Option (PV × List Row):=
 match P.funcs[k]? with
 | some fn =>
  match fn.body with
  | some b =>
   if fn.name == "runtime.NumGoroutine" then none else
   match ex ro k b (args++List.replicate (fn.ntmps-args.length) (.val undef)) H with
   | some (.normal,S',H') | some (.ret,S',H')=>(resQ P fn S' H').map fun p=>(p,H')
   | _=>none
  | none=>none
 | none=>none
def HO (P:Program) (E:Env) (ex:Ex) (ro:Nat) (k:FuncId) (args:List PV) (H:List Row):Option (PV × List Row):=
 match E.Gq ro k args H with
 | some r=>some r
 | none=>callX P ex ro k args H
def callG (P:Program) (E:Env) (ex:Ex) (ro:Nat) (k:FuncId) (args:List PV) (H:List Row):Option (PV × List Row):=
 match Gr E k args H with
 | some r=>some (r,H)
 | none =>
  match HO P E ex ro k args H with
  | some (p,H')=>if E.JU k then some (p,H') else some (settle H.length p H')
  | none=>none
def callE (P:Program) (E:Env) (ex:Ex) (k:FuncId) (args:List PV) (H:List Row):Option PV:=
 if EJ H.length args&&Dj H.length H then
  match Gr E k args H with
  | some r=>some r
  | none =>
   match HO P E ex H.length k args H with
   | some (p,H')=>if mlt H.length (frz H' H.length p) then some (frz H' H.length p) else none
   | none=>none
 else none

def setPs (S:List PV) (ps:List Tmp) (args:List PV):List PV:=(ps.zip args).foldl (fun S x=>S.set x.1 x.2) S
def Ij (H:List Row) (i:Nat) (st:LSt):Option (List Row):=
 match H[i]? with
 | some r=>match r.live,r.lp with | false,some info=>some (H.set i { r with lp:=some ⟨info.k,st⟩ }) | _,_=>none
 | none=>none
def Ix (H:List Row) (i:Nat):Option Fe:=
 match H[i]? with
 | some r=>match r.live with | false=>r.lp | true=>none
 | none=>none
def LN:PX->Option Code
 | .normal=>none
 | .exit id=>some (.exit id)
 | .ret=>some .ret
def yieldQ (ex:Ex) (ro i:Nat) (args:List PV) (H:List Row):Option (Bool × List Row):=
 match Ix H i with
 | some ⟨k,.ready⟩ =>
  if decide (ro<=i)&&args.length==k.ps.size then
   match ex ro k.f k.He (setPs k.S0 k.ps.toList args) H with
   | some (.normal,S1,H1) =>
    match Ix H1 i,Ij H1 i .busy with
    | some ⟨_,.ready⟩,some H2 =>
     match ex ro k.f k.body S1 H2 with
     | some (x,_,H3) =>
      match LN x with
      | none=>(Ij H3 i .ready).map fun H4=>(true,H4)
      | some j=>(Ij H3 i (.done j)).map fun H4=>(false,H4)
     | none=>none
    | _,_=>none
   | _=>none
  else none
 | _=>none
def Ez (f:FuncId) (S:List PV) (ps:Array Tmp) (He body:Code):Row:={ es:=[],s:=0,t:=0,bv:=true,live:=false,lp:=some ⟨⟨f,S,ps,He,body⟩,.ready⟩ }
def overQ (S:List PV) (i:Nat) (H:List Row):Option (PX × List PV × List Row):=
 match Ix H i,Ij H i .over with
 | some ⟨_,.ready⟩,some H'=>some (.normal,S,H')
 | some ⟨_,.done .ret⟩,some H'=>some (.ret,S,H')
 | some ⟨_,.done (.exit id)⟩,some H'=>some (.exit id,S,H')
 | _,_=>none

def moreE (P:Program) (E:Env) (ro:Nat) (H:List Row) (f:Operand->PV) (op:Op):Option (PV × List Row):=
 match E.EP ro H f op with
 | some r=>some r
 | none=>Lr P ro H f op
def inpE {α:Type} (Ec:Nat->List Row->(Operand->PV)->Op->Option α) (ro:Nat) (H:List Row) (f:Operand->PV) (op:Op):Option α:=
 match op with
 | .slice t x lo hi mx=>Ec ro H f (.slice t x lo hi mx)
 | .convert s d x=>Ec ro H f (.convert s d x)
 | .buildSlice t n parts=>Ec ro H f (.buildSlice t n parts)
 | .call c=>match c.callee with | .builtin _=>Ec ro H f (.call c) | _=>none
 | _=>none
def Ls (P:Program) (E:Env) (ex:Ex) (ro:Nat) (S:List PV) (H:List Row) (o:Oper):Option (PV × List Row):=
 match inpE E.Ec ro H (ev S) o.op with
 | some r=>some r
 | none =>
 match Gw P H (ev S) o.op with
 | some p=>some (p,H)
 | none =>
  match JT P H (ev S) o.op with
  | some (p,r)=>some (p,H++[r])
  | none =>
   match o.op with
   | .store T a x=>(GY P ro H T (ev S a) (ev S x)).map fun H'=>(.val undef,H')
   | .call c =>
    match c.callee with
    | .builtin .append=>match c.args.toList with | [x,y]=>Es P ro H c (ev S x) (ev S y) | _=>none
    | .value g =>
     match ev S g with
     | .fn (.func k) first cap=>callG P E ex ro k (first++c.args.toList.map (ev S)++cap) H
     | .HE i=>(yieldQ ex ro i (c.args.toList.map (ev S)) H).map fun r=>(.val (.bool r.1),r.2)
     | _=>none
    | _=>moreE P E ro H (ev S) o.op
   | _=>moreE P E ro H (ev S) o.op

def Ha (P:Program) (E:Env) (ex:Ex) (S:List PV) (H:List Row) (o:Oper):Option (PV × List Row):=
 match Gw P H (ev S) o.op with
 | some p=>some (p,H)
 | none =>
  match JT P H (ev S) o.op with
  | some (p,r)=>some (p,H++[r])
  | none =>
   match o.op with
   | .call c =>
    match c.callee with
    | .value g=>match ev S g with | .fn (.func k) first cap=>(callE P E ex k (first++c.args.toList.map (ev S)++cap) H).map fun p=>(p,H) | _=>none
    | _=>none
   | _=>none

def DG (S:List PV) (d:Option Tmp) (p:PV):List PV:=match d with | some d=>S.set d p | none=>S

def Ef (ops:Array Oper) (S:List PV) (o:Oper):Option (Bool × List PV):=
 match o.guard with
 | none=>some (true,S)
 | some (j,want) =>
  match (ops[j]?).bind (·.dst) with
  | none=>some (false,S)
  | some d =>
   match S[d]? with
   | none=>some (false,S)
   | some (.val (.bool t))=>match t with | true=>some (want,S.set d (.val (.bool true))) | false=>some (!want,S.set d (.val (.bool false)))
   | some (.val _)=>some (false,S)
   | some _=>none

def K6 (step:List PV->List Row->Oper->Option (PV × List Row)) (ops:Array Oper):List Oper->List PV->List Row->Option (List PV × List Row)
 | [],S,H=>some (S,H)
 | o::os,S,H =>
  match Ef ops S o with
  | some (true,S1)=>match step S1 H o with | some (p,H1)=>K6 step ops os (DG S1 o.dst p) H1 | none=>none
  | some (false,S1)=>K6 step ops os (DG S1 o.dst (.val undef)) H
  | none=>none

def maskOf (acc:List Nat) (o:Oper):Nat:=o.after.toList.foldl (fun s e=>if Region.binds .any e then s ||| 2 ^ e.on ||| acc.getD e.on 0 else s) 0
def Dp:List Oper->List Nat->List Nat
 | [],acc=>acc
 | o::os,acc=>Dp os (acc++[maskOf acc o])
def Gf (P:Program) (ops:List Oper):Bool:=
 let m:=Dp ops []
 P.follows .mixedOrders&&Region.noSelect ops.toArray &&
 (ops.zipIdx.all fun (o,j)=>o.after.all (fun e => !Region.binds .any e||decide (e.on<j)) &&
  (ops.zipIdx.all fun (q,i) => !decide (i<j)||(q.apart ops.toArray o)||(m.getD j 0).testBit i))

def isStore (o:Oper):Bool:=match o.op with | .store _ _ _=>true | _=>false
def ptrRows (args:List PV):List Nat:=args.filterMap fun p=>match p with | .ptr i _ _ _=>some i | _=>none
def slRows (args:List PV):List Nat:=args.filterMap fun p=>match p with | .sl i _ _ _=>some i | _=>none
def wRows (pure:FuncId->Bool) (f:FuncId) (args:List PV):List Nat:=match pure f with | true=>[] | false=>ptrRows args
def Gy (S:List PV) (op:Op):Option (FuncId × List PV):=
 match op with
 | .call c =>
  match c.callee with
  | .value g=>match ev S g with | .fn (.func f) first cap=>some (f,first++c.args.toList.map (ev S)++cap) | _=>none
  | _=>none
 | _=>none
def growQ (S:List PV) (op:Op):Option (Call × Nat × PV × PV):=
 match op with
 | .call c =>
  match c.callee with
  | .builtin .append =>
   match c.args.toList with
   | [x,y]=>match ev S x with | .sl i n 0 len=>some (c,i,.sl i n 0 len,ev S y) | _=>none
   | _=>none
  | _=>none
 | _=>none
def isSl:PV->Bool | .sl _ _ _ _=>true | _=>false
def cellG (H:List Row):PV->PV
 | .ptr i _ k _=>match H[i]? with | some r=>(match r.bv with | true=>.any | false=>((r.es.getD k .any).cells.find? isSl).getD .any) | none=>.any
 | _=>.any
def DY (pu:FuncId->Bool) (H:List Row) (S:List PV):List Oper->Nat->List (Bool × List Nat × List Nat)
 | [],_=>[]
 | o::os,h =>
  match o.op with
  | .store _ a _=>(true,ptrRows [ev S a],[])::DY pu H S os h
  | .alloc _=>(false,[h],[])::DY pu H (DG S o.dst (.ptr h 0 0 0)) os (h+1)
  | .box _ _=>(false,[h],[])::DY pu H (DG S o.dst (.ptr h 0 0 0)) os (h+1)
  | .buildSlice _ _ _=>(false,[h],[])::DY pu H (DG S o.dst (.sl h 0 0 0)) os (h+1)
  | .makeSlice _ _ _=>(false,[h],[])::DY pu H (DG S o.dst .any) os (h+1)
  | .fieldAddr _ x _=>(false,[],[])::DY pu H (DG S o.dst (ev S x)) os h
  | .indexAddr _ x _=>(false,[],[])::DY pu H (DG S o.dst (match ev S x with | .sl i n k _=>.ptr i n k 0 | p=>p)) os h
  | .move x=>(false,[],[])::DY pu H (DG S o.dst (ev S x)) os h
  | .assign x=>(false,[],[])::DY pu H (DG S o.dst (ev S x)) os h
  | .load _ x=>(false,[],[])::DY pu H (DG S o.dst (cellG H (ev S x))) os h
  | .nilCheck x=>(false,[],[])::DY pu H (DG S o.dst (ev S x)) os h
  | op =>
   match Gy S op with
   | some (f,args)=>(!(wRows pu f args).isEmpty,wRows pu f args,[])::DY pu H (DG S o.dst .any) os h
   | none =>
    match growQ S op with
    | some (_,i,_,_)=>(true,[i],[i])::DY pu H (DG S o.dst (.sl i 0 0 0)) os h
    | none=>(false,[],[])::DY pu H (DG S o.dst .any) os h
def FT (W:List (List Nat)) (m:List Nat) (n j:Nat):List Nat:=
 (List.range n).flatMap fun i=>match i==j||(m.getD j 0).testBit i||(m.getD i 0).testBit j with | true=>[] | false=>W.getD i []
def shpB (r r':Row):Bool:=r.live&&r'.live&&r.s==r'.s&&r.es.length==r'.es.length&&r.nl==r'.nl&&r.t==r'.t&&r.lp.isNone&&r'.lp.isNone
def shpsB (K:List Nat) (H H':List Row):Bool:=K.all fun x=>match H[x]?,H'[x]? with | some r,some r'=>shpB r r' | _,_=>false

def kill (K:List Nat) (H:List Row):List Row:=H.zipIdx.map fun x=>match K.contains x.2 with | true=>Ii x.1 | false=>x.1
def Lt (P:Program) (E:Env) (ex:Ex) (K:List Nat) (S:List PV) (H:List Row) (o:Oper):Option (PV × List Row):=
 match K with
 | []=>Ha P E ex S H o
 | k::K =>
  match Gw P (kill (k::K) H) (ev S) o.op with
  | some p=>some (p,H)
  | none=>(JT P H (ev S) o.op).map fun x=>(x.1,H++[x.2])
def Kf (P:Program) (E:Env) (ex:Ex) (W R K:List Nat) (S:List PV) (H:List Row) (o:Oper):Option (PV × List Row):=
 match Lt P E ex K S (DP R H) o with
 | some (p,H1) =>
  match H1.drop H.length with
  | []=>some (p,H)
  | [r]=>if W.contains H.length && !R.contains H.length then some (p,H++[r]) else none
  | _=>none
 | none=>none
def MD (R:List Nat):PV->Bool
 | .sl i _ _ _ => !R.contains i
 | .CQ _ _ _=>true
 | _=>false
def stepM (P:Program) (E:Env) (ex:Ex) (ro:Nat) (W R K G:List Nat) (S:List PV) (H:List Row) (o:Oper):Option (PV × List Row):=
 match o.op with
 | .store T a x =>
  match ev S a with
  | .ptr i n k j=>if W.contains i && !R.contains i then (GY P ro H T (.ptr i n k j) (ev S x)).map fun H'=>(.val undef,H') else none
  | _=>none
 | _ =>
  match Gy S o.op with
  | some (f,args) =>
   match wRows E.pure f args with
   | []=>Kf P E ex W R K S H o
   | K =>
    if K.all (fun x=>W.contains x && !R.contains x)&&args.all (argOk H.length)&&decide (ro<=H.length)&&Dj 0 (El K H) then
     match HO P E ex ro f args (El K H) with
     | some (p,H')=>if plain p&&Dj 0 (El K (H'.take H.length))&&shpsB K H H' then some (p,HM K H H') else none
     | none=>none
    else none
  | none =>
   match growQ S o.op with
   | some (c,i,x,y)=>if W.contains i && !R.contains i&&G.contains i&&MD R y then Es P ro H c x y else none
   | none=>Kf P E ex W R K S H o

def chainB (op:Op):Bool:=match op with | .call _=>true | .lookup _ _ _ _=>true | .mapUpdate _ _ _ _=>true | .mapEntry _ _ _=>true | .entryStore _ _ _ _=>true | .store _ _ _=>true | .alloc _=>true | .box _ _=>true | .buildSlice _ _ _=>true | .makeSlice _ _ _=>true | _=>false
def Gz (op:Op):Bool:=match op with | .lookup _ _ _ false=>true | _=>false
def isEnt (op:Op):Bool:=match op with | .mapEntry _ _ _=>true | _=>false
def softP (sf:Bool) (a b:Op):Bool:=sf&&(Gz a&&(isEnt b||Gz b)||Gz b&&isEnt a)
def GO (op:Op):Bool:=match op with | .buildSlice _ _ _=>true | _=>false
def freeJ (sf:Bool) (m:List Nat) (ops:List Oper) (j:Nat) (o:Oper):Bool:=
 sf&&GO o.op&&ops.zipIdx.any fun (q,i) => !Nat.beq i j&&chainB q.op && !(m.getD j 0).testBit i && !(m.getD i 0).testBit j
def Lu (sf:Bool) (m:List Nat) (ops:List Oper):List Bool:=ops.zipIdx.map fun x=>freeJ sf m ops x.2 x.1
def freeQ (P:Program) (f:Operand->PV) (op:Op):Option PV:=
 match JT P [] f op with
 | some (.sl 0 n 0 l,r)=>if r.bv&&r.es.length==n&&l==n then some (.CQ false r.t r.es) else none
 | _=>none
def isAlloc (op:Op):Bool:=match op with | .alloc _=>true | _=>false
def earlyB (m:List Nat) (ops:List Oper) (j:Nat) (o:Oper):Bool:=isAlloc o.op&&ops.zipIdx.any fun (q,i)=>decide (i<j)&&chainB q.op && !(m.getD j 0).testBit i
def earlyI (sf:Bool) (m:List Nat) (ops:List Oper):Nat:=match sf with | true=>(ops.zipIdx.findIdx fun (o,j)=>earlyB m ops j o) | false=>ops.length
def ME (P:Program) (op:Op):Bool:=
 match op with
 | .alloc T=>(match EL P T with | some z=>okc (.val z)&&z.cells.size==P.cellsOf T | none=>false)
 | _=>false
def earlyOk1 (m:List Nat) (ops:List Oper) (f:Nat) (a o:Oper) (j:Nat):Bool:=
 Nat.beq j f||(!Gz o.op && !(o.dst==a.dst)&&(!decide (f<j) || !(chainB o.op||(match a.dst with | some d=>(o.looksAt ops.toArray).contains d | none=>false)) ||
  ((m.getD j 0).testBit f&&ops.zipIdx.all fun (q,i) => !decide (i<f) || !chainB q.op||(m.getD j 0).testBit i)))
def earlyOk (P:Program) (m:List Nat) (ops:List Oper) (f:Nat):Bool:=
 match ops[f]? with
 | some a=>ME P a.op&&ops.zipIdx.all fun x=>earlyOk1 m ops f a x.1 x.2
 | none=>true
def MF (P:Program) (sf:Bool) (m:List Nat) (ops:List Oper):Bool:=
 earlyOk P m ops (earlyI sf m ops) &&
 ops.zipIdx.all fun (o,j) => !chainB o.op||ops.zipIdx.all fun (q,i) => !decide (i<j) || !chainB q.op||(m.getD j 0).testBit i||softP sf o.op q.op||(Lu sf m ops).getD j false||(Lu sf m ops).getD i false||Nat.beq j (earlyI sf m ops)
def mpsOf:PV->List Nat
 | .mp i=>[i]
 | .agg cs=>cs.filterMap fun c=>match c with | .mp i=>some i | _=>none
 | _=>[]
def Fc (args:List PV):List Nat:=args.flatMap mpsOf
def argM1 (K:List Nat) (h:Nat):PV->Bool
 | .mp i=>K.contains i&&decide (i<h)
 | p=>mlt 0 p
def argM (K:List Nat) (h:Nat):PV->Bool
 | .agg cs=>cs.all (argM1 K h)
 | p=>argM1 K h p
def deadsB (K:List Nat) (H H':List Row):Bool:=K.all fun x=>match H[x]?,H'[x]? with | some r,some r' => !r.live && !r'.live | _,_=>false
def stOp:Op->Option (TypeId × Operand × Operand)
 | .store T a x=>some (T,a,x)
 | _=>none
def apOp:Op->Option (Call × Operand × Operand)
 | .call c=>match c.callee with | .builtin .append=>(match c.args.toList with | [x,y]=>some (c,x,y) | _=>none) | _=>none
 | _=>none
def G0 (P:Program) (H:List Row):List PV->List Oper->Nat->List (List Nat)
 | _,[],_=>[]
 | S,o::os,h =>
  match o.op with
  | .store _ a _=>ptrRows [ev S a]::G0 P H S os h
  | .alloc _=>[]::G0 P H (DG S o.dst (.ptr h 0 0 0)) os (h+1)
  | .box _ _=>[]::G0 P H (DG S o.dst (.ptr h 0 0 0)) os (h+1)
  | .buildSlice _ _ _=>[]::G0 P H (DG S o.dst (.sl h 0 0 0)) os (h+1)
  | op =>
   match growQ S op with
   | some (_,i,_,_)=>[i]::G0 P H (DG S o.dst (.sl i 0 0 0)) os h
   | none=>match Gy S op with
   | some (_,args)=>(ptrRows args++slRows args)::G0 P H (DG S o.dst .any) os h
   | none=>match Gw P H (ev S) op with | some p=>[]::G0 P H (DG S o.dst p) os h | none=>[]::G0 P H (DG S o.dst .any) os h
def IM (K:List Nat):Nat->List Row->List Row
 | _,[]=>[]
 | i,r::H=>(bif K.contains i then { es:=[],s:=0,t:=0,bv:=true,live:=false } else r)::IM K (i+1) H
theorem maskO_get {K:List Nat}:∀ {i:Nat} {H:List Row} (x:Nat),(IM K i H)[x]? = H[x]?.map fun r=>bif K.contains (i+x) then { es:=[],s:=0,t:=0,bv:=true,live:=false } else r
 | _,[],x=>by simp[IM]
 | i,r::H,0=>by simp[IM]
 | i,r::H,x+1=>by
  show (IM K (i+1) H)[x]? = _
  rw[maskO_get x,show i+1+x=i+(x+1) by omega];rfl
theorem maskO_len {K:List Nat}:∀ {i:Nat} {H:List Row},(IM K i H).length=H.length
 | _,[]=>rfl
 | i,r::H=>by show (IM K (i+1) H).length+1=_;rw[maskO_len];rfl
def inW (h0:Nat) (K:List Nat) (i:Nat):Bool:=K.contains i||decide (h0<=i)
def killOk (h0:Nat) (x:PV) (H':List Row):Bool:=match x with | .sl i _ _ _=>(match rowAt H' i with | some _=>true | none=>decide (h0<=i)) | _=>true
def apOk (h0:Nat) (K:List Nat):PV->Bool | .sl i _ _ _=>inW h0 K i | _=>true
noncomputable def JO (P:Program) (E:Env) (ex:Ex) (ro h0:Nat) (K:List Nat) (S:List PV) (H:List Row) (o:Oper):Option (PV × List Row):=
 match stOp o.op with
 | some (T,a,x) =>
  match ev S a with
  | .ptr i n k j=>if inW h0 K i then (GY P ro H T (.ptr i n k j) (ev S x)).map fun H'=>(.val undef,H') else none
  | _=>none
 | none =>
  match Gy S o.op with
  | some (f,args) =>
   match E.JU f with
   | true =>
    match Gr E f args H with
    | some r=>some (r,H)
    | none =>
    match HO P E ex ro f args H with
    | some (p,H')=>if GQ (IM K 0 (H'.take H.length)) (IM K 0 H) then some (p,H') else none
    | none=>none
   | false =>
   if args.all (argM (Fc args) H.length)&&decide (ro<=H.length)&&Dj 0 (El (Fc args) H) then
    match HO P E ex ro f args (El (Fc args) H) with
    | some (p,H')=>if plain p&&Dj 0 (El (Fc args) (H'.take H.length))&&deadsB (Fc args) H H' then some (p,HM (Fc args) H H') else none
    | none=>none
   else none
  | none =>
   match JT P H (ev S) o.op with
   | some (p,r)=>some (p,H++[r])
   | none =>
    match apOp o.op with
    | some (c,x,y)=>if apOk h0 K (ev S x) then (match inpE E.Ec ro H (ev S) o.op with | some r=>if killOk h0 (ev S x) r.2 then some r else none | none=>Es P ro H c (ev S x) (ev S y)) else none
    | none =>
     match E.EP ro H (ev S) o.op with
     | some (p,H')=>if H'.length=H.length then some (p,H') else none
     | none=>none
noncomputable def Kg (sf:Bool) (F:List Bool) (P:Program) (E:Env) (ex:Ex) (ro h0:Nat) (W:List (List Nat)) (m:List Nat) (n j:Nat) (S:List PV) (H:List Row) (o:Oper):Option (PV × List Row):=
 match Gw P (kill (FT W m n j) (H.take h0)) (ev S) o.op with
 | some p=>some (p,H)
 | none=>if chainB o.op then (if F.getD j false&&GO o.op then (freeQ P (ev S) o.op).map (fun p=>(p,H)) else if sf&&Gz o.op then (E.F9 H (ev S) o.op).map (fun p=>(p,H)) else JO P E ex ro h0 (W.getD j []) S H o) else none
def Kh (step:Nat->List PV->List Row->Oper->Option (PV × List Row)) (ops:Array Oper):Nat->List Oper->List PV->List Row->Option (List PV × List Row)
 | _,[],S,H=>some (S,H)
 | j,o::os,S,H =>
  match Ef ops S o with
  | some (true,S1)=>match step j S1 H o with | some (p,H1)=>Kh step ops (j+1) os (DG S1 o.dst p) H1 | none=>none
  | some (false,S1)=>Kh step ops (j+1) os (DG S1 o.dst (.val undef)) H
  | none=>none
def stepP (P:Program) (E:Env) (ex:Ex) (S:List PV) (H:List Row) (o:Oper):Option (PV × List Row):=
 match Ha P E ex S H o with
 | some (p,H1)=>if H1.length=H.length then some (p,H) else none
 | none=>none
def Ki (P:Program) (E:Env) (ex:Ex) (ro pv j:Nat) (S:List PV) (H:List Row) (o:Oper):Option (PV × List Row):=
 if j=pv then Ls P E ex ro S H o else stepP P E ex S H o
def isYld:PV->Bool
 | .HE _=>true
 | _=>false
def yldOp (ops:List Oper) (S:List PV) (o:Oper):Bool:=
 match o.op with
 | .call c =>
  match c.callee with
  | .builtin .unsafeString=>true
  | .value (.tmp t)=>isYld (ev S (.tmp t))||ops.any fun o=>match o.dst,o.op with | some d,.move x=>d==t&&isYld (ev S x) | _,_=>false
  | _=>false
 | _=>false
def pivot (ops:List Oper) (S:List PV):Option Nat:=ops.findIdx? (yldOp ops S)
def pivotE (p:Option Nat) (ops:List Oper) (S:List PV):Option Nat:=match p with | some j=>some j | none=>pivot ops S
def MG (m:List Nat) (n pv:Nat):Bool:=decide (pv<n)&&(List.range n).all fun j=>j==pv||(m.getD pv 0).testBit j||(m.getD j 0).testBit pv
def mixed (G:List (Bool × List Nat × List Nat)):Bool:=G.any fun x=>x.1
def stepsM (P:Program) (E:Env) (ex:Ex) (ro:Nat) (W G:List (List Nat)) (m:List Nat) (n j:Nat):List PV->List Row->Oper->Option (PV × List Row):=
 stepM P E ex ro (W.getD j []) (FT W m n j) (FT G m n j) (G.getD j [])

def Ed:Code->Nat
 | .region id _ _=>id
 | .seq a _=>Ed a
 | .block _ b=>Ed b
 | .loop b=>Ed b
 | .scope b=>Ed b
 | _=>0

def ES (l:Option (List Tmp)) (S:List PV):List PV:=
 match l with
 | some l=>S.zipIdx.map fun (p,i)=>if l.contains i then p else .any
 | none=>S
def aggCells:PV->Option (List PV)
 | .agg cs=>some cs
 | .val (.agg a)=>some (a.toList.map .val)
 | _=>none
theorem aggCells_eq {e:PV} {cs:List PV} (h:aggCells e=some cs):e.cells=cs:=by
 unfold aggCells at h;split at h <;> cases h <;> rfl
def nilCell (ro h:Nat) (H:List Row) (i c:Nat):Option (List Row):=
 match decide (ro<=i),H[i]? with
 | true,some r =>
  match r.live && !r.bv&&(match r.lp with | none=>true | some _=>false),r.es with
  | true,[e] =>
   match aggCells e with
   | some cs =>
    match cs[c]? with
    | some (.val (.slice none 0 0))=>some (H.set i { r with es:=[.agg (cs.set c (.sl h 0 0 0))] })
    | _=>none
   | none=>none
  | _,_=>none
 | _,_=>none
def Gs (ro:Nat):List (Tmp × TypeId × Nat)->List PV->List Row->List PV × List Row
 | [],S,H=>(S,H)
 | (d,t,s)::l,S,H =>
  match decide (d<1000) with
  | true =>
   match S[d]? with
   | some (.val (.slice none 0 0)) =>
    match Nat.beq s 0 with
    | true=>Gs ro l (S.set d (.CQ false t [])) H
    | false=>Gs ro l (S.set d (.sl H.length 0 0 0)) (H++[{ es:=[],s,t,bv:=true,nl:=true }])
   | _=>Gs ro l S H
  | false =>
   match nilCell ro H.length H ((d-1000) / 100) ((d-1000) % 100) with
   | some H1=>Gs ro l S (H1++[{ es:=[],s,t,bv:=true,nl:=true }])
   | none=>Gs ro l S H
def HP (h:Nat) (S:List PV):List PV:=S.map fun p=>if mlt h p then p else .any

def MH (body:List PV->List Row->Option (PX × List PV × List Row)) (live:Option (List Tmp)) (ro:Nat):Nat->List PV->List Row->Option (PX × List PV × List Row)
 | 0,_,_=>none
 | m+1,S,H =>
  match body (ES live S) H with
  | some (.normal,S1,H1) =>
   if EJ H.length (ES live S1)&&decide (H.length<=H1.length)&&Dj H.length (H1.take H.length)&&decide (ro<=H.length) then MH body live ro m (HP H.length (ES live S1)) (H1.take H.length)
   else MH body live ro m (ES live S1) H1
  | r=>r

def C6:Row:={ es:=[],s:=0,t:=0,bv:=true,live:=false }
def frzE (H:List Row) (h:Nat) (e:PV):PV:=.agg (e.cells.map (frz H h))
def lfz (P:Program) (H:List Row) (h:Nat):PV->PV
 | .ptr i n k j =>
  match decide (h<=i) with
  | true =>
   match rowAt H i with
   | some r =>
    match r.bv&&r.es.length==n&&decide (k<n) with
    | true=>.Ee r.t (r.es.getD k .any) j
    | false =>
     match !r.bv&&r.es.length==n&&decide (k<n)&&((r.es.getD k .any).cells.all fun c=>mlt h (frz H h c))&&wt P r.t (frzE H h (r.es.getD k .any)) with
     | true=>.Ee r.t (frzE H h (r.es.getD k .any)) j
     | false=>.any
   | none=>.any
  | false=>.ptr i n k j
 | p=>match mlt h (frz H h p) with | true=>frz H h p | false=>.any
def deepE (P:Program) (H:List Row) (h:Nat) (e:PV):PV:=.agg (e.cells.map (lfz P H h))
def FB (P:Program) (H:List Row) (h:Nat) (r:Row):Row:=
 match r.live with
 | false=>r
 | true=>match r.bv with | true=>r | false=>{ r with es:=r.es.map (deepE P H h),bv:=(r.es.map (deepE P H h)).all (wt P r.t) }
def lpOk (h:Nat) (H:List Row):Bool:=H.all fun r=>match r.lp with | some info=>EJ h info.k.S0 | none=>true
def JP (P:Program) (ro:Nat) (o:Option (Nat × Bool)) (S:List PV) (H:List Row):List PV × List Row:=
 match o with
 | none=>(S,H)
 | some (h,false) =>
  match decide (ro<=h)&&decide (h<=H.length)&&Dj h (H.take h)&&(H.drop h).all (fun r=>r.lp.isNone) with
  | true=>(S.map (lfz P H h),H.take h++List.replicate (H.length-h) C6)
  | false=>(S,H)
 | some (h,true) =>
  match Nat.beq ro 0&&decide (h<=H.length)&&lpOk h (H.take h)&&(H.drop h).all (fun r=>r.lp.isNone) with
  | true=>(S.map (lfz P H h),(H.take h).map (FB P H h)++List.replicate (H.length-h) C6)
  | false=>(S,H)

def forget:List Nat->List PV->List PV
 | [],S=>S
 | k::ks,S=>forget ks (S.set k .any)
def relD (n:Nat):Option (Nat × Bool)->Option (Nat × Bool)
 | some (h,b)=>match Nat.ble 1000 h with | true=>some (n-(h-1000),b) | false=>some (h,b)
 | none=>none
noncomputable def exec (P:Program) (E:Env):Nat->Ex
 | 0=>fun _ _ _ _ _=>none
 | n+1=>fun ro f c S H =>
  match c with
  | .skip=>some (.normal,S,H)
  | .label _=>some (.normal,S,H)
  | .region id ops draw =>
   match JP P ro (relD H.length (E.drop f id)) (forget (E.fgt f id) S) H with
   | (S,H) =>
    if draw then
     if Gf P ops.toList then
      if E.chain f id then
       if MF P (E.soft f id) (Dp ops.toList []) ops.toList then (Kh (Kg (E.soft f id) (Lu (E.soft f id) (Dp ops.toList []) ops.toList) P E (exec P E n) ro H.length (G0 P H S ops.toList H.length) (Dp ops.toList []) ops.size) ops 0 ops.toList S H).map fun r=>(.normal,r.1,r.2) else none
      else
      match pivotE (E.piv f id) ops.toList S with
      | some pv =>
       if MG (Dp ops.toList []) ops.size pv then (Kh (Ki P E (exec P E n) ro pv) ops 0 ops.toList S H).map fun r=>(.normal,r.1,r.2)
       else none
      | none =>
       if mixed (DY E.pure H S ops.toList H.length) then
        (Kh (stepsM P E (exec P E n) ro ((DY E.pure H S ops.toList H.length).map fun x=>x.2.1) ((DY E.pure H S ops.toList H.length).map fun x=>x.2.2) (Dp ops.toList []) ops.size) ops 0 ops.toList S H).map fun r=>(.normal,r.1,r.2)
       else (K6 (Ha P E (exec P E n)) ops ops.toList S H).map fun r=>(.normal,r.1,r.2)
     else none
    else (K6 (Ls P E (exec P E n) ro) ops ops.toList S H).map fun r=>(.normal,r.1,r.2)
  | .seq a b =>
   match exec P E n ro f a S H with
   | some (.normal,S1,H1)=>exec P E n ro f b S1 H1
   | r=>r
  | .cond c x y =>
   match ev S c with
   | .val (.bool t)=>match t with | true=>exec P E n ro f x S H | false=>exec P E n ro f y S H
   | _=>none
  | .block id b =>
   match exec P E n ro f b S H with
   | some (.exit i,S1,H1)=>if i=id then some (.normal,S1,H1) else some (.exit i,S1,H1)
   | r=>r
  | .loop b =>
   match E.lo f ro (Ed b) (ES (E.live f (Ed b)) (Gs ro (E.Ke f (Ed b)) S H).1) (Gs ro (E.Ke f (Ed b)) S H).2 with
   | some r=>some r
   | none=>MH (exec P E n ro f b) (E.live f (Ed b)) ro n (Gs ro (E.Ke f (Ed b)) S H).1 (Gs ro (E.Ke f (Ed b)) S H).2
  | .scope b=>exec P E n ro f b S H
  | .exit id=>some (.exit id,S,H)
  | .ret=>some (.ret,S,H)
  | .rangeFunc g ps He body =>
   match ev (ES (E.live f (Ed He)) S) g with
   | .fn (.func k) first cap =>
    match HO P E (exec P E n) ro k (first++[.HE H.length]++cap) (H++[Ez f (ES (E.live f (Ed He)) S) ps He body]) with
    | some (_,H2)=>overQ (ES (E.live f (Ed He)) S) H.length H2
    | none=>none
   | _=>none
  | _=>none

structure Qt (w w':World):Prop where
 os:w'.os=w.os
 tape:w'.tape=w.tape
 output:w'.output=w.output
 size:w'.heap.size=w.heap.size
 block:∀ (b:Nat) o,w.heap[b]? = some o->(∀ d,o ≠ .deferred d)->w'.heap[b]? = some o
theorem Qt.refl (w:World):Qt w w:=⟨rfl,rfl,rfl,rfl,fun _ _ h _=>h⟩
theorem Qt.trans {a b c:World} (h:Qt a b) (k:Qt b c):Qt a c:=
 ⟨k.os.trans h.os,k.tape.trans h.tape,k.output.trans h.output,k.size.trans h.size,fun x o hx hd=>k.block x o (h.block x o hx hd) hd⟩
theorem Qt.put {w:World} {r:Nat} {d d':Option (List Deferred)} (h:w.heap[r]? = some (.deferred d)):Qt w (w.putObj r (.deferred d')):=
 ⟨rfl,rfl,rfl,by simp,fun b o hb hd=>by
  have hne:b ≠ r:=fun e=>by subst e;rw[h] at hb;cases hb;exact hd _ rfl
  rw[World.putObj_heap_other hne];exact hb⟩
theorem Qt.cell {w w':World} (h:Qt w w') {b x:Nat} {v:Value} (hc:w.cell? ⟨b,x,none⟩=some v):w'.cell? ⟨b,x,none⟩=some v:=by
 simp only[World.cell?] at hc ⊢;split at hc
 ·rename_i c e fr hb;rw[h.block b _ hb (fun d=>by simp)];exact hc
 ·cases hc
theorem EI.qt {C:Ctx} {w':World} (h:Qt C.w w') {i k cap:Nat} {r:Row} {a:Option Addr} (hh:EI C i r k a cap):EI (C.at w') i r k a cap:=by
 unfold EI at *;split at hh
 ·rename_i hn;rw[Ai hn];exact hh
 ·rename_i hn;rw[An hn];obtain⟨b,h0,h1,c,e,fr,h2,h3⟩:=hh;exact⟨b,h0,h1,c,e,fr,h.block b _ h2 (fun d=>by simp),h3⟩
theorem RV.qt {P:Program} {C:Ctx} {w':World} (h:Qt C.w w') {p:PV} {V:Value} (hv:RV P C p V):RV P (C.at w') p V:=by
 induction hv with
 | any=>exact .any
 | val=>exact .val
 | ptr hV hk hi hn hh=>exact .ptr hV hk hi hn hh
 | Ee cv hb hlt hc hr ht ih=>exact .Ee cv hb (by show _<w'.heap.size;rw[h.size];exact hlt) (fun x p hx=>h.cell (hc x p hx)) ih ht
 | sl hV hi hn hh =>
  refine .sl hV hi hn fun r' hr' hl => ?_
  obtain⟨hk,a,cap,hV,hc,hs⟩:=hh r' hr' hl;exact⟨hk,a,cap,hV,hc,hs.qt h⟩
 | CQ b off cv hcap hfull ha hc hr ht ih =>
  refine .CQ b off cv hcap hfull (fun h0 => ?_) (fun x e j p hx hj=>h.cell (hc x e j p hx hj)) ih ht;obtain⟨h1,h2,h3⟩:=ha h0;exact⟨h1,h2,by show _<w'.heap.size;rw[h.size];exact h3⟩
 | agg hs _ ih=>exact .agg hs ih
 | D8 hs _ ih=>exact .D8 hs ih
 | fn h1 h2 _ _ ih3 ih4=>exact .fn h1 h2 ih3 ih4
 | JK _ ih=>exact .JK ih
 | HE hi hl hb=>exact .HE hi hl hb
 | mp hi hl hb=>exact .mp hi hl hb
 | gv hb hlt hc hV=>exact .gv hb (by show _<w'.heap.size;rw[h.size];exact hlt) (h.cell hc) hV
 | bad hb=>exact .bad (BadV.tr (C:=C) (C':=C.at w') (fun x v h1 h2 h3=>⟨h1,by show _<w'.heap.size;rw[h.size];exact h2,h.cell h3⟩) hb)
 | KI hp _ ih=>exact .KI hp ih
theorem Fv.qt {P:Program} {C:Ctx} {w':World} (h:Qt C.w w') {S:List PV} {t:Array Value} (hs:Fv P C S t):Fv P (C.at w') S t:=
 ⟨hs.1,fun i p v h1 h2=>(hs.2 i p v h1 h2).qt h⟩
theorem RH.qt {P:Program} {C:Ctx} {w':World} (h:Qt C.w w') (hR:RH P C):RH P (C.at w'):=by
 refine⟨hR.inj,hR.KJ,fun i b r h1 h2 => ?_,hR.ro,hR.Iu,fun b hb=>by show b<w'.heap.size;rw[h.size];exact hR.JL b hb,fun i b r info h1 h2 h3 h4 => ?_,fun g hl => ?_⟩
 ·obtain⟨sz,⟨c,fr,cv,m1,m2,m3,m4⟩,l,t⟩:=hR.Gv i b r h1 h2;exact⟨sz,⟨c,fr,cv,h.block b _ m1 (fun d=>by simp),m2,m3,fun k e j p hk hj=>⟨(m4 k e j p hk hj).1,(m4 k e j p hk hj).2.qt h⟩⟩,l,t⟩
 ·refine (hR.Hw i b r info h1 h2 h3 h4).via (fun _ _ _ hv=>hv.qt h) (fun _ hs=>hs.qt h) (fun hl => ?_) (fun o ho h'=>h.block b _ h' (fun d hd=>by rw[hd] at ho;cases ho));obtain⟨⟨rec,m1,m2,m3,m4,m5,m6⟩,ha,hb⟩:=hl;exact⟨⟨rec,h.block b _ m1 (fun d=>by simp),m2,m3,m4,m5.qt h,m6⟩,ha,hb⟩
 ·obtain⟨g1,g2,t,a,g3,g4⟩:=hR.K5 g hl;exact⟨g1,by show g<w'.heap.size;rw[h.size];exact g2,t,a,h.cell g3,g4⟩

theorem RH.nodef {P:Program} {C:Ctx} (hR:RH P C) {b:Nat} {d:Option (List Deferred)} (h:C.w.heap[b]? = some (.deferred d)):¬ C.has b:=by
 rintro⟨i,hi⟩
 rcases hR.KJ i b hi with ⟨r,hr⟩ | ⟨r,info,h1,h2,h3⟩
 ·obtain⟨c,fr,cv,hh,_⟩:=(hR.Gv i b r hi hr).mem;rw[h] at hh;cases hh
 ·rcases (hR.Hw i b r info hi h1 h2 h3).obj with ⟨rec,hh⟩ | ⟨es,c,hh⟩
  ·rw[h] at hh;cases hh
  ·rw[h] at hh;cases hh;cases c

def mk (r:Nat):Deferred:={ target:=.collected r,args:=#[] }
def K7 (w:World) (a:Act) (w':World) (a':Act):Prop:=
 ∃ rs:List Nat,rs.Nodup/\a'.defers=rs.map mk++a.defers/\∀ r,r ∈ rs->w.heap.size<=r/\w'.heap[r]? = some (.deferred (some []))
theorem K7.of_eq {w w':World} {a a':Act} (h:a'.defers=a.defers):K7 w a w' a':=⟨[],List.nodup_nil,by simpa using h,fun _ h=>by cases h⟩
theorem K7.lt {w:World} {r:Nat} {o:Obj} (h:w.heap[r]? = some o):r<w.heap.size:=(Aq.1 h).1
theorem K7.next {P:Program} {w:World} {C C':Ctx} {a a':Act} (h:K7 w a C.w a') (hR:RH P C) (hx:Ext C C'):K7 w a C'.w a':=by
 obtain⟨rs,h1,h2,h3⟩:=h;refine⟨rs,h1,h2,fun r hr=>⟨(h3 r hr).1,?_⟩⟩;rw[hx.block r (K7.lt (h3 r hr).2) (fun ho=>hR.nodef (h3 r hr).2 ho.has)];exact (h3 r hr).2
theorem K7.trans {P:Program} {w:World} {C C':Ctx} {a a' a'':Act} (h:K7 w a C.w a') (hsz:w.heap.size<=C.w.heap.size) (hR:RH P C) (hx:Ext C C') (k:K7 C.w a' C'.w a''):K7 w a C'.w a'':=by
 obtain⟨rs,h1,h2,h3⟩:=h.next hR hx
 obtain⟨qs,k1,k2,k3⟩:=k;obtain⟨rs0,_,e0,h30⟩:=h;have hrs:rs=rs0:=by
  have h4:=h2.symm.trans e0;have h5:=List.append_cancel_right h4;have inj:∀ (a b:List Nat),a.map mk=b.map mk->a=b:=by
   intro a;induction a with
   | nil=>intro b hb;cases b with | nil=>rfl | cons=>simp at hb
   | cons x a ih=>intro b hb;cases b with | nil=>simp at hb | cons y b=>simp[mk] at hb;rw[hb.1,ih b (by simpa [mk] using hb.2)]
  exact inj _ _ h5
 subst hrs;refine⟨qs++rs,?_,by rw[k2,h2];simp,fun r hr => ?_⟩
 ·rw[List.nodup_append];refine⟨k1,h1,fun x hx y hy e => ?_⟩;subst e;have:=K7.lt (h30 x hy).2;have:=(k3 x hx).1;omega
 ·rcases A5.1 hr with hr | hr
  ·exact⟨A_ hsz (k3 r hr).1,(k3 r hr).2⟩
  ·exact h3 r hr

def Fg (r:Option Nat) (w:World):Prop:=∀ l,r=some l->∃ rec,w.heap[l]? = some (.loop rec)
theorem Fg.mono {r:Option Nat} {C C':Ctx} (h:Fg r C.w) (hx:Ext C C'):Fg r C'.w:=fun l hl =>
 let ⟨rec,hr⟩:=h l hl;hx.loop l rec hr
theorem Fg.none (w:World):Fg none w:=fun _ h=>by cases h

theorem Ext.qt {C C':Ctx} {w':World} (h:Ext C C') (hq:Qt C'.w w') (hb:∀ (b:Nat),b<C.w.heap.size->w'.heap[b]? = C'.w.heap[b]?):Ext C (C'.at w') where
 os:=hq.os.trans h.os
 tape:=hq.tape.trans h.tape
 output:=hq.output.trans h.output
 size:=by show _<=w'.heap.size;rw[hq.size];exact h.size
 block b hlt ho:=(hb b hlt).trans (h.block b hlt ho)
 shape b c e fr hh:=by
  obtain⟨c',fr',h1,h2⟩:=h.shape b c e fr hh;exact⟨c',fr',hq.block b _ h1 (fun d=>by simp),h2⟩
 len:=h.len
 rows:=h.rows
 fresh:=h.fresh
 DJ:=h.DJ
 fo:=h.fo
 ro:=h.ro
 low:=h.low
 lp:=h.lp
 loop b rec hh:=by
  obtain⟨rec',h1⟩:=h.loop b rec hh;exact⟨rec',hq.block b _ h1 (fun d=>by simp)⟩

theorem MI {F:Fence} {n:Nat} {P:Program} {fn:Func} {tmps:Array Value} {R:Ending->World->Prop}:∀ (rs:List Nat) (w:World),rs.Nodup->(∀ r ∈ rs,w.heap[r]? = some (.deferred (some []))) ->
  (∀ w',Qt w w'->(∀ (b:Nat),b ∉ rs->w'.heap[b]? = w.heap[b]?)->∃ v,(results fn tmps).run P w'=.ok v w'/\R (.returned v) w')->LeavesInM F n P fn tmps R (rs.map mk) .returning w
 | [],w,_,_,h=>h w (.refl w) (fun _ _=>rfl)
 | r::rs,w,hn,hd,h=>by
  have hr:=hd r (by simp);have hn':=Cp.1 hn;refine⟨by simp,.inl ⟨r,_,rfl,run_takeDeferred hr,MI rs _ hn'.2 (fun q hq => ?_) fun w' hw hb=>h w' ((Qt.put hr).trans hw) fun b hb' => ?_⟩⟩
  ·have hne:q ≠ r:=fun e=>hn'.1 (e ▸ hq)
   rw[World.putObj_heap_other hne];exact hd q (by simp[hq])
  ·have hb2:b ∉ rs:=fun h=>hb' (by simp[h])
   have hne:b ≠ r:=fun e=>hb' (by simp[e])
   rw[hb b hb2,World.putObj_heap_other hne]

theorem Kj {H:List Row} {i:Nat} {info:Fe} (h:Ix H i=some info):∃ r,H[i]? = some r/\r.lp=some info/\r.live=false:=by
 unfold Ix at h;split at h
 ·rename_i r hr;split at h
  ·rename_i hl;exact⟨r,hr,h,hl⟩
  ·cases h
 ·cases h
theorem setSt_some {H H':List Row} {i:Nat} {st:LSt} (h:Ij H i st=some H'):∃ r info,H[i]? = some r/\r.lp=some info/\r.live=false/\H'=H.set i { r with lp:=some ⟨info.k,st⟩ }:=by
 unfold Ij at h;split at h
 ·rename_i r hr;split at h
  ·rename_i info hl hp;cases h;exact⟨r,info,hr,hp,hl,rfl⟩
  ·cases h
 ·cases h

def StB (st:LSt) (rec:Loop):Prop:=
 match st with | .ready=>rec.state=.ready/\rec.pending=none | .busy=>rec.state=.busy | .done j=>rec.state=.done/\rec.pending=some j | .over=>True | .map _ _ _=>False | .F6 _ _ _=>False | .iter _=>False

def Ctx.turnL (C:Ctx) (b:Nat) (rec:Loop) (H':List Row):Ctx:={ C with H:=H',w:=C.w.putObj b (.loop rec) }
theorem Kk {P:Program} {C:Ctx} (hR:RH P C) {i b:Nat} {st:LSt} {H':List Row} (h:Ij C.H i st=some H') (hρ:C.ρ i=some b) (hro:C.ro<=i) {rec rec':Loop} (hrec:C.w.heap[b]? = some (.loop rec))
  (h1:rec'.params=rec.params) (h2:rec'.assign=rec.assign) (h3:rec'.body=rec.body) (h4:rec'.tmps=rec.tmps) (h5:StB st rec'):Ext C (C.turnL b rec' H')/\RH P (C.turnL b rec' H'):=by
 obtain⟨r,info,g1,g2,g3,rfl⟩:=setSt_some h;have hi:i<C.H.length:=(Ad.1 g1).1;have hblt:b<C.w.heap.size:=hR.lt hρ;have hb':∀ (x:Nat),x ≠ b->(C.w.putObj b (.loop rec')).heap[x]? = C.w.heap[x]?:=fun x hx=>World.putObj_heap_other hx
 have hrowi:C.row? i=none:=by unfold Ctx.row? rowAt;rw[g1];simp[g3]
 have hrow:∀ x,rowAt (C.H.set i { r with lp:=some ⟨info.k,st⟩ }) x=C.row? x:=by
  intro x;unfold rowAt;rw[Au];by_cases hx:i=x
  ·subst hx;simp only[BO,hi,g3,A2,B5,hrowi]
  ·rw[An hx];rfl
 have hx:Ext C (C.turnL b rec' (C.H.set i { r with lp:=some ⟨info.k,st⟩ })):=by
  refine⟨rfl,rfl,rfl,by simp[Ctx.turnL],fun x hx ho=>hb' x (fun e=>ho ⟨i,hro,e ▸ hρ⟩),fun x c e fr hh => ?_,by simp[Ctx.turnL],fun x r' _ hr=>⟨r',by rw[<- hr];exact (hrow x).symm,rfl,rfl,Ak _,fun _=>⟨rfl,fun _ h=>h⟩⟩,fun _ h=>.inl h,fun _ h=>.inl h,rfl,rfl,fun x hx=>⟨?_,rfl⟩,fun x q info' q1 q2 q3=>⟨?_,fun _ h=>h⟩,fun x rc hh => ?_⟩
  ·have hne:x ≠ b:=fun e=>by subst e;rw[hrec] at hh;cases hh
   exact⟨c,fr,by rw[<- hh];exact hb' x hne,rfl⟩
  ·show (C.H.set i _)[x]? = _
   rw[Au,An (by omega)]
  ·show ∃ r' st,(C.H.set i _)[x]? = some r'/\_
   by_cases hxi:i=x
   ·subst hxi;rw[g1] at q1;cases q1;rw[g2] at q2;cases q2;exact⟨{ r with lp:=some ⟨info.k,st⟩ },st,by rw[Au,Ai rfl,Ai hi],rfl,g3⟩
   ·exact⟨q,info'.st,by rw[Au,An hxi];exact q1,q2,q3⟩
  ·by_cases hxb:x=b
   ·subst hxb;exact⟨rec',World.putObj_heap_same hblt⟩
   ·exact⟨rc,by rw[<- hh];exact hb' x hxb⟩
 refine⟨hx,hR.inj,fun x c hx' => ?_,fun x c q q1 q2 => ?_,by simpa [Ctx.turnL] using hR.ro,hR.Iu,fun x hx'=>by simpa [Ctx.turnL] using hR.JL x hx',fun x c q info' q1 q2 q3 q4 => ?_,hR.K5.mono hx⟩
 ·rcases hR.KJ x c hx' with ⟨q,hq⟩ | ⟨q,info',q1,q2,q3⟩
  ·exact .inl ⟨q,by rw[<- hq];exact hrow x⟩
  ·obtain⟨⟨q',st',z1,z2,z3⟩,_⟩:=hx.lp x q info' q1 q2 q3;exact .inr ⟨q',_,z1,z2,z3⟩
 ·have q2':C.row? x=some q:=by rw[<- q2];exact (hrow x).symm
  have hB:=hR.Gv x c q q1 q2';have hne:c ≠ b:=fun e=>by
   subst e;obtain⟨cc,fr,cv,hh,_⟩:=hB.mem;rw[hrec] at hh;cases hh
  exact hB.mono hx (hb' c hne)
 ·have hq2:(C.H.set i { r with lp:=some ⟨info.k,st⟩ })[x]? = some q:=q2;rw[Au] at hq2;by_cases hxi:i=x
  ·subst hxi;rw[Ai rfl,Ai hi] at hq2;cases hq2;cases q3;have hcb:c=b:=Ah ((show C.ρ i=some c from q1).symm.trans hρ);subst hcb;obtain⟨⟨rec0,m1,m2,m3,m4,m5,m6⟩,ha,hbd⟩:=(hR.Hw i c r info hρ g1 g2 g3).ofRec hrec;rw[hrec] at m1;cases m1;refine⟨fun _=>⟨⟨rec',World.putObj_heap_same hblt,h1.trans m2,h2.trans m3,h3.trans m4,by rw[h4];exact m5.mono hx,?_⟩,ha,hbd⟩,fun K E D he => ?_,fun K E D he => ?_,fun s he => ?_⟩
   ·unfold StB at h5;cases st <;> first | exact h5 | exact h5.elim
   ·dsimp only at he;subst he;exact h5.elim
   ·dsimp only at he;subst he;exact h5.elim
   ·dsimp only at he;subst he;exact h5.elim
  ·rw[An hxi] at hq2;have hL:=hR.Hw x c q info' q1 hq2 q3 q4;have hne:c ≠ b:=fun e=>hxi (hR.inj i x b hρ (e ▸ q1))
   exact hL.mono hx (hb' c hne)

theorem setPs_sound {P:Program} {C:Ctx}:∀ (ps:List Tmp) (args:List PV) (Vs:List Value) (S:List PV) (t:Array Value),Fv P C S t->args.length=Vs.length->(∀ (j:Nat) c v,args[j]? = some c->Vs[j]? = some v->RV P C c v) ->
  Fv P C (setPs S ps args) ((ps.zip Vs).foldl (fun t x=>t.setIfInBounds x.1 x.2) t)
 | [],_,_,S,t,h,_,_=>by simpa [setPs] using h
 | p::ps,[],[],S,t,h,_,_=>by simpa [setPs] using h
 | p::ps,[],_::_,S,t,h,hl,_=>by simp at hl
 | p::ps,_::_,[],S,t,h,hl,_=>by simp at hl
 | p::ps,c::args,v::Vs,S,t,h,hl,hv=>by
  have h1:Fv P C (S.set p c) (t.setIfInBounds p v):=by
   have:=Fv.put (a:={ tmps:=t,defers:=[] }) h (d:=some p) (hv 0 c v rfl rfl);exact this
  have:=setPs_sound ps args Vs (S.set p c) (t.setIfInBounds p v) h1 (by simpa using hl) (fun j c' v' a b=>hv (j+1) c' v' (by simpa using a) (by simpa using b));simpa [setPs] using this

theorem bindL_rows {P:Program} {C:Ctx} (hR:RH P C) {f:FuncId} {S:List PV} {ps:Array Tmp} {He body:Code} {rec:Loop} (h1:rec.params=ps) (h2:rec.assign=He) (h3:rec.body=body) (h4:Fv P C S rec.tmps) (h5:rec.state=.ready) (h6:rec.pending=none)
  (ha:D9 P f He) (hb:D9 P f body):
  Ext C ((C.more (Ez f S ps He body)).bind C.H.length (.loop rec))/\RH P ((C.more (Ez f S ps He body)).bind C.H.length (.loop rec)):=by
 have hx1:=EM hR (Ez f S ps He body);have hR1:=GN hR (Ez f S ps He body);have hn:(C.more (Ez f S ps He body)).ρ C.H.length=none:=hR.Gd (Ak _);have hx2:=Ctx.Ga (C:=C.more (Ez f S ps He body)) hn hR.ro (.loop rec);have hrow:(C.H++[Ez f S ps He body])[C.H.length]? = some (Ez f S ps He body):=by simp
 refine⟨hx1.trans hx2,fun x y b hx hy => ?_,fun x b hx => ?_,fun x b r' g1 g2 => ?_,hR1.ro,fun x b hx => ?_,fun b hb=>Ax (hR1.JL b hb) hx2.size,fun x b r' info g1 g2 g3 g4 => ?_,hR1.K5.mono hx2⟩
 ·simp only[Ctx.bind] at hx hy;split at hx <;> split at hy
  ·omega
  ·cases hx;have:=hR1.lt hy;exact absurd this (by simp[Ctx.more])
  ·cases hy;have:=hR1.lt hx;exact absurd this (by simp[Ctx.more])
  ·exact hR1.inj x y b hx hy
 ·simp only[Ctx.bind] at hx;split at hx
  ·rename_i e;subst e;exact .inr ⟨_,_,hrow,rfl,rfl⟩
  ·exact hR1.KJ x b hx
 ·simp only[Ctx.bind] at g1;split at g1
  ·rename_i e;subst e;have:(C.more (Ez f S ps He body)).row? C.H.length=none:=by unfold Ctx.row? rowAt;rw[show (C.more (Ez f S ps He body)).H[C.H.length]? = _ from hrow];rfl
   rw[show (C.more (Ez f S ps He body)).row? C.H.length=some r' from g2] at this;cases this
  ·have hb:=hR1.Gv x b r' g1 g2;exact hb.mono hx2 (AT C.w _ hb.lt)
 ·simp only[Ctx.bind] at hx ⊢;split at hx
  ·cases hx;exact fun hf=>CY _ (hR.JL _ hf)
  ·exact hR1.Iu x b hx
 ·simp only[Ctx.bind] at g1;split at g1
  ·rename_i e;subst e;cases g1;have g2':(C.H++[Ez f S ps He body])[C.H.length]? = some r':=g2;rw[hrow] at g2';cases g2';cases g3;exact⟨fun _=>⟨⟨rec,heap_alloc_new C.w _,h1,h2,h3,h4.mono (hx1.trans hx2),h5,h6⟩,ha,hb⟩,fun K E D he=>(by cases he),fun K E D he=>(by cases he),fun s he=>(by cases he)⟩
  ·have hL:=hR1.Hw x b r' info g1 g2 g3 g4;exact hL.mono hx2 (AT C.w _ hL.lt)

def XOut:PX->Exit
 | .normal=>.normal
 | .exit id=>.exit id
 | .ret=>.ret

def Fr (r:Option Nat):Fence:={ Fence.wide with round:=r }
theorem fr_calls {r:Option Nat} {n:Nat} {P:Program} {f:FuncId} {args:Array Value} {w:World} {R:Ending->World->Prop}:CallsIn (Fr r) n P f args w R ↔ Calls P f args w R:=
 callsIn_wide (n:=n)
theorem FU {r:Option Nat} {P:Program} {o:Oper} {ρ:Operand->Value} {w w':World} {x:Next} (h:(execOp ρ o).run P w=.ok x w') (hx:∀ d,x ≠ .defer d):(o.semAt r ρ).run P w=.ok x w':=by
 by_cases hd:∃ c,o.op=.defer c
 ·obtain⟨c,hc⟩:=hd;exfalso
  unfold execOp at h;simp only[hc] at h;simp only[Sem.run_bind] at h
  revert h
  cases hr:(resolve ρ c o.type).run P w with
  | ok d w2=>simp only[Result.andThen_ok,Sem.run_pure];intro h;cases h;exact hx _ rfl
  | halt y w2=>simp[Result.andThen]
 ·rw[Oper.semAt_eq r ρ o fun c hc=>hd ⟨c,hc⟩];exact h

def Eu (P:Program) (c:Code) (ro:Nat) (S:List PV) (H:List Row) (x:PX) (S':List PV) (H':List Row):Prop:=
 ∀ (r:Option Nat) (C:Ctx) (a:Act),C.H=H->C.ro=ro->RH P C->Fv P C S a.tmps->Fg r C.w->∀ Q:Exit->Act->World->Prop,
  (∀ (a':Act) (C':Ctx),K7 C.w a C'.w a'->C'.H=H'->Ext C C'->RH P C'->Fv P C' S' a'.tmps->Q (XOut x) a' C'.w)->c.wpIn (Fr r) 0 P Q a C.w

def Da (P:Program) (k:FuncId) (args:List PV) (r:PV):Prop:=
 ∀ (C:Ctx),RH P C->∀ Vs:Array Value,Cs P C args Vs->Calls P k Vs C.w fun e w'=>∃ V,e=.returned V/\Iw C.w w'/\RV P (C.at w') r V

def FV (P:Program) (E:Env) (f:FuncId):Code->Prop
 | .seq a b=>FV P E f a/\FV P E f b
 | .cond _ x y=>FV P E f x/\FV P E f y
 | .block _ b=>FV P E f b
 | .scope b=>FV P E f b
 | .loop b=>(∀ ro S H x S' H',E.lo f ro (Ed b) S H=some (x,S',H')->Eu P (.loop b) ro S H x S' H')/\FV P E f b
 | .rangeFunc _ _ a b=>FV P E f a/\FV P E f b
 | _=>True

def CV (P:Program) (k:FuncId):Prop:=∀ Vs w,(callFunc k Vs).run P w=.ok (.enter k Vs) w

structure G1 (P:Program) (C C':Ctx) (H':List Row) (p:PV) (V:Value):Prop where
 H:C'.H=H'
 ext:Ext C C'
 rh:RH P C'
 rv:RV P C' p V

def ET (P:Program) (ro:Nat) (k:FuncId) (args:List PV) (H:List Row) (p:PV) (H':List Row):Prop:=
 ∀ (C:Ctx),C.H=H->C.ro=ro->RH P C->∀ Vs:Array Value,Cs P C args Vs->Calls P k Vs C.w fun e w'=>∃ V C',e=.returned V/\C'.w=w'/\G1 P C C' H' p V

def OprS (P:Program) (ro:Nat) (H:List Row) (f:Operand->PV) (op:Op) (p:PV) (H':List Row):Prop:=
 ∀ (C:Ctx) (g:Operand->Value) (o:Oper),o.op=op->C.ro=ro->C.H=H->RH P C->(∀ x ∈ op.operands,RV P C (f x) (g x))->∃ n v C',(execOp g o).run P C.w=.ok n C'.w/\(n=.value v\/(n=.skip/\v=undef))/\Iv P C C' H'/\RV P C' p v
def SftS (P:Program) (H:List Row) (f:Operand->PV) (op:Op) (p:PV):Prop:=
 ∀ (C:Ctx) (g:Operand->Value) (o:Oper),o.op=op->C.H=H->RH P C->(∀ x ∈ op.operands,RV P C (f x) (g x))->∃ v,(execOp g o).run P C.w=.ok (.value v) C.w/\RV P C p v
def InF (H:List Row) (f:Operand->PV) (op:Op) (H':List Row):Prop:=
 ∀ c x y,apOp op=some (c,x,y)->H.length<=H'.length/\∀ z,z<H.length->(∀ i n k l,f x=.sl i n k l->z ≠ i/\(rowAt H' i=none->z<i))->rowAt H' z=rowAt H z
theorem InF.of_no {H H':List Row} {f:Operand->PV} {op:Op} (h:apOp op=none):InF H f op H':=fun c x y e=>by rw[h] at e;cases e
theorem InF.same {H:List Row} {f:Operand->PV} {op:Op}:InF H f op H:=fun _ _ _ _=>⟨Ak _,fun _ _ _=>rfl⟩
structure Ck (P:Program) (E:Env):Prop where
 G2:∀ k args r,E.Ff k args=some r->CV P k
 Gq:∀ ro k args H p H',E.Gq ro k args H=some (p,H')->CV P k/\ET P ro k args H p H'
 Ff:∀ k args r,E.Ff k args=some r->Da P k args r
 lo:∀ k fn b,P.funcs[k]? = some fn->fn.body=some b->FV P E k b
 EP:∀ ro H f op p H',E.EP ro H f op=some (p,H')->OprS P ro H f op p H'/\∀ x,rowAt H' x=rowAt H x
 Ec:∀ ro H f op p H',E.Ec ro H f op=some (p,H')->OprS P ro H f op p H'/\InF H f op H'
 F9:∀ H f op p,E.F9 H f op=some p->SftS P H f op p
 Ev:∀ ro H f T x k p H',E.EP ro H f (.mapEntry T x k)=some (p,H')->∀ g op q,E.F9 H g op=some q ↔ E.F9 H' g op=some q

theorem LO {P:Program} {E:Env} (hE:Ck P E) {ro:Nat} {H:List Row} {f:Operand->PV} {op:Op} {p:PV} {H':List Row} (h:inpE E.Ec ro H f op=some (p,H')):OprS P ro H f op p H'/\InF H f op H':=by
 unfold inpE at h;split at h
 ·exact hE.Ec _ _ _ _ _ _ h
 ·exact hE.Ec _ _ _ _ _ _ h
 ·exact hE.Ec _ _ _ _ _ _ h
 ·split at h
  ·exact hE.Ec _ _ _ _ _ _ h
  ·cases h
 ·cases h

theorem moreE_sound {P:Program} {E:Env} (hE:Ck P E) {C:Ctx} {f:Operand->PV} {g:Operand->Value} {o:Oper} {p:PV} {H':List Row} (hR:RH P C) {ro:Nat} (hro:C.ro=ro) (hv:∀ x ∈ o.op.operands,RV P C (f x) (g x)) (h:moreE P E ro C.H f o.op=some (p,H')):
  ∃ n v C',(execOp g o).run P C.w=.ok n C'.w/\(n=.value v\/(n=.skip/\v=undef))/\Iv P C C' H'/\RV P C' p v:=by
 subst hro;unfold moreE at h;split at h
 ·rename_i r hr;cases h;exact (hE.EP _ _ _ _ _ _ hr).1 C g o rfl rfl rfl hR hv
 ·obtain⟨v,C',h1,h2,h3⟩:=moreQ_sound hR hv h;exact⟨_,v,C',h1,.inl rfl,h2,h3⟩
theorem FV.sub {P:Program} {E:Env} {f:FuncId} {c b:Code} (h:Gu c b):FV P E f b->FV P E f c:=by
 induction h with
 | here=>exact id
 | seq1 _ ih=>exact fun h=>ih h.1
 | seq2 _ ih=>exact fun h=>ih h.2
 | cond1 _ ih=>exact fun h=>ih h.1
 | cond2 _ ih=>exact fun h=>ih h.2
 | block _ ih=>exact fun h=>ih h
 | loop _ ih=>exact fun h=>ih h.2
 | scope _ ih=>exact fun h=>ih h
 | range1 _ ih=>exact fun h=>ih h.1
 | range2 _ ih=>exact fun h=>ih h.2
theorem Ck.loh {P:Program} {E:Env} (hE:Ck P E) {f:FuncId} {c:Code} (h:D9 P f c):FV P E f c:=
 let ⟨fn,b,h1,h2,h3⟩:=h; FV.sub h3 (hE.lo f fn b h1 h2)
theorem D9.sub {P:Program} {f:FuncId} {c d:Code} (h:D9 P f c) (k:Gu d c):D9 P f d:=
 let ⟨fn,b,h1,h2,h3⟩:=h; ⟨fn,b,h1,h2,k.trans h3⟩

def DR (P:Program) (_E:Env) (ex:Ex):Prop:=
 ∀ ro f c S H x S' H',ex ro f c S H=some (x,S',H')->D9 P f c->Eu P c ro S H x S' H'

theorem frz_all {P:Program} {C:Ctx} (hR:RH P C) {h ro:Nat} (hh:h<=C.H.length) {args:List PV} {Vs:Array Value} (hv:Cs P C args Vs) (hm:EJ h (GR C.H h args)=true):Cs P (C.cut h False ro) (GR C.H h args) Vs:=by
 refine⟨by rw[GS];exact hv.1,fun j c v h1 h2 => ?_⟩;have hmj:=C5 hm h1;rw[Kb] at h1;obtain⟨q,hq,rfl⟩:=Af.1 h1;exact (hv.2 j q v hq h2).frz hR hh hmj

theorem KN (H:List Row):∀ (ps:List PV),EJ 0 ps=true->GR H 0 ps=ps
 | [],_=>rfl
 | p::ps,h=>by
  simp only[EJ,Aa] at h;simp only[GR];rw[KN H ps h.2,frz_same H p h.1]
 where
 frz_same (H:List Row):∀ (p:PV),mlt 0 p=true->frz H 0 p=p
  | .sl i n k len,h=>by simp[mlt] at h
  | .agg cs,h=>by simp only[frz];rw[KN H cs (by simpa [mlt] using h)]
  | .D8 cs,h=>by simp only[frz];rw[KN H cs (by simpa [mlt] using h)]
  | .ptr _ _ _ _,_=>rfl
  | .Ee _ _ _,_=>rfl
  | .CQ _ _ _,_=>rfl
  | .fn _ _ _,_=>rfl
  | .JK _ _,_=>rfl
  | .val _,_=>rfl
  | .any,_=>rfl
  | .gv _,_=>rfl
  | .bad _,_=>rfl
  | .KI _ _,_=>rfl
  | .HE _,h=>by simp[mlt] at h
  | .mp _,h=>by simp[mlt] at h

mutual
theorem mlt_mono {h k:Nat} (hk:h<=k):∀ (p:PV),mlt h p=true->mlt k p=true
 | .sl i n _ len,hm=>by simp only[mlt,Ab] at hm ⊢;omega
 | .ptr i _ _ _,hm=>by simp only[mlt,Ab] at hm ⊢;omega
 | .agg cs,hm=>by simp only[mlt] at hm ⊢;exact IN hk cs hm
 | .D8 cs,hm=>by simp only[mlt] at hm ⊢;exact IN hk cs hm
 | .Ee _ _ _,_=>rfl
 | .CQ _ _ _,_=>rfl
 | .fn _ a b,hm=>by simp only[mlt,Aa] at hm ⊢;exact⟨IN hk a hm.1,IN hk b hm.2⟩
 | .JK _ v,hm=>by simp only[mlt] at hm ⊢;exact mlt_mono hk v hm
 | .val _,_=>rfl
 | .any,_=>rfl
 | .gv _,_=>rfl
 | .bad _,_=>rfl
 | .KI _ _,_=>rfl
 | .HE i,hm=>by simp only[mlt,Ab] at hm ⊢;omega
 | .mp i,hm=>by simp only[mlt,Ab] at hm ⊢;omega
theorem IN {h k:Nat} (hk:h<=k):∀ (ps:List PV),EJ h ps=true->EJ k ps=true
 | [],_=>rfl
 | p::ps,hm=>by simp only[EJ,Aa] at hm ⊢;exact⟨mlt_mono hk p hm.1,IN hk ps hm.2⟩
end

theorem callO_mlt {E:Env} {k:FuncId} {args:List PV} {r:PV} {H:List Row} (h:Gr E k args H=some r):mlt 0 r=true:=by
 unfold Gr at h;split at h
 ·split at h
  ·rename_i hc;cases h;simp only[Aa] at hc;exact hc.1.2
  ·cases h
 ·cases h

theorem callO_sound {P:Program} {E:Env} (hE:Ck P E) {k:FuncId} {args:List PV} {r:PV} {C:Ctx} (hR:RH P C) {Vs:Array Value} (hv:Cs P C args Vs) (h:Gr E k args C.H=some r):
  Calls P k Vs C.w fun e w'=>∃ V,e=.returned V/\Iw C.w w'/\RV P (C.at w') r V:=by
 unfold Gr at h;split at h
 ·rename_i r' hr;split at h
  ·rename_i hc;cases h;simp only[Aa,A0] at hc;obtain⟨⟨h1,_⟩,h2⟩:=hc;rcases h2 with hp | hm
   ·have hR0:=hR.cut (h:=0) (ro:=0) (HK:=False) (A4 _) (Ak _) (by simp[Dj]);have hv0:=frz_all (ro:=0) hR (A4 _) hv h1;refine (hE.Ff k _ r hr _ hR0 Vs hv0).mono ?_
    rintro e w' ⟨V,rfl,hs,hrv⟩
    exact⟨V,rfl,hs,hrv.plain hp⟩
   ·rw[KN _ _ hm] at hr;exact hE.Ff k args r hr C hR Vs hv
  ·cases h
 ·cases h

def resSem (a:Act) (r:ResultVar):Sem Value:=
 match r with
 | .tmp t=>pure (a.tmps.getD t undef)
 | .cell x t=>do loadVar t (<- asAddr (a.tmps.getD x undef))
theorem results_eq (fn:Func) (a:Act):results fn a.tmps=(do
  let vs <- fn.results.mapM (resSem a)
  pure (if h:vs.size=1 then vs[0] else .tuple vs)):=rfl

theorem resOne_sound {P:Program} {C:Ctx} {S:List PV} {a:Act} {r:ResultVar} {p:PV} (hR:RH P C) (hs:Fv P C S a.tmps) (h:resOne P S C.H r=some p):
  ∃ V,(resSem a r).run P C.w=.ok V C.w/\RV P C p V:=by
 cases r with
 | tmp t =>
  simp only[resOne,A3] at h;subst h;exact⟨_,rfl,hs.ev (.tmp t)⟩
 | cell x t =>
  simp only[resOne] at h;split at h
  ·rename_i hok;have hx:RV P C (S.getD x (.val undef)) (a.tmps.getD x undef):=hs.ev (.tmp x);have hSub:Sub C.H C:=fun i r hr=>hr
   obtain⟨ad,e1,_⟩:=Hh (d:=0) hSub hx hok;obtain⟨V,g1,g2⟩:=loadQ_sound hR hSub hx h;refine⟨V,?_,g2⟩;simp only[e1,Instr.loadAt,Instr.sureAddr,Sem.run_bind,Sem.run_pure,Result.andThen_ok] at g1;simp only[resSem,e1,asAddr,Sem.run_bind,Sem.run_pure,Result.andThen_ok];exact g1
  ·cases h

theorem resQ_sound {P:Program} {C:Ctx} {fn:Func} {S:List PV} {a:Act} {p:PV} (hR:RH P C) (hs:Fv P C S a.tmps) (h:resQ P fn S C.H=some p):
  ∃ V,(results fn a.tmps).run P C.w=.ok V C.w/\RV P C p V:=by
 have key:∀ (rs:List ResultVar) (ps:List PV),Jk P S C.H rs=some ps->∃ Vs:List Value,(rs.mapM (resSem a)).run P C.w=.ok Vs C.w /\
   Vs.length=ps.length/\∀ (j:Nat) p v,ps[j]? = some p->Vs[j]? = some v->RV P C p v:=by
  intro rs;induction rs with
  | nil=>intro ps h;simp only[Jk,A3] at h;subst h;exact⟨[],by simp,rfl,fun j p v h=>by simp at h⟩
  | cons r rs ih =>
   intro ps h;simp only[Jk] at h;split at h
   ·rename_i p1 ps1 h1 h2;cases h;obtain⟨V,g1,g2⟩:=resOne_sound hR hs h1;obtain⟨Vs,g3,g4,g5⟩:=ih ps1 h2;refine⟨V::Vs,?_,by simp[g4],fun j p v q1 q2 => ?_⟩
    ·rw[List.mapM_cons];simp only[Sem.run_bind,g1,Result.andThen_ok,g3,Sem.run_pure]
    ·cases j with
     | zero=>simp at q1 q2;subst q1;subst q2;exact g2
     | succ j=>exact g5 j p v (by simpa using q1) (by simpa using q2)
   ·cases h
 unfold resQ at h;have hm:∀ ps Vs,Jk P S C.H fn.results.toList=some ps->(fn.results.toList.mapM (resSem a)).run P C.w=.ok Vs C.w ->
   (results fn a.tmps).run P C.w=.ok (if h:Vs.toArray.size=1 then Vs.toArray[0] else .tuple Vs.toArray) C.w:=by
  intro ps Vs _ hV;rw[results_eq];simp only[Array.mapM_eq_mapM_toList];simp only[Sem.run_bind,Sem.run_map,hV,Result.andThen_ok,Sem.run_pure]
 split at h
 ·rename_i q hq;cases h;obtain⟨Vs,g1,g2,g3⟩:=key _ _ hq;obtain⟨V,rfl⟩:∃ V,Vs=[V]:=by
   match Vs,g2 with | [V],_=>exact⟨V,rfl⟩
  exact⟨V,hm _ _ hq g1,g3 0 _ _ rfl rfl⟩
 ·rename_i ps hne hps;cases h;obtain⟨Vs,g1,g2,g3⟩:=key _ _ hps;refine⟨.tuple Vs.toArray,?_,.D8 (by simp[g2]) fun j c v q1 q2=>g3 j c v q1 (by simpa using q2)⟩;rw[hm _ _ hps g1];have:¬ Vs.toArray.size=1:=by
   intro h1;have hl:ps.length=1:=by rw[<- g2];simpa using h1
   match ps,hl with | [q],_=>exact hne q rfl
  simp only[this,dif_neg,not_false_eq_true]
 ·cases h

theorem Fk {P:Program} {E:Env} (_hE:Ck P E) {ex:Ex} (hX:DR P E ex) {ro:Nat} {k:FuncId} {args:List PV} {p:PV} {H':List Row} {C:Ctx} (hR:RH P C) (hro:C.ro=ro) {Vs:Array Value} (hv:Cs P C args Vs)
  (h:callX P ex ro k args C.H=some (p,H')):(∀ w,(callFunc k Vs).run P w=.ok (.enter k Vs) w)/\Calls P k Vs C.w fun e w'=>∃ V C',e=.returned V/\C'.w=w'/\G1 P C C' H' p V:=by
 unfold callX at h;split at h
 ·rename_i fn hfn;split at h
  ·rename_i b hb;split at h
   ·cases h
   ·rename_i hname;refine⟨fun w=>by simp[callFunc,hfn,hb];simpa using hname,?_⟩;have hsl:Fv P C (args++List.replicate (fn.ntmps-args.length) (.val undef)) (Vs++Array.replicate (fn.ntmps-Vs.size) undef):=by
     refine⟨by simp[hv.1],fun i q u h1 h2 => ?_⟩;rw[AL] at h1;rw[Array.getElem?_append] at h2;rw[hv.1] at h2;split at h1
     ·rename_i hi;rw[Ai hi] at h2;exact hv.2 i q u h1 h2
     ·rename_i hi;rw[An hi] at h2;rw[Bx] at h1;rw[Array.getElem?_replicate] at h2;split at h1
      ·rename_i hj;rw[Ai hj] at h2;cases h1;cases h2;exact .val
      ·cases h1
    have body:∀ x S' H'',ex ro k b (args++List.replicate (fn.ntmps-args.length) (.val undef)) C.H=some (x,S',H'')->(x=.normal\/x=.ret)->resQ P fn S' H''=some p->H''=H' ->
      Calls P k Vs C.w fun e w'=>∃ V C',e=.returned V/\C'.w=w'/\G1 P C C' H' p V:=by
     intro x S' H'' hex hx hres hH;subst hH;refine fr_calls.1 (callsIn_of_wp_marks (F:=Fr none) (n:=0) hfn hb trivial ?_);refine hX ro k b _ C.H x S' H'' hex ⟨fn,b,hfn,hb,.here⟩ none C _ rfl hro hR hsl (.none _) _ fun a' C' hd hH2 hxt hR' hs' => ?_
     subst hH2;obtain⟨rs,hn,hd1,hd2⟩:=hd;have key:LeavesInM (Fr none) 0 P fn a'.tmps (fun e w'=>∃ V C'',e=.returned V/\C''.w=w'/\G1 P C C'' C'.H p V) a'.defers .returning C'.w:=by
      rw[hd1,BW];refine MI rs C'.w hn (fun r hr=>(hd2 r hr).2) fun w' hq hw => ?_
      obtain⟨V,g1,g2⟩:=resQ_sound (fn:=fn) (C:=C'.at w') (hR'.qt hq) (hs'.qt hq) hres;exact⟨V,g1,V,C'.at w',rfl,rfl,rfl,hxt.qt hq fun b hb=>hw b fun hm=>by have:=(hd2 b hm).1;omega,hR'.qt hq,g2⟩
     rcases hx with rfl | rfl
     ·exact key
     ·exact key
    split at h
    ·rename_i S' H'' hex;obtain⟨q,hq,he⟩:=Af.1 h;cases he;exact body _ S' _ hex (.inl rfl) hq rfl
    ·rename_i S' H'' hex;obtain⟨q,hq,he⟩:=Af.1 h;cases he;exact body _ S' _ hex (.inr rfl) hq rfl
    ·cases h
  ·cases h
 ·cases h

theorem FW {P:Program} {E:Env} (hE:Ck P E) {ex:Ex} (hX:DR P E ex) {ro:Nat} {k:FuncId} {args:List PV} {p:PV} {H':List Row} {C:Ctx} (hR:RH P C) (hro:C.ro=ro) {Vs:Array Value} (hv:Cs P C args Vs)
  (h:HO P E ex ro k args C.H=some (p,H')):(∀ w,(callFunc k Vs).run P w=.ok (.enter k Vs) w)/\Calls P k Vs C.w fun e w'=>∃ V C',e=.returned V/\C'.w=w'/\G1 P C C' H' p V:=by
 unfold HO at h;split at h
 ·rename_i r hr;cases h;obtain⟨g1,g2⟩:=hE.Gq _ _ _ _ _ _ hr;exact⟨fun w=>g1 Vs w,g2 C rfl hro hR Vs hv⟩
 ·exact Fk hE hX hR hro hv h

theorem MJ {P:Program} {C C':Ctx} (hR:RH P C) {H':List Row} {p q:PV} {H2:List Row} {V:Value} (h:G1 P C C' H' p V) (hs:settle C.H.length p H'=(q,H2)):∃ C2,C2.w=C'.w/\G1 P C C2 H2 q V:=by
 unfold settle at hs;split at hs
 ·rename_i hc;cases hs;simp only[Aa] at hc;have hlen:=h.ext.len;have hH:=h.H;subst hH;refine⟨C'.cut C.H.length False C'.ro,rfl,rfl,h.ext.cut (Ak _) hlen hR.ro,h.rh.cut hlen (by rw[h.ext.ro];exact hR.ro) hc.2,h.rv.frz h.rh hlen hc.1⟩
 ·cases hs;exact⟨C',rfl,h⟩

theorem MK {P:Program} {E:Env} (hE:Ck P E) {k:FuncId} {args:List PV} {r:PV} {H:List Row} (h:Gr E k args H=some r):CV P k:=by
 unfold Gr at h;split at h
 ·rename_i r' hr;exact hE.G2 k _ r' hr
 ·cases h

theorem callG_sound {P:Program} {E:Env} (hE:Ck P E) {ex:Ex} (hX:DR P E ex) {ro:Nat} {k:FuncId} {args:List PV} {p:PV} {H':List Row} {C:Ctx} (hR:RH P C) (hro:C.ro=ro) {Vs:Array Value} (hv:Cs P C args Vs)
  (h:callG P E ex ro k args C.H=some (p,H')):
  (∀ w,(callFunc k Vs).run P w=.ok (.enter k Vs) w)/\Calls P k Vs C.w fun e w'=>∃ V C',e=.returned V/\C'.w=w'/\G1 P C C' H' p V:=by
 unfold callG at h;split at h
 ·rename_i r hr;cases h;refine⟨MK hE hr Vs,(callO_sound hE hR hv hr).mono ?_⟩
  rintro e w' ⟨V,rfl,hs,hrv⟩
  exact⟨V,C.at w',rfl,rfl,rfl,hs.ext,hs.rh hR,hrv⟩
 ·split at h
  ·rename_i q H2 hI;obtain⟨g1,g2⟩:=FW hE hX hR hro hv hI;refine⟨g1,g2.mono ?_⟩
   rintro e w' ⟨V,C',rfl,rfl,hc⟩
   split at h
   ·cases h;exact⟨V,C',rfl,rfl,hc⟩
   ·obtain⟨C2,e1,e2⟩:=MJ hR hc (Ah h);exact⟨V,C2,rfl,e1,e2⟩
  ·cases h

theorem callE_sound {P:Program} {E:Env} (hE:Ck P E) {ex:Ex} (hX:DR P E ex) {k:FuncId} {args:List PV} {p:PV} {H:List Row} {C:Ctx} (hR:RH P C) (hHC:C.H.take H.length=H) {Vs:Array Value} (hv:Cs P C args Vs)
  (h:callE P E ex k args H=some p):
  (∀ w,(callFunc k Vs).run P w=.ok (.enter k Vs) w)/\Calls P k Vs C.w fun e w'=>∃ V,e=.returned V/\Iw C.w w'/\RV P (C.at w') p V:=by
 have hle:H.length<=C.H.length:=by
  have:=congrArg List.length hHC;simp only[Az] at this;omega
 unfold callE at h;split at h
 case isFalse=>cases h
 rename_i hmk;simp only[Aa] at hmk;obtain⟨hm,hok⟩:=hmk;have hRc:RH P (C.cut H.length True H.length):=hR.cut hle (Ak _) (by rw[hHC];exact hok);have hvc:Cs P (C.cut H.length True H.length) args Vs:=⟨hv.1,fun j c v h1 h2=>(hv.2 j c v h1 h2).cut hle (C5 hm h1)⟩;have hHe:(C.cut H.length True H.length).H=H:=hHC;split at h
 ·rename_i r hr;cases h;refine⟨MK hE hr Vs,?_⟩;have:=callO_sound hE hRc hvc (by rw[hHe];exact hr);refine this.mono ?_
  rintro e w' ⟨V,rfl,hs,hrv⟩
  refine⟨V,rfl,hs,?_⟩;exact RV.back (Ci:=(C.cut H.length True H.length).at w') hle (Iw.ext hs) hrv (mlt_mono (A4 _) _ (callO_mlt hr))
 ··split at h
   ·rename_i q H2 hI;split at h
    ·rename_i hq;cases h;obtain⟨g1,g2⟩:=FW hE hX (C:=C.cut H.length True H.length) hRc rfl hvc (by rw[hHe];exact hI);refine⟨g1,g2.mono ?_⟩
     rintro e w' ⟨V,C',rfl,rfl,hc⟩
     refine⟨V,rfl,IL hc.ext,?_⟩;have hlen:H.length<=C'.H.length:=by have:=hc.ext.len;rw[hHe] at this;exact this
     have hH2:=hc.H;subst hH2;have h1:=hc.rv.frz (ro:=C'.ro) hc.rh hlen hq;have hx2:Ext (C.cut H.length True H.length) (C'.cut H.length False C'.ro):=hc.ext.cut (by rw[hHe];exact Ak _) hlen (by rw[hHe];exact Ak _);exact RV.back (Ci:=C'.cut H.length False C'.ro) hle hx2 h1 hq
    ·cases h
   ·cases h

theorem MM {P:Program} {C:Ctx} {S:List PV} {a:Act} {first cap:List PV} {F K:Array Value} {xs:Array Operand} (hF:Cs P C first F) (hK:Cs P C cap K) (hx:∀ x ∈ xs,RV P C (ev S x) (a.eval x)):
  Cs P C (first++xs.toList.map (ev S)++cap) (F++xs.map a.eval++K):=by
 have hm:=Mr (P:=P) (C:=C) (f:=ev S) (g:=a.eval) hx;have app:∀ {l1 l2:List PV} {a1 a2:Array Value},Cs P C l1 a1->Cs P C l2 a2->Cs P C (l1++l2) (a1++a2):=by
  intro l1 l2 a1 a2 h1 h2;refine⟨by simp[h1.1,h2.1],fun j c v g1 g2 => ?_⟩;rw[AL] at g1;rw[Array.getElem?_append,h1.1] at g2;split at g1
  ·rename_i hj;rw[Ai hj] at g2;exact h1.2 j c v g1 g2
  ·rename_i hj;rw[An hj] at g2;exact h2.2 _ c v g1 g2
 exact app (app hF ⟨hm.1,hm.2⟩) hK

theorem MN {r:Option Nat} {P:Program} {o:Oper} {a:Act} {w:World} {c:Call} {g:Operand} {k:FuncId} {F K:Array Value} {next:Act->World->Prop} {Q:Exit->Act->World->Prop} (ho:o.op=.call c) (hc:c.callee=.value g) (hg:a.eval g=.func (.func k) F K)
  (hent:∀ w,(callFunc k (F++c.args.map a.eval++K)).run P w=.ok (.enter k (F++c.args.map a.eval++K)) w) {R:Ending->World->Prop} (hcall:Calls P k (F++c.args.map a.eval++K) w R)
  (hn:∀ e w',R e w'->∃ V,e=.returned V/\next (a.put o.dst V) w'):o.wpIn (Fr r) 0 P a w next Q:=by
 refine⟨fun _ _=>trivial,?_⟩;have hrun:(execOp a.eval o).run P w=.ok (.enter k (F++c.args.map a.eval++K)) w:=by
  unfold execOp;simp only[ho,resolve,hc,hg,Deferred.ofValue,Sem.run_bind,Sem.run_pure,Result.andThen_ok,invoke,hent]
 rw[FU hrun (fun _ h=>by cases h),Oper.uponIn_enter];refine⟨fun h=>(by cases h),fr_calls.2 (hcall.mono fun e w' he => ?_)⟩;obtain⟨V,rfl,h⟩:=hn e w' he;exact h

theorem yieldQ_sound {P:Program} {E:Env} {ex:Ex} (hX:DR P E ex) {ro i b:Nat} {args:List PV} {t:Bool} {H':List Row} {C:Ctx} (hR:RH P C) (hro:C.ro=ro) {Vs:Array Value} (hv:Cs P C args Vs) (hρ:C.ρ i=some b)
  (h:yieldQ ex ro i args C.H=some (t,H')) (r:Option Nat):∃ rec,C.w.heap[b]? = some (.loop rec)/\Vs.size=rec.params.size /\
   RoundIn (Fr r) 0 P b rec.fn ((rec.params.zip Vs).foldl (fun tmps (t,a)=>tmps.setIfInBounds t a) rec.tmps) rec.assign rec.body C.w fun e w'=>∃ C',e=.returned (.bool t)/\C'.w=w'/\G1 P C C' H' (.val (.bool t)) (.bool t):=by
 unfold yieldQ at h;split at h
 case h_2=>cases h
 rename_i k hk;split at h
 case isFalse=>cases h
 rename_i hc;simp only[Aa,Ab,Aw] at hc;split at h
 case h_2=>cases h
 rename_i S1 H1 hasg;split at h
 case h_2=>cases h
 rename_i k1 H2 hk1 hH2;obtain⟨r0,z1,z2,z3⟩:=Kj hk;obtain⟨⟨rec,m1,m2,m3,m4,m5,m6⟩,ha,hb⟩:=(hR.Hw i b r0 _ hρ z1 z2 z3).rng rfl;simp only at m2 m3 m4 m5 ha hb;refine⟨rec,m1,by rw[hv.1,hc.2,m2],?_⟩;refine roundIn_of_wpIn (F:=Fr r) (n:=0) trivial ?_;show rec.assign.wpIn (Fr (some b)) 0 P _ _ _
 have hsl:Fv P C (setPs k.S0 k.ps.toList args) ((rec.params.zip Vs).foldl (fun tmps (t,a)=>tmps.setIfInBounds t a) rec.tmps):=by
  have h0:=setPs_sound k.ps.toList args Vs.toList k.S0 rec.tmps m5 (by simp[hv.1]) (fun j c v h1 h2=>hv.2 j c v h1 (by simpa using h2));rw[<- Array.foldl_toList,Array.toList_zip,m2];exact h0
 rw[m3];refine hX ro k.f k.He _ C.H .normal S1 H1 hasg ha (some b) C _ rfl hro hR hsl (fun l hl=>by cases hl;exact⟨rec,m1⟩) _ fun a1 C1 _ hC1 hx1 hR1 hs1 => ?_
 subst hC1;have hρ1:C1.ρ i=some b:=(hx1.lp i r0 _ z1 z2 z3).2 b hρ;obtain⟨r1,y1,y2,y3⟩:=Kj hk1;obtain⟨⟨rec1,n1,n2,n3,n4,n5,n6⟩,ha1,hb1⟩:=(hR1.Hw i b r1 _ hρ1 y1 y2 y3).rng rfl;obtain⟨⟨r1',st1,y1',y2',y3'⟩,_⟩:=hx1.lp i r0 _ z1 z2 z3;have e1:k1=k:=by
  rw[y1] at y1';cases y1';rw[y2] at y2';cases y2';rfl
 subst e1;have hro1:C1.ro<=i:=by rw[hx1.ro,hro];exact hc.1
 obtain⟨hx2,hR2⟩:=Kk (st:=.busy) (rec':={ rec1 with state:=.busy }) hR1 hH2 hρ1 hro1 n1 rfl rfl rfl rfl rfl;refine⟨_,run_beginRound n1 n6.1,?_⟩;split at h
 case h_2=>cases h
 rename_i x S3 H3 hbody;rw[m4];refine hX ro k1.f k1.body S1 H2 x S3 H3 hbody hb (some b) (C1.turnL b { rec1 with state:=.busy } H2) _ rfl (by rw[<- hro,<- hx1.ro];rfl) hR2 (hs1.mono hx2) (fun l hl=>by cases hl;exact hx2.loop b rec1 n1) _ fun a3 C3 _ hC3 hx3 hR3 _ => ?_
 subst hC3;have hρ3:C3.ρ i=some b:=by
  obtain⟨_,q⟩:=hx1.lp i r0 _ z1 z2 z3;obtain⟨⟨r2',st2,w1,w2,w3⟩,q2⟩:=hx2.lp i r1 _ y1 y2 y3;obtain⟨_,q3⟩:=hx3.lp i r2' _ w1 w2 w3;exact q3 b (q2 b (q b hρ))
 obtain⟨rec3,hrec3⟩:=(hx1.trans (hx2.trans hx3)).loop b rec m1;have hro3:C3.ro<=i:=by rw[hx3.ro,hx2.ro];exact hro1
 have fin:∀ (j:Option Code) (H4:List Row) (st:LSt) (tb:Bool),tb=j.isNone->Ij C3.H i st=some H4->(StB st { rec3 with state:=if j.isNone then .ready else .done,pending:=j }) ->
   ∃ v w',(Instr.endRound b j).run P C3.w=.ok v w'/\∃ C',Ending.returned v=.returned (.bool tb)/\C'.w=w'/\G1 P C C' H4 (.val (.bool tb)) (.bool tb):=by
  intro j H4 st tb htb h4 hst;obtain⟨hx4,hR4⟩:=Kk (st:=st) (rec':={ rec3 with state:=if j.isNone then .ready else .done,pending:=j }) hR3 h4 hρ3 hro3 hrec3 rfl rfl rfl rfl hst;exact⟨_,_,run_endRound j hrec3,_,by rw[htb],rfl,rfl,hx1.trans (hx2.trans (hx3.trans hx4)),hR4,.val⟩
 cases x with
 | normal =>
  simp only[LN] at h;obtain⟨H4,h4,he⟩:=Af.1 h;cases he;exact fin none _ .ready _ rfl h4 ⟨rfl,rfl⟩
 | exit id =>
  simp only[LN] at h;obtain⟨H4,h4,he⟩:=Af.1 h;cases he;exact fin (some (.exit id)) _ (.done (.exit id)) _ rfl h4 ⟨rfl,rfl⟩
 | ret =>
  simp only[LN] at h;obtain⟨H4,h4,he⟩:=Af.1 h;cases he;exact fin (some .ret) _ (.done .ret) _ rfl h4 ⟨rfl,rfl⟩

theorem wp_yield {r:Option Nat} {P:Program} {o:Oper} {a:Act} {w:World} {c:Call} {g:Operand} {b:Nat} {rec:Loop} {next:Act->World->Prop} {Q:Exit->Act->World->Prop} (ho:o.op=.call c) (hc:c.callee=.value g) (hg:a.eval g=.func (.yield b) #[] #[])
  (hrec:w.heap[b]? = some (.loop rec)) (hsz:(c.args.map a.eval).size=rec.params.size) {R:Ending->World->Prop} (hcall:RoundIn (Fr r) 0 P b rec.fn ((rec.params.zip (c.args.map a.eval)).foldl (fun tmps (t,a)=>tmps.setIfInBounds t a) rec.tmps) rec.assign rec.body w R)
  (hn:∀ e w',R e w'->∃ V,e=.returned V/\next (a.put o.dst V) w'):o.wpIn (Fr r) 0 P a w next Q:=by
 refine⟨fun _ _=>trivial,?_⟩;have hrun:(execOp a.eval o).run P w=.ok (.round b rec.fn ((rec.params.zip (c.args.map a.eval)).foldl (fun tmps (t,a)=>tmps.setIfInBounds t a) rec.tmps) rec.assign rec.body) w:=by
  unfold execOp;simp only[ho,resolve,hc,hg,Deferred.ofValue,Sem.run_bind,Sem.run_pure,Result.andThen_ok,invoke,Array.empty_append];exact run_yield hrec hsz
 rw[FU hrun (fun _ h=>by cases h),Oper.uponIn_round];refine⟨fun h=>(by cases h),?_⟩;obtain⟨h1,h2⟩:=hcall;refine⟨h1,fun cc cs hr => ?_⟩;obtain⟨e,w',hR,hco⟩:=h2 cc cs hr;obtain⟨V,rfl,h⟩:=hn e w' hR;exact⟨.returned V,w',h,hco⟩

theorem DK {r:Option Nat} {P:Program} {o:Oper} {a:Act} {w w':World} {v:Value} {next:Act->World->Prop} {Q:Exit->Act->World->Prop} (h:(execOp a.eval o).run P w=.ok (.value v) w') (hn:next (a.put o.dst v) w'):o.wpIn (Fr r) 0 P a w next Q:=by
 refine⟨fun _ _=>trivial,?_⟩;rw[FU h (fun _ h=>by cases h)];exact hn

theorem KO {r:Option Nat} {P:Program} {o:Oper} {a:Act} {w w':World} {n:Next} {v:Value} {next:Act->World->Prop} {Q:Exit->Act->World->Prop} (h:(execOp a.eval o).run P w=.ok n w') (hv:n=.value v\/(n=.skip/\v=undef)) (hn:next (a.put o.dst v) w'):o.wpIn (Fr r) 0 P a w next Q:=by
 rcases hv with rfl | ⟨rfl,rfl⟩
 ·exact DK h hn
 ·refine⟨fun _ _=>trivial,?_⟩;rw[FU h (fun _ h=>by cases h)];exact hn

theorem sub_self (C:Ctx):Sub C.H C:=fun _ _ h=>h

theorem IP {P:Program} {H:List Row} {f:Operand->PV} {op:Op} {p:PV} {r:Row} (h:JT P H f op=some (p,r)):r.live=true:=by
 cases op <;> simp only[JT,reduceCtorEq] at h
 case convert src dst x =>
  split at h
  ·split at h
   ·cases h;rfl
   ·cases h
  ·cases h
 case alloc T =>
  split at h
  ·split at h
   ·cases h;rfl
   ·cases h
  ·cases h
 case box T x =>
  split at h
  ·cases h;rfl
  ·cases h
 case buildSlice T len parts =>
  simp only[Af] at h;obtain⟨y,_,h⟩:=h;cases h;rfl
 case makeSlice T l c =>
  split at h
  ·split at h
   ·split at h
    ·cases h;rfl
    ·cases h
   ·cases h
  ·cases h

theorem stepS_sound {r:Option Nat} {P:Program} {E:Env} (hE:Ck P E) {ex:Ex} (hX:DR P E ex) {ro:Nat} {S:List PV} {o:Oper} {p:PV} {H':List Row} {C:Ctx} {a:Act} (hR:RH P C) (hro:C.ro=ro) (hs:Fv P C S a.tmps)
  (h:Ls P E ex ro S C.H o=some (p,H')) {next:Act->World->Prop} {Q:Exit->Act->World->Prop} (hn:∀ v C',G1 P C C' H' p v->next (a.put o.dst v) C'.w):o.wpIn (Fr r) 0 P a C.w next Q:=by
 unfold Ls at h;split at h
 ·rename_i r0 hr0;cases h;subst hro;obtain⟨n,v,C',g1,gv,g2,g3⟩:=(LO hE hr0).1 C a.eval o rfl rfl rfl hR (fun x _=>hs.ev x);exact KO g1 gv (hn v C' ⟨g2.H,g2.ext,g2.rh,g3⟩)
 split at h
 ·rename_i q hq;cases h;obtain⟨v,g1,g2⟩:=Jh hR (sub_self C) (fun x _=>hs.ev x) hq;exact DK g1 (hn v C ⟨rfl,.refl C,hR,g2⟩)
 ·split at h
  ·rename_i q r hq;cases h;have hx1:=EM hR r;have hR1:=GN hR r;have hlen:(C.more r).H.length=C.H.length+1:=by simp[Ctx.more]
   have hlive:r.live=true:=IP hq;have hrow:(C.more r).row? C.H.length=some r:=by
    show rowAt (C.H++[r]) C.H.length=some r
    unfold rowAt;simp[hlive]
   obtain⟨v,C',g1,g2⟩:=HJ (C:=C.more r) (H:=C.H) (f:=ev S) (g:=a.eval) hR1 (by omega) (hR.Gd (Ak _)) hR.ro hrow (fun x _=>(hs.ev x).mono hx1) hq;exact DK g1 (hn v C' ⟨by rw[g2.H];rfl,hx1.trans g2.ext,g2.rh,g2.rv⟩)
  ·split at h
   ·-- a store
    rename_i T x y ho;obtain⟨H2,h2,he⟩:=Af.1 h;cases he;subst hro;obtain⟨C',g1,g2,_⟩:=Ji hR (hs.ev x) (hs.ev y) h2;have:=hn undef C' ⟨g2.H,g2.ext,g2.rh,.val⟩;refine⟨fun _ _=>trivial,?_⟩;have hrun:(execOp a.eval o).run P C.w=.ok .skip C'.w:=by
     unfold execOp;simp only[ho,Sem.run_bind,g1,Result.andThen_ok,Sem.run_pure]
    rw[FU hrun (fun _ h=>by cases h)];exact this
   ·-- a call
    rename_i c ho;split at h
    ·rename_i hc;split at h
     ·rename_i x y hargs;subst hro;obtain⟨v,C',g1,g2,g3,_⟩:=FA hR (hs.ev x) (hs.ev y) h o.type;have hca:c.args = #[x,y]:=by apply Bs;simpa using hargs
      refine DK (v:=v) (w':=C'.w) ?_ (hn v C' ⟨g2.H,g2.ext,g2.rh,g3⟩);unfold execOp;simp only[ho,resolve,hc,hca,Sem.run_bind,Sem.run_pure,Result.andThen_ok,invoke,builtin,BC,AZ,Bu,g1]
     ·cases h
    ·rename_i g hc;split at h
     ·rename_i k first cap hg
      have hgv:=hs.ev g;rw[hg] at hgv;generalize hG:a.eval g=G at hgv;cases hgv with
      | fn q1 q2 q3 q4 =>
       have hargs:=MM (a:=a) (S:=S) (xs:=c.args) ⟨q1,q3⟩ ⟨q2,q4⟩ (fun x _=>hs.ev x);obtain⟨e1,e2⟩:=callG_sound hE hX hR hro hargs h;exact MN ho hc hG e1 e2 fun e w' ⟨V,C',he,hw,hct⟩=>⟨V,he,by rw[<- hw];exact hn V C' hct⟩
     ·rename_i i hg;obtain⟨⟨t,H2⟩,h2,he⟩:=Af.1 h;cases he;have hgv:=hs.ev g;rw[hg] at hgv;generalize hG:a.eval g=G at hgv;cases hgv with
      | HE hi hl hb =>
       have hargs:Cs P C (c.args.toList.map (ev S)) (c.args.map a.eval):=by
        have hm:=Mr (P:=P) (C:=C) (f:=ev S) (g:=a.eval) (xs:=c.args) (fun x _=>hs.ev x);exact⟨hm.1,hm.2⟩
       obtain⟨rec,e1,e2,e3⟩:=yieldQ_sound hX hR hro hargs hb h2 r;exact wp_yield ho hc hG e1 e2 e3 fun e w' ⟨C',he,hw,hct⟩=>⟨_,he,by rw[<- hw];exact hn _ C' hct⟩
     ·cases h
    ·subst hro;obtain⟨n,v,C',g1,gv,g2,g3⟩:=moreE_sound hE (g:=a.eval) hR rfl (fun x _=>hs.ev x) h;exact KO g1 gv (hn v C' ⟨g2.H,g2.ext,g2.rh,g3⟩)
   ·subst hro;obtain⟨n,v,C',g1,gv,g2,g3⟩:=moreE_sound hE (g:=a.eval) hR rfl (fun x _=>hs.ev x) h;exact KO g1 gv (hn v C' ⟨g2.H,g2.ext,g2.rh,g3⟩)
end Go.Hx
