import Derived.Test.YtggmhenfkidjbaaPart1
import Derived.RangeFuncRecord
import Derived.OrdersIn
import Derived.LoopNIn
import Derived.TacticsIn
noncomputable section
namespace Go.Hx
variable{P:Program}{C:Ctx}
def Ks(H:List Row):PV->Option (Bool×TypeId×List PV)
 |.sl i n k len=>
  match rowAt H i with
  |some r=>if r.es.length=n then some (r.bv,r.t,(r.es.drop k).take len) else none
  |none=>none
 |.C9 _ t es=>some (true,t,es)
 |_=>none
def UB(P:Program)(T:TypeId)(y:PV):Option (Bool×TypeId×List PV):=
 match P.underlying T,y with
 |some (.slice e),.val (.string s)=>if TF P e then some (true,e,FA s) else none
 |_,_=>none
def zsl:PV->Bool
 |.val (.slice (some _) 0 _)=>true
 |_=>false
def JV(P:Program)(T T2:TypeId)(H:List Row)(y:PV):Option (Bool×TypeId×List PV):=
 match P.underlying T2 with
 |some (.slice e)=>match zsl y with |true=>some (true,e,[]) |false=>Ks H y
 |some .string=>UB P T y
 |_=>none
theorem Wh{k:Kind}{p:PV}(h:KH k p=true):GB p=true:=by
 unfold KH at h;split at h <;> first |rfl |cases h
theorem Np:∀{ks:List Kind} {ps:List PV},D4 ks ps=true->∀ p∈ps,GB p=true
 | [],[],_,p,h=>by cases h
 | [],_::_,h,_,_=>by simp[D4]at h
 |_::_,[],h,_,_=>by simp[D4]at h
 |k::ks,q::ps,h,p,hp=>by
  simp only[D4,Aa]at h;rcases AK.1 hp with rfl |hp
  ·exact Wh h.1
  ·exact Np h.2 p hp
theorem Q4{t:TypeId}{e:PV}(h:wt P t e=true):∀ p∈e.cells,GB p=true:=by
 simp only[wt,Aa]at h;exact Np h.1
structure Src(P:Program)(C:Ctx)(s:Nat)(t:TypeId)(ty:Bool)(es:List PV)(V:Value)(vs:List Value):Prop where
 shape:∀ w,(Builtin.lenOf V).run P w=.ok es.length w
 first:∀ n,n=es.length->(Builtin.firstCells s n V).run P C.w=.ok vs.toArray C.w
 len:vs.length=es.length*s
 el:∀ e,e∈es->e.cells.length=s
 rel:∀(k:Nat) e (j:Nat) p,es[k]? = some e->e.cells[j]? = some p->∃ v,vs[k*s+j]? = some v/\RV P C p v
 typed:ty=true->∀ e,e∈es->wt P t e=true
theorem Q5{b off s:Nat}{es:List PV}(hl:∀ e,e∈es->e.cells.length=s)
  (h:∀(k:Nat) e (j:Nat) p,es[k]? = some e->e.cells[j]? = some p->∃ v,C.w.cell? ⟨b,off+k*s+j,none⟩=some v/\RV P C p v):
  ∃ vs:List Value,vs.length=es.length*s/\(∀(j:Nat) v,vs[j]? = some v->C.w.cell? ((⟨b,off,none⟩:Addr).add j)=some v) /\
   ∀(k:Nat) e (j:Nat) p,es[k]? = some e->e.cells[j]? = some p->∃ v,vs[k*s+j]? = some v/\RV P C p v:=by
 refine⟨(List.range (es.length*s)).map fun x=>(C.w.cell? ⟨b,off+x,none⟩).getD undef,by simp,fun j v hj=>?_,fun k e j p h1 h2=>?_⟩
 ·simp only[An,Af]at hj;obtain⟨x,hx,rfl⟩:=hj;have hlt:j<es.length*s:=by
   have:=(Ad.1 hx).1;simpa using this
  rw[Be hlt]at hx;cases hx;rw[Fs];have hs:0<s:=by
   rcases Cz s with h0 |h0
   ·subst h0;simp at hlt
   ·exact h0
  have hk:j / s<es.length:=(CA hs).2 hlt;have he:=Ae hk;have hm:j % s<(es[j / s]).cells.length:=by rw[hl _ (By hk)];exact Nat.mod_lt _ hs
  obtain⟨v,g1,_⟩:=h (j / s) _ (j % s) _ he (Ae hm);have e2:off+j / s*s+j % s=off+j:=by
   have:=Nat.div_add_mod j s;rw[CU]at this;omega
  rw[e2]at g1;rw[g1];rfl
 ·obtain⟨v,g1,g2⟩:=h k e j p h1 h2;have hk:k<es.length:=(Ad.1 h1).1;have hj:j<s:=by
   rw[<- hl e (Ag h1)];exact(Ad.1 h2).1
  have hlt:k*s+j<es.length*s:=by
   have h5:(k+1)*s<=es.length*s:=A1 _ hk;rw[Bb,BQ]at h5;omega
  refine⟨v,?_,g2⟩;simp only[An,Be hlt,AE,<- B3,g1];rfl
theorem KR{x:PV}{X:Value}{ty:Bool}{t:TypeId}{es:List PV}(hR:RH P C)(hx:RV P C x X)(h:Ks C.H x=some (ty,t,es)):
  ∃ vs,Src P C (P.cellsOf t) t ty es X vs:=by
 unfold Ks at h;split at h
 ·rename_i i n k len;split at h
  ·rename_i r hr;split at h
   ·rename_i hn;cases h;cases hx with
    |sl hV hi hle hh=>
     obtain⟨hk,a,cap,rfl,hc,hs⟩:=hh r hr hn;have hlen:((r.es.drop k).take len).length=len:=by simp;omega
     unfold E4 at hs;split at hs
     ·obtain⟨rfl,rfl⟩:=hs;have h0:len=0:=by omega
      subst h0;simp only[CV];exact⟨[],fun _=>rfl,fun n hn=>by subst hn;simp[Builtin.firstCells],by simp,fun e he=>by simp at he,fun k e j p h1=>by simp at h1,fun _ e he=>by simp at he⟩
     ·obtain⟨b,hb,rfl,c,e',fr,hh1,hh2,_⟩:=hs;have hB:=hR.GP i b r hb hr;have hsz:=hB.sz;obtain⟨c0,fr0,cv,m1,m2,m3,m4⟩:=hB.mem;have hel:∀ e,e∈(r.es.drop k).take len->e.cells.length=r.s:=fun e he=>hB.len e (BP (B0 he))
      have hget:∀(x:Nat) e,((r.es.drop k).take len)[x]? = some e->r.es[k+x]? = some e:=fun x e he=>by
       rw[Au]at he;split at he
       ·rw[A8]at he;exact he
       ·cases he
      obtain⟨vs,v1,v2,v3⟩:=Q5 (P:=P) (C:=C) (b:=b) (off:=k*r.s) hel (fun x e j p h1 h2=>by
       obtain⟨g1,g2⟩:=m4 (k+x) e j p (hget x e h1) h2;refine⟨_,?_,g2⟩;rw[Ij m1,<- g1,Bb])
      rw[<- hsz];refine⟨vs,fun _=>by rw[hlen];rfl,fun n hn=>?_,v1,hel,v3,fun hb e he=>hB.typed hb e (BP (B0 he))⟩;exact run_firstCells_some C.w r.s n _ len cap vs (by rw[v1,hn]) v2
   ·cases h
  ·cases h
 ·cases h;cases hx with
  | @C9 _ _ _ a cap b off cv hcap hfull hA hC hR' ht=>
   by_cases h0:es.length=0
   ·have:es=[]:=BI h0;subst this;refine⟨[],fun _=>rfl,fun n hn=>?_,by simp,fun e he=>by simp at he,fun k e j p h1=>by simp at h1,fun _ e he=>by simp at he⟩;subst hn;cases a
    ·simp[Builtin.firstCells]
    ·simp[Builtin.firstCells,loadCells,loadCellsFrom]
   ·obtain⟨rfl,g2,g3⟩:=hA (by omega);obtain⟨vs,v1,v2,v3⟩:=Q5 (P:=P) (C:=C) (b:=b) (off:=off) (s:=P.cellsOf t) (fun e he=>Oj (ht e he)) (fun x e j p h1 h2=>⟨_,hC x e j p h1 h2,hR' x e j p h1 h2⟩);refine⟨vs,fun _=>rfl,fun n hn=>?_,v1,fun e he=>Oj (ht e he),v3,fun _=>ht⟩;exact run_firstCells_some C.w (P.cellsOf t) n _ es.length cap vs (by rw[v1,hn]) v2
 ·cases h
theorem MD{x:PV}{X:Value}{ty:Bool}{t T T2:TypeId}{es:List PV}(hR:RH P C)(hx:RV P C x X)(h:JV P T T2 C.H x=some (ty,t,es)):
  ∃ vs,Src P C (P.cellsOf t) t ty es X vs:=by
 unfold JV at h;split at h
 ·split at h
  ·rename_i hz;cases h;unfold zsl at hz;split at hz
   ·cases hx;exact⟨[],fun _=>rfl,fun n hn=>by subst hn;simp[Builtin.firstCells,loadCells,loadCellsFrom],by simp,fun e he=>by simp at he,fun k e j p h1=>by simp at h1,fun _ e he=>by simp at he⟩
   ·cases hz
  ·exact KR hR hx h
 ·unfold UB at h;split at h
  ·rename_i e s _;split at h
   ·rename_i hb;obtain⟨_,b1,b2⟩:=KP hb;cases h;cases hx;have hl:(FA s).length=s.size:=by rw[FA,AP];rfl
    refine⟨s.data.toList.map fun b=>.int .u8 (b.toNat:Int),fun _=>by rw[hl];rfl,fun n hn=>?_,by rw[b1,hl,AP,CR];rfl,fun e he=>?_,fun k e j p h1 h2=>?_,fun _ e he=>?_⟩
    ·subst hn;rw[hl];have:s.extract 0 s.size=s:=by simp
     simp only[Builtin.firstCells,this,Sem.run_pure];congr 1
     apply BD
     simp
    ·rw[b1];simp only[FA,AX]at he;obtain⟨b,_,rfl⟩:=he;rfl
    ·simp only[FA,An,Af]at h1;obtain⟨b,hb1,rfl⟩:=h1;have hj:j=0:=by
      have:=(Ad.1 h2).1;simpa [UA,PV.cells] using this
     subst hj;cases h2;refine⟨.int .u8 (b.toNat:Int),?_,.val⟩;rw[b1,CR,BA,An,hb1];rfl
    ·simp only[FA,AX]at he;obtain⟨b,_,rfl⟩:=he;exact Wg b2 _
   ·cases h
  ·cases h
 ·cases h
theorem Q6{T T2:TypeId}{H:List Row}{y:PV}{q:Bool×TypeId×List PV}(h:JV P T T2 H y=some q):(∃ e2,P.underlying T2=some (.slice e2))\/P.underlying T2=some .string:=by
 unfold JV at h;split at h
 ·exact .inl ⟨_,by assumption⟩
 ·exact .inr (by assumption)
 ·cases h
def GX(es:List PV):Bool:=es.all fun e=>e.cells.all GB
def ES(P:Program)(ro:Nat)(H:List Row)(c:Call)(x y:PV):Option (PV×List Row):=
 match c.argTypes[0]?,c.argTypes[1]? with
 |some T,some T2=>
  match P.underlying T,JV P T T2 H y with
  |some (.slice e),some (ty,t,news)=>
   if known P e&&t==e&&(E8 P e).any (fun z=>z.cells.size==P.cellsOf e)&&P.bytesOf e != 0&&(ty||GX news) then
    match x with
    |.sl i n 0 len=>
     match rowAt H i with
     |some r=>
      if ro<=i/\r.es.length=n/\n=len/\(n+news.length)*P.bytesOf e<=140737488355328 then
       if r.t==e&&r.s==P.cellsOf e && !r.fz then
        some (.sl i (n+news.length) 0 (n+news.length),H.set i { r with es:=r.es++news,bv:=r.bv&&ty,nl:=r.nl&&news.isEmpty }) else none
      else none
     |none=>none
    |.val (.slice none 0 0)=>
     if news.length*P.bytesOf e<=140737488355328 then
      if news.isEmpty then some (x,H) else some (.sl H.length news.length 0 news.length,H++[{ es:=news,s:=P.cellsOf e,t:=e,bv:=ty }]) else none
    |.C9 true t2 es=>
     if t2==e then
      if (es.length+news.length)*P.bytesOf e<=140737488355328 then
       if news.isEmpty then some (x,H) else some (.sl H.length (es.length+news.length) 0 (es.length+news.length),H++[{ es:=es++news,s:=P.cellsOf e,t:=e,bv:=ty }]) else none
     else none
    |_=>none
   else none
  |_,_=>none
 |_,_=>none
section
variable {P:Program} {T T2 e:TypeId} {i:TypeInfo} {z Y:Value} {n cap m:Nat} {a:Option Addr} {ts:Array TypeId}
theorem run_append_grow'(w:World)(hT:ts[0]? = some T)(hT2:ts[1]? = some T2)(hu:P.underlying T=some (.slice e))(hu2:(∃ e2,P.underlying T2=some (.slice e2))\/P.underlying T2=some .string)(hY:∀ w,(Builtin.lenOf Y).run P w=.ok m w)(hi:P.info? e=some i)(hz:i.zero=some z)
  (hb:i.bytes≠0) (hbig:(n+m)*i.bytes<=140737488355328) (hg:cap<n+m) (ty:TypeId):
  (Builtin.append_ ts ty #[.slice a n cap,Y]).run P w=((Builtin.firstCells i.size n (.slice a n cap)).run P w.drew).andThen fun Pd w1=>
   ((Builtin.firstCells i.size m Y).run P w1).andThen fun new w2=>
    .ok (.slice (some ⟨w2.heap.size,0,none⟩) (n+m) (grownCap w (n+m) cap e)) (w2.alloc (.cells (Pd++new++Builtin.zeroCells z.cells (grownCap w (n+m) cap e-(n+m))) e)):=by
 have hfit:=growslice_fits hg hbig;have hb':¬(Builtin.nextslicecap (n+m) cap*i.bytes > 281474976710656):=by omega
 have hf:(Question.appendCap (n+m) cap e).forced=false:=rfl;rcases hu2 with ⟨e2,hu2⟩ |hu2 <;>
 ·simp only[Builtin.append_,hT,hT2,BE,AZ,BO,Sem.run_bind,run_underlying hu,run_underlying hu2,Result.andThen_ok,sizeOf,typeInfo,run_program,hi,Sem.run_pure,hY,
   BS,BV,A4,Cd,Dw]
  rw[Aq (by omega)];simp only[Sem.run_bind,Sem.run_pure,Result.andThen_ok,run_program,hi,hb,and_false,Cd];rw[Aq (by omega)];simp only[Sem.run_bind,run_choose,hf,A4,Cd,Result.andThen_ok,run_askRoom,zeroValue,typeInfo,run_program,hi,hz,Sem.run_pure,newRow,run_newObj];rfl
theorem run_append_room'(w:World)(hT:ts[0]? = some T)(hT2:ts[1]? = some T2)(hu:P.underlying T=some (.slice e))(hu2:(∃ e2,P.underlying T2=some (.slice e2))\/P.underlying T2=some .string)(hY:∀ w,(Builtin.lenOf Y).run P w=.ok m w)(hi:P.info? e=some i)
  (hg:n+m<=cap) (ty:TypeId):
  (Builtin.append_ ts ty #[.slice a n cap,Y]).run P w=((Builtin.firstCells i.size m Y).run P w).andThen fun new w1=>
   match a with
   |some ad=>((storeCells (ad.add (n*i.size)) new.toList).run P w1).andThen fun _ w2=>.ok (.slice a (n+m) cap) w2
   |none=>.ok (.slice a (n+m) cap) w1:=by
 rcases hu2 with ⟨e2,hu2⟩ |hu2 <;>
 ·simp only[Builtin.append_,hT,hT2,BE,AZ,BO,Sem.run_bind,run_underlying hu,run_underlying hu2,Result.andThen_ok,sizeOf,typeInfo,run_program,hi,Sem.run_pure,hY,
   BS,BV,A4,Cd]
  rw[Ak hg];cases a <;> simp
end
structure HB(P:Program)(C:Ctx)(s:Nat)(es:List PV)(vs:List Value):Prop where
 len:vs.length=es.length*s
 el:∀ e,e∈es->e.cells.length=s
 rel:∀(k:Nat) e (j:Nat) p,es[k]? = some e->e.cells[j]? = some p->∃ v,vs[k*s+j]? = some v/\RV P C p v
theorem Src.Th{s:Nat}{t:TypeId}{ty:Bool}{es:List PV}{V:Value}{vs:List Value}(h:Src P C s t ty es V vs):HB P C s es vs:=⟨h.len,h.el,h.rel⟩
theorem HB.app{s:Nat}{es fs:List PV}{vs us:List Value}(h:HB P C s es vs)(k:HB P C s fs us):HB P C s (es++fs) (vs++us):=by
 refine⟨by simp[h.len,k.len,Nat.add_mul],fun e he=>?_,fun x e j p h1 h2=>?_⟩
 ·rcases A3.1 he with he |he
  ·exact h.el e he
  ·exact k.el e he
 ·rw[AO]at h1;split at h1
  ·rename_i hx;obtain⟨v,g1,g2⟩:=h.rel x e j p h1 h2;refine⟨v,?_,g2⟩;rw[AO,Ak (Ad.1 g1).1];exact g1
  ·rename_i hx;obtain⟨v,g1,g2⟩:=k.rel _ e j p h1 h2;refine⟨v,?_,g2⟩;have h5:es.length*s<=x*s:=A1 _ (by omega);rw[AO,Aq (by rw[h.len];omega),h.len];rw[Nat.sub_mul]at g1;rw[<- g1];congr 1
   omega
theorem HB.mono{C C':Ctx}{s:Nat}{es:List PV}{vs:List Value}(h:HB P C s es vs)(hx:Ext C C'):HB P C' s es vs:=
 ⟨h.len,h.el,fun k e j p h1 h2=>let ⟨v,g1,g2⟩:=h.rel k e j p h1 h2; ⟨v,g1,g2.mono hx⟩⟩
theorem HB.rb{b:Nat}{r:Row}{vs:List Value}{c:Array Value}{fr:Nat×Nat}(h:HB P C r.s r.es vs)(hs:r.s=P.cellsOf r.t)(hb:C.w.heap[b]? = some (.cells c r.t fr))
  (hf:r.fz=false->∀ off,off<c.size->(decide (fr.1<=off)&&decide (off<fr.2))=false) (hc:∀(j:Nat) v,vs[j]? = some v->c[j]? = some v) (ht:r.bv=true->∀ e,e∈r.es->wt P r.t e=true):RB P C b r:=by
 refine⟨hs,⟨c,fr,fun k j=>c.getD (k*r.s+j) undef,hb,hf,?_,fun k e j p h1 h2=>?_⟩,h.el,ht⟩
 ·rw[<- h.len];rcases Cz vs.length with h0 |h0
  ·omega
  ·have:vs[vs.length-1]? = some (vs[vs.length-1]):=Ae (by omega);have:=(At.1 (hc _ _ this)).1;omega
 ·obtain⟨v,g1,g2⟩:=h.rel k e j p h1 h2;have g3:=hc _ _ g1;have e2:c.getD (k*r.s+j) undef=v:=by rw[Bk,g3];rfl
  simp only[e2];exact⟨g3,g2⟩
theorem UC{i x:Nat}{r r':Row}(hr:C.row? i=some r)(h1:C.H[x]? = some r')(h3:r'.live=false):x≠i:=fun e=>by
 subst e;have:C.row? x=none:=by unfold Ctx.row? rowAt;rw[h1];simp[h3]
 rw[this]at hr;cases hr
theorem Wi(hR:RH P C){i:Nat}{r r2:Row}(hi:i<C.H.length)(hro:C.ro<=i)(hr:C.row? i=some r)(hl:r2.live=true)(he:r2.es=r.es)(hs:r2.s=r.s)(ht:r2.t=r.t)(hn:r2.nl=r.nl)(hb:r2.bv=true->r.bv=true)(hz:r2.fz=false->r.fz=false:=by simp):
  I7 P C { C with H:=C.H.set i r2 } (C.H.set i r2):=by
 have hx:Ext C { C with H:=C.H.set i r2 }:=by
  refine⟨rfl,rfl,rfl,Al _,fun _ _ _=>rfl,fun _ c _ fr h=>⟨c,fr,h,rfl⟩,by simp,fun x r' hxl hr'=>?_,fun _ h=>.inl h,fun _ h=>.inl h,rfl,rfl,fun x hx=>⟨by show(C.H.set i r2)[x]? = _;rw[Ax,Aq (by omega)],rfl⟩,
   fun x r' info h1 h2 h3=>⟨⟨r',info.st,by show(C.H.set i r2)[x]? = _;rw[Ax,Aq (fun e=>UC hr h1 h3 e.symm)];exact h1,h2,h3⟩,fun _ h=>h⟩,fun _ rec h=>⟨rec,h⟩⟩
  have h1:rowAt (C.H.set i r2) x=some r':=hr';rw[Ep hi hl]at h1;split at h1
  ·rename_i e;subst e;cases h1;exact⟨r,hr,hs.symm,ht.symm,by rw[he];exact Al _,fun _=>⟨hn.symm,fun _ h=>h⟩⟩
  ·exact⟨r',h1,rfl,rfl,Al _,fun _=>⟨rfl,fun _ h=>h⟩⟩
 refine⟨rfl,hx,hR.inj,fun x b h=>?_,fun x b r' h1 h2=>?_,by simpa using hR.ro,hR.IU,hR.Kq,fun x b r' info h1 h2 h3 h4=>?_,hR.LQ.mono hx⟩
 ·by_cases hxi:x=i
  ·refine .inl ?_;show ∃ q,rowAt (C.H.set i r2) x=some q
   rw[Ep hi hl,Ak hxi];exact⟨_,rfl⟩
  ·rcases hR.Ly x b h with ⟨q,hq⟩ |⟨q,info,h1,h2,h3⟩
   ·exact .inl ⟨q,by show rowAt (C.H.set i r2) x=some q;rw[Ep hi hl,Aq hxi];exact hq⟩
   ·exact .inr ⟨q,info,by show(C.H.set i r2)[x]? = _;rw[Ax,Aq (fun e=>hxi e.symm)];exact h1,h2,h3⟩
 ·have h3:rowAt (C.H.set i r2) x=some r':=h2;rw[Ep hi hl]at h3;split at h3
  ·rename_i e;subst e;cases h3;have hB:=hR.GP x b r h1 hr;obtain⟨c,fr,cv,m1,m2,m3,m4⟩:=hB.mem;exact⟨by rw[hs,ht];exact hB.sz,⟨c,fr,cv,by rw[ht];exact m1,fun q=>m2 (hz q),by rw[he,hs];exact m3,fun k e j p q1 q2=>by rw[he]at q1;rw[hs];exact⟨(m4 k e j p q1 q2).1,(m4 k e j p q1 q2).2.mono hx⟩⟩,
    fun e q=>by rw[he]at q;rw[hs];exact hB.len e q,fun q e q2=>by rw[he]at q2;rw[ht];exact hB.typed (hb q) e q2⟩
  ·exact(hR.GP x b r' h1 h3).mono hx rfl
 ·have hxi:x≠i:=fun e=>by
   subst e;have h2':(C.H.set x r2)[x]? = some r':=h2;rw[Ax,Ak rfl,Ak hi]at h2';cases h2';rw[hl]at h4;cases h4
  have h2':(C.H.set i r2)[x]? = some r':=h2;rw[Ax,Aq (fun e=>hxi e.symm)]at h2';exact(hR.Ii x b r' info h1 h2' h3 h4).mono hx rfl
def Ctx.more(C:Ctx)(r:Row):Ctx:={ C with H:=C.H++[r] }
theorem D5{H:List Row}{r:Row}{x:Nat}(h:x<H.length):rowAt (H++[r]) x=rowAt H x:=by
 unfold rowAt;rw[Aw h]
theorem E9(hR:RH P C)(r:Row):Ext C (C.more r):=
 ⟨rfl,rfl,rfl,Al _,fun _ _ _=>rfl,fun _ c _ fr h=>⟨c,fr,h,rfl⟩,by simp[Ctx.more],fun x r' hx h=>⟨r',by rw[<- h];exact(D5 hx).symm,rfl,rfl,Al _,fun _=>⟨rfl,fun _ h=>h⟩⟩,fun _ h=>.inl h,fun _ h=>.inl h,rfl,rfl,fun x hx=>⟨Aw (by have:=hR.ro;omega),rfl⟩,
  fun x r' info h1 h2 h3=>⟨⟨r',info.st,by rw[<- h1];exact Aw (Ad.1 h1).1,h2,h3⟩,fun _ h=>h⟩,fun _ rec h=>⟨rec,h⟩⟩
theorem RH.KS(h:RH P C){i b:Nat}(hi:C.ρ i=some b):i<C.H.length:=by
 rcases h.Ly i b hi with ⟨r,hr⟩ |⟨r,info,h1,_⟩
 ·exact EL hr
 ·exact(Ad.1 h1).1
theorem RH.GC(h:RH P C){i:Nat}(hi:C.H.length<=i):C.ρ i=none:=by
 cases hh:C.ρ i with
 |none=>rfl
 |some b=>have:=h.KS hh;omega
theorem Hb(h:RH P C)(r:Row):RH P (C.more r):=by
 refine⟨h.inj,fun i b hi=>?_,fun i b r' h1 h2=>?_,by have:=h.ro;simp[Ctx.more];omega,h.IU,h.Kq,fun i b r' info h1 h2 h3 h4=>?_,h.LQ.mono (E9 h r)⟩
 ·rcases h.Ly i b hi with ⟨q,hq⟩ |⟨q,info,h1,h2,h3⟩
  ·exact .inl ⟨q,by rw[<- hq];exact D5 (h.KS hi)⟩
  ·exact .inr ⟨q,info,by rw[<- h1];exact Aw (h.KS hi),h2,h3⟩
 ·have h3:rowAt (C.H++[r]) i=some r':=h2;rw[D5 (h.KS h1)]at h3;exact(h.GP i b r' h1 h3).mono (E9 h r) rfl
 ·have h2':(C.H++[r])[i]? = some r':=h2;rw[Aw (h.KS h1)]at h2';exact(h.Ii i b r' info h1 h2' h3 h4).mono (E9 h r) rfl
theorem aB(hR:RH P C){t:TypeId}{es:List PV}{ty:Bool}{vs:List Value}{c:Array Value}{cap:Nat}(h:HB P C (P.cellsOf t) es vs)(hc:∀(j:Nat) v,vs[j]? = some v->c[j]? = some v)
  (ht:ty=true->∀ e,e∈es->wt P t e=true) (hcap:es.length<=cap) (hcs:cap*P.cellsOf t<=c.size):
  I7 P C ((C.more { es,s:=P.cellsOf t,t,bv:=ty }).bind C.H.length (.cells c t)) (C.H++[{ es,s:=P.cellsOf t,t,bv:=ty }]) /\
   RV P ((C.more { es,s:=P.cellsOf t,t,bv:=ty }).bind C.H.length (.cells c t)) (.sl C.H.length es.length 0 es.length) (.slice (some ⟨C.w.heap.size,0,none⟩) es.length cap):=by
 generalize hr:({ es,s:=P.cellsOf t,t,bv:=ty }:Row)=r;have hrow:(C.more r).row? C.H.length=some r:=by
  show rowAt (C.H++[r]) C.H.length=some r
  unfold rowAt;simp[<- hr]
 have hρ:(C.more r).ρ C.H.length=none:=hR.GC (Al _);have hx1:=E9 hR r;have hx2:=Ctx.Gz (C:=C.more r) hρ hR.ro (.cells c t);have hB:RB P ((C.more r).bind C.H.length (.cells c t)) C.w.heap.size r:=by
  subst hr;exact HB.rb (h.mono (hx1.trans hx2)) rfl (heap_alloc_new C.w _) (fun _ off _=>by simp) hc ht
 refine⟨⟨rfl,hx1.trans hx2,?_⟩,?_⟩
 ·have hR1:=Hb hR r;refine⟨fun x y b h1 h2=>?_,fun x b h1=>?_,fun x b r' h1 h2=>?_,hR1.ro,fun x b hx=>?_,fun b hb=>AA (hR.Kq b hb) (hx1.trans hx2).size,fun x b r' info h1 h2 h3 h4=>?_,hR.LQ.mono (hx1.trans hx2)⟩
  ·simp only[Ctx.bind]at h1 h2;split at h1 <;> split at h2
   ·omega
   ·cases h1;have:=hR1.lt h2;simp only[Ctx.more]at this;omega
   ·cases h2;have:=hR1.lt h1;simp only[Ctx.more]at this;omega
   ·exact hR1.inj x y b h1 h2
  ·simp only[Ctx.bind]at h1;split at h1
   ·rename_i e;subst e;exact .inl ⟨r,hrow⟩
   ·exact hR1.Ly x b h1
  ·simp only[Ctx.bind]at h1;split at h1
   ·rename_i e;subst e;cases h1;have e2:r'=r:=Ah ((show(C.more r).row? C.H.length=some r' from h2).symm.trans hrow);subst e2;exact hB
   ·have hb:=hR1.GP x b r' h1 h2;exact hb.mono hx2 (AY C.w _ hb.lt)
  ·simp only[Ctx.bind]at hx ⊢;split at hx
   ·cases hx;exact fun hf=>Di _ (hR1.Kq _ hf)
   ·exact hR1.IU x b hx
  ·simp only[Ctx.bind]at h1;have hxi:x≠C.H.length:=UC (C:=C.more r) hrow h2 h4;rw[Aq hxi]at h1;have hb:=hR1.Ii x b r' info h1 h2 h3 h4;exact hb.mono hx2 (AY C.w _ hb.lt)
 ·have key:∀ r',((C.more r).bind C.H.length (.cells c t)).row? C.H.length=some r'->r'=r:=fun r' h2=>Ah ((show(C.more r).row? C.H.length=some r' from h2).symm.trans hrow)
  refine .sl ⟨_,_,rfl⟩ (by simp[Ctx.bind,Ctx.more]) (fun r' hr'=>?_) fun r' hr' _=>?_
  ·rw[key r' hr',<- hr];exact Al _
  ·rw[key r' hr'];refine⟨by omega,_,_,rfl,hcap,?_⟩;unfold E4;rw[Aq (by simp[<- hr])];refine⟨C.w.heap.size,by simp[Ctx.bind,Ctx.more],by simp,c,t,(0,0),heap_alloc_new C.w _,?_,by rw[AM,<- hr];exact hcap⟩;subst hr;simpa using hcs
theorem Ti{Pd new rest:Array Value}{vs us:List Value}(ho:Pd=vs.toArray)(hn:new=us.toArray):∀(j:Nat) v,(vs++us)[j]? = some v->(Pd++new++rest)[j]? = some v:=by
 intro j v h;subst ho;subst hn;rw[<- AL];simp only[Array.toList_append];rw[AO,Ak (Ad.1 h).1];exact h
theorem db{t:TypeId}{es fs:List PV}{vs us:List Value}{z:Value}{cap:Nat}(h:HB P C (P.cellsOf t) es vs)(k:HB P C (P.cellsOf t) fs us)(hz:z.cells.size=P.cellsOf t)(hc:es.length+fs.length<=cap):
  cap*P.cellsOf t<=(vs.toArray++us.toArray++Builtin.zeroCells z.cells (cap-(es.length+fs.length))).size:=by
 simp only[Array.size_append,List.size_toArray,size_zeroCells,h.len,k.len,hz,<- Bb];rw[show es.length+fs.length+(cap-(es.length+fs.length))=cap by omega];exact Al _
theorem F2{c:Call}{x y p:PV}{X Y:Value}{H':List Row}(hR:RH P C)(hx:RV P C x X)(hy:RV P C y Y)(h:ES P C.ro C.H c x y=some (p,H'))(ty0:TypeId):
  ∃ v C',(Builtin.append_ c.argTypes ty0 #[X,Y]).run P C.w=.ok v C'.w/\I7 P C C' H'/\RV P C' p v/\∀ i n k l,x=.sl i n k l->∀ z,z≠i->C'.ρ z=C.ρ z:=by
 unfold ES at h;split at h
 ·rename_i T T2 hT hT2;split at h
  ·rename_i e ty t news hu hsrc;have hu2:=Q6 hsrc;split at h
   ·rename_i hc;simp only[Aa,Ay,CO]at hc;obtain⟨⟨⟨⟨hk,rfl⟩,hz⟩,hby⟩,hcell⟩:=hc;obtain⟨i,d,hinfo,hd,hsz⟩:=F1 hk;obtain⟨z,hz,hzs⟩:∃ z,E8 P t=some z/\z.cells.size=P.cellsOf t:=by
     cases hzz:E8 P t with
     |none=>simp[hzz]at hz
     |some z=>exact⟨z,rfl,by simpa [hzz] using hz⟩
    have hiz:i.zero=some z:=by simpa [E8,hinfo] using hz
    have hib:P.bytesOf t=i.bytes:=by simp[Program.bytesOf,hinfo]
    rw[hib]at hby h;obtain⟨us,hS⟩:=MD hR hy hsrc;have hS1:=MD (C:=C.dr) (Mk hR) (hy.mono (FW C)) hsrc;obtain⟨us1,hS1⟩:=hS1;have hY:=hS.shape
    have grow:∀{es:List PV} {vs:List Value} {a:Option Addr} {cap:Nat},HB P C.dr (P.cellsOf t) es vs->(Builtin.firstCells i.size es.length (.slice a es.length cap)).run P C.dr.w=.ok vs.toArray C.dr.w ->
      cap<es.length+news.length->(es.length+news.length)*i.bytes<=140737488355328 ->
      ∃ cc nc,(Builtin.append_ c.argTypes ty0 #[.slice a es.length cap,Y]).run P C.w=.ok (.slice (some ⟨C.w.heap.size,0,none⟩) (es.length+news.length) nc) (C.w.drew.alloc (.cells cc t)) /\
       (∀(j:Nat) v,(vs++us1)[j]? = some v->cc[j]? = some v)/\es.length+news.length<=nc/\nc*P.cellsOf t<=cc.size:=by
     intro es vs a cap hr3 hf hg hb;have hrun:=run_append_grow' (P:=P) (n:=es.length) (cap:=cap) (m:=news.length) (Y:=Y) (a:=a) C.w hT hT2 hu hu2 hY hinfo hiz hby hb hg ty0;have hf2:=hS1.first news.length rfl
     rw[hsz]at hf2;have e1:(Builtin.firstCells i.size es.length (.slice a es.length cap)).run P C.w.drew=.ok vs.toArray C.w.drew:=hf;have e2:(Builtin.firstCells i.size news.length Y).run P C.w.drew=.ok us1.toArray C.w.drew:=hf2;rw[e1]at hrun;simp only[Result.andThen_ok,e2]at hrun;refine⟨_,_,hrun,Ti rfl rfl,grownCap_ge C.w _ _ _,?_⟩;exact db hr3 hS1.Th hzs (grownCap_ge C.w _ _ _)
    split at h
    ·-- a row
     rename_i ii n len;split at h
     ·rename_i r hr;split at h
      ·rename_i hc2;obtain⟨hro,hn,rfl,hbig⟩:=hc2;split at h
       ·rename_i hc3;simp only[Aa,Ay,Am]at hc3;obtain⟨⟨hrt,hrs⟩,hfz⟩:=hc3;cases h;have hxs:Ks C.H (.sl ii n 0 n)=some (r.bv,r.t,r.es):=by
         simp only[Ks,hr,hn,BV,AF];rw[<- hn,A_]
        have hlive:r.live=true:=by
         unfold rowAt at hr;split at hr
         ·split at hr
          ·rename_i hlv;cases hr;exact hlv
          ·cases hr
         ·cases hr
        have hxc:=hx;cases hx with
        |sl hV hi hle hh=>
         obtain⟨_,a,cap,rfl,hcap,hs⟩:=hh r hr hn;subst hn;by_cases hm:news.length=0
         ·-- nothing is appended
          have hnil:news=[]:=BI hm;subst hnil;have hrun:=run_append_room' (P:=P) (n:=r.es.length) (cap:=cap) (m:=0) (Y:=Y) (a:=a) C.w hT hT2 hu hu2 hY hinfo (by omega) ty0;have hf:=hS.first 0 rfl
          rw[hsz]at hf;have hus:us=[]:=BI (by simpa using hS.len);subst hus;have hf':(Builtin.firstCells i.size 0 Y).run P C.w=.ok #[] C.w:=hf;rw[hf']at hrun;simp only[Result.andThen_ok,storeCells,Sem.run_pure,BA]at hrun;have hT2':=Wi (r2:={ r with es:=r.es++[],bv:=r.bv&&ty,nl:=r.nl&&([]:List PV).isEmpty }) hR hi hro hr hlive (by simp) rfl rfl (by simp) (fun hb=>by simp only[Aa]at hb;exact hb.1);refine⟨.slice a r.es.length cap,_,?_,hT2',?_,fun _ _ _ _ _ _ _=>rfl⟩
          ·show(Builtin.append_ c.argTypes ty0 #[.slice a r.es.length cap,Y]).run P C.w=_
           rw[hrun];cases a <;> rfl
          ·exact hxc.mono hT2'.ext
         ·-- something is
          have hnl:(r.nl&&news.isEmpty)=false:=by
           cases news with
           |nil=>simp at hm
           |cons _ _=>simp
          have hne:r.es.length≠(r.es++news).length:=by rw[Ap];omega
          obtain⟨vs1,hD1⟩:=KR (C:=C.dr) (Mk hR) (hxc.mono (FW C)) hxs;rw[hrt]at hD1;have tyd:(r.bv&&ty)=true->∀ e,e∈r.es++news->wt P t e=true:=fun hb e he=>by
           simp only[Aa]at hb;rcases A3.1 he with he |he
           ·exact hD1.typed hb.1 e he
           ·exact hS.typed hb.2 e he
          by_cases hroom:r.es.length+news.length<=cap
          ·-- in place
           unfold E4 at hs;split at hs
           ·omega
           ·obtain⟨b,hb,rfl,c0,e0,fr0,hh1,hh2,_⟩:=hs;have hB:=hR.GP ii b r hb hr;obtain⟨c1,fr,cv,m1,m2,m3,m4⟩:=hB.mem;rw[m1]at hh1;obtain⟨rfl,rfl,rfl⟩:c1=c0/\r.t=e0/\fr=fr0:=by cases hh1;exact⟨rfl,rfl,rfl⟩
            have hD:HB P C (P.cellsOf t) r.es (c1.toList.take (r.es.length*P.cellsOf t)):=by
             rw[<- hrs];refine⟨by rw[Az,CH];exact Nat.min_eq_left m3,hB.len,fun k e j p q1 q2=>?_⟩;have hkl:=(Ad.1 q1).1;have hjl:j<r.s:=by rw[<- hB.len e (Ag q1)];exact(Ad.1 q2).1
             have h5:(k+1)*r.s<=r.es.length*r.s:=A1 _ hkl;rw[Bb,BQ]at h5;obtain⟨w1,w2⟩:=m4 k e j p q1 q2;exact⟨_,by rw[Au,Ak (by omega),AL];exact w1,w2⟩
            have hone:∀ v∈us,v.oneCell'=true:=fun v hv=>by
             obtain⟨j,hj⟩:=Bh hv;have hlt:j<news.length*P.cellsOf t:=by rw[<- hS.len];exact(Ad.1 hj).1
             have hs0:0<P.cellsOf t:=by
              rcases Cz (P.cellsOf t) with h0 |h0
              ·rw[h0]at hlt;simp at hlt
              ·exact h0
             have hkk:j / P.cellsOf t<news.length:=(CA hs0).2 hlt;have he:=Ae hkk;have hmem:=By hkk;have hmm:j % P.cellsOf t<(news[j / P.cellsOf t]).cells.length:=by rw[hS.el _ hmem];exact Nat.mod_lt _ hs0
             obtain⟨v',g1,g2⟩:=hS.rel (j / P.cellsOf t) _ (j % P.cellsOf t) _ he (Ae hmm);have e3:j / P.cellsOf t*P.cellsOf t+j % P.cellsOf t=j:=by
              have:=Nat.div_add_mod j (P.cellsOf t);rw[CU]at this;omega
             rw[e3,hj]at g1;cases g1;refine g2.Qx ?_;rcases(A2 _ _).mp hcell with hty |hca
             ·exact Q4 (hS.typed hty _ hmem) _ (By hmm)
             ·have:=Ao.1 hca _ hmem;exact Ao.1 this _ (By hmm)
            have hle5:(r.es.length+news.length)*P.cellsOf t<=c1.size:=by
             refine Bc (A1 _ hroom) ?_;rw[<- hrs];simpa using hh2
            rw[Bb]at hle5;obtain⟨w',c',g1,g2,g3⟩:=Fk (P:=P) (b:=b) (off:=r.es.length*P.cellsOf t) us 0 C.w c1 m1 (m2 hfz) (by rw[hS.len];omega) hone;have hrun:=run_append_room' (P:=P) (n:=r.es.length) (cap:=cap) (m:=news.length) (Y:=Y) (a:=some ⟨b,0,none⟩) C.w hT hT2 hu hu2 hY hinfo hroom ty0;have hf:=hS.first news.length rfl
            rw[hsz]at hf;rw[hf]at hrun;simp only[Result.andThen_ok,Fs,AM,<- hsz]at hrun;rw[g1]at hrun;simp only[Result.andThen_ok]at hrun;generalize hr2:({ r with es:=r.es++news,bv:=r.bv&&ty,nl:=r.nl&&news.isEmpty }:Row)=r2;have hl2:r2.live=true:=by rw[<- hr2];exact hlive
            have hext:Ext C (C.H6 ii b r2 w'):=by
             refine Nm hi hro hr hl2 (by rw[<- hr2]) (by rw[<- hr2]) (by rw[<- hr2];simp) (fun he=>absurd he (by rw[<- hr2];exact hne)) g2.os g2.tape g2.output (by rw[g2.size];exact Al _) (fun b' hlt hno=>g2.other b' fun e=>hno ⟨ii,hro,by rw[e];exact hb⟩) (fun b' cx ex frx h1=>?_) (fun b' rec h1=>by rw[g2.other b' fun e=>by rw[e,m1]at h1;cases h1];exact h1) (.inl hb);by_cases hbb:b'=b
             ·subst hbb;rw[m1]at h1;cases h1;exact⟨c',_,g2.at_,g2.Ml⟩
             ·exact⟨cx,_,by rw[g2.other b' hbb];exact h1,rfl⟩
            have hcat:∀(j:Nat) v,(c1.toList.take (r.es.length*P.cellsOf t)++us)[j]? = some v->c'[j]? = some v:=by
             intro j v hj;rw[g3 j];rw[AO]at hj;split at hj
             ·rename_i hjl;rw[hD.len]at hjl;rw[Aq (by omega)];rw[Au,Ak hjl,AL]at hj;exact hj
             ·rename_i hjl;rw[hD.len]at hjl hj;have hjs:=(Ad.1 hj).1;rw[Ak (by rw[BA];omega),BA];exact hj
            have hRB:RB P (C.H6 ii b r2 w') b r2:=by
             have hr3:HB P (C.H6 ii b r2 w') r2.s r2.es (c1.toList.take (r.es.length*P.cellsOf t)++us):=by
               rw[show r2.s=P.cellsOf t by rw[<- hr2];exact hrs,show r2.es=r.es++news by rw[<- hr2]];exact(hD.app hS.Th).mono hext
             exact HB.rb (c:=c') (fr:=fr) hr3 (by rw[<- hr2];exact hB.sz) (by rw[<- hr2];exact g2.at_) (fun _ off ho=>m2 hfz off (by rw[<- g2.Ml];exact ho)) hcat (by rw[<- hr2];rw[hrt];exact tyd)
            have hRH:=Q3 hR hext hi hl2 (fun b' hlt hne=>g2.other b' fun e=>hne (by rw[e];exact hb)) (.inl hb) hRB;refine⟨.slice (some ⟨b,0,none⟩) (r.es.length+news.length) cap,C.H6 ii b r2 w',?_,⟨rfl,hext,hRH⟩,?_,fun _ _ _ _ he z hz=>Aq (by cases he;exact hz)⟩
            ·rw[CW];exact hrun
            ·have hrow:(C.H6 ii b r2 w').row? ii=some r2:=by
              show rowAt (C.H.set ii r2) ii=_
              rw[Ep hi hl2];simp
             have hlen2:r2.es.length=r.es.length+news.length:=by rw[<- hr2];simp
             refine .sl ⟨_,_,rfl⟩ (by simp[Ctx.H6];exact hi) (fun r' hr'=>?_) fun r' hr' _=>?_
             ·have:r'=r2:=Ah (hr'.symm.trans hrow);rw[this,hlen2];exact Al _
             ·have:r'=r2:=Ah (hr'.symm.trans hrow);subst this;refine⟨by omega,_,_,rfl,hroom,?_⟩;unfold E4;rw[Aq (by rw[<- hr2];simp[hnl])];refine⟨b,by simp[Ctx.H6],by simp,c',_,fr,g2.at_,?_,by rw[hlen2];omega⟩;rw[g2.Ml,<- hr2];exact hh2
          ·-- it grows
           have hfd:=hD1.first r.es.length rfl
           rw[hsz]at hfd;obtain⟨cc,nc,q1,q2,q3,q4⟩:=grow (es:=r.es) (vs:=vs1) (a:=a) (cap:=cap) hD1.Th hfd (by omega) hbig;have hcn:C.w.drew.heap.size=C.w.heap.size:=rfl;generalize hr2:({ r with es:=r.es++news,bv:=r.bv&&ty,nl:=r.nl&&news.isEmpty }:Row)=r2;have hl2:r2.live=true:=by rw[<- hr2];exact hlive
           have hold:∀ b',b'<C.w.heap.size->(C.w.drew.alloc (.cells cc t)).heap[b']? = C.w.heap[b']?:=fun b' hlt=>AY C.w.drew _ hlt
           have hext:Ext C (C.H6 ii C.w.heap.size r2 (C.w.drew.alloc (.cells cc t))):=by
            refine Nm hi hro hr hl2 (by rw[<- hr2]) (by rw[<- hr2]) (by rw[<- hr2];simp) (fun he=>absurd he (by rw[<- hr2];exact hne)) rfl rfl rfl (by simp) (fun b' hlt _=>hold b' hlt) (fun b' cx ex frx h1=>⟨cx,frx,by rw[hold b' (At.1 h1).1];exact h1,rfl⟩) (fun b' rec h1=>by rw[hold b' (At.1 h1).1];exact h1) (.inr (Al _))
           have hRB:RB P (C.H6 ii C.w.heap.size r2 (C.w.drew.alloc (.cells cc t))) C.w.heap.size r2:=by
            have hdx:Ext C.dr (C.H6 ii C.w.heap.size r2 (C.w.drew.alloc (.cells cc t))):=
             ⟨rfl,rfl,rfl,hext.size,hext.block,hext.shape,hext.len,hext.rows,hext.fresh,hext.D8,hext.fo,hext.ro,hext.low,hext.lp,hext.loop⟩
            have hr3:HB P (C.H6 ii C.w.heap.size r2 (C.w.drew.alloc (.cells cc t))) r2.s r2.es (vs1++us1):=by
             rw[show r2.s=P.cellsOf t by rw[<- hr2];exact hrs,show r2.es=r.es++news by rw[<- hr2]];exact(hD1.Th.app hS1.Th).mono hdx
            exact HB.rb (c:=cc) (fr:=(0,0)) hr3 (by rw[<- hr2,hrs,hrt]) (by rw[<- hr2,hrt];exact heap_alloc_new C.w.drew _) (fun _ off _=>by simp) q2 (by rw[<- hr2];rw[hrt];exact tyd)
           have hRH:=Q3 hR hext hi hl2 (fun b' hlt _=>hold b' hlt) (.inr (Al _)) hRB;refine⟨_,C.H6 ii C.w.heap.size r2 (C.w.drew.alloc (.cells cc t)),q1,⟨rfl,hext,hRH⟩,?_,fun _ _ _ _ he z hz=>Aq (by cases he;exact hz)⟩;have hrow:(C.H6 ii C.w.heap.size r2 (C.w.drew.alloc (.cells cc t))).row? ii=some r2:=by
            show rowAt (C.H.set ii r2) ii=_
            rw[Ep hi hl2];simp
           have hlen2:r2.es.length=r.es.length+news.length:=by rw[<- hr2];simp
           refine .sl ⟨_,_,rfl⟩ (by simp[Ctx.H6];exact hi) (fun r' hr'=>?_) fun r' hr' _=>?_
           ·have:r'=r2:=Ah (hr'.symm.trans hrow);rw[this,hlen2];exact Al _
           ·have:r'=r2:=Ah (hr'.symm.trans hrow);subst this;refine⟨by omega,_,_,rfl,q3,?_⟩;unfold E4;rw[Aq (by rw[<- hr2];simp[hnl])];refine⟨C.w.heap.size,by simp[Ctx.H6],by simp,cc,t,(0,0),heap_alloc_new C.w.drew _,?_,by rw[hlen2];omega⟩;rw[<- hr2,AM,hrs];exact q4
       ·cases h
      ·cases h
     ·cases h
    ·-- the nil slice
     split at h
     ·rename_i hbig;split at h
      ·rename_i hnil;cases h;cases hx;have hnil:news=[]:=by simpa using hnil
       subst hnil;have hrun:=run_append_room' (P:=P) (n:=0) (cap:=0) (m:=0) (Y:=Y) (a:=none) C.w hT hT2 hu hu2 hY hinfo (by omega) ty0;have hf:=hS.first 0 rfl
       rw[hsz]at hf;have hf':(Builtin.firstCells i.size 0 Y).run P C.w=.ok us.toArray C.w:=hf;rw[hf']at hrun;exact⟨_,C,hrun,⟨rfl,.refl C,hR⟩,.val,fun _ _ _ _ he=>by cases he⟩
      ·rename_i hne;cases h;cases hx;have hm:0<news.length:=by
        cases news with
        |nil=>simp at hne
        |cons _ _=>simp
       obtain⟨cc,nc,q1,q2,q3,q4⟩:=grow (es:=[]) (vs:=[]) (a:=none) (cap:=0) ⟨(by simp),(fun e he=>(by cases he)),(fun k e j p h1=>(by simp at h1))⟩ (by simp[Builtin.firstCells]) (by simpa using hm) (by simpa using hbig);simp only[AB,AM,A9]at q1 q2 q3;obtain⟨g1,g2⟩:=aB (C:=C.dr) (Mk hR) (t:=t) (es:=news) (ty:=ty) (vs:=us1) (c:=cc) (cap:=nc) hS1.Th q2 hS1.typed q3 q4;exact⟨_,_,q1,⟨g1.H,(FW C).trans g1.ext,g1.rh⟩,g2,fun _ _ _ _ he=>by cases he⟩
     ·cases h
    ·-- a full list
     rename_i t2 es;split at h
     ·rename_i ht2;have ht2:t2=t:=by simpa using ht2
      subst ht2;split at h
      ·rename_i hbig;have hxc:=hx;have hxs:Ks C.H (.C9 true t2 es)=some (true,t2,es):=rfl;cases hx with
       | @C9 _ _ _ a cap b off cv hcap hfull hA hC hRr ht=>
        have hcap2:cap=es.length:=hfull rfl;subst hcap2;split at h
        ·rename_i hnil;cases h;have hnil:news=[]:=by simpa using hnil
         subst hnil;have hrun:=run_append_room' (P:=P) (n:=es.length) (cap:=es.length) (m:=0) (Y:=Y) (a:=a) C.w hT hT2 hu hu2 hY hinfo (by omega) ty0;have hf:=hS.first 0 rfl
         rw[hsz]at hf;have hus:us=[]:=BI (by simpa using hS.len);subst hus;have hf':(Builtin.firstCells i.size 0 Y).run P C.w=.ok #[] C.w:=hf;rw[hf']at hrun;simp only[Result.andThen_ok,storeCells,Sem.run_pure,BA]at hrun;refine⟨.slice a es.length es.length,C,?_,⟨rfl,.refl C,hR⟩,hxc,fun _ _ _ _ he=>by cases he⟩;show(Builtin.append_ c.argTypes ty0 #[.slice a es.length es.length,Y]).run P C.w=_
         rw[hrun];cases a <;> rfl
        ·rename_i hne;cases h;have hm:0<news.length:=by
          cases news with
          |nil=>simp at hne
          |cons _ _=>simp
         obtain⟨vs1,hD1⟩:=KR (C:=C.dr) (Mk hR) (hxc.mono (FW C)) hxs;have hfd:=hD1.first es.length rfl
         rw[hsz]at hfd;obtain⟨cc,nc,q1,q2,q3,q4⟩:=grow (es:=es) (vs:=vs1) (a:=a) (cap:=es.length) hD1.Th hfd (by omega) hbig;obtain⟨g1,g2⟩:=aB (C:=C.dr) (Mk hR) (t:=t2) (es:=es++news) (ty:=ty) (vs:=vs1++us1) (c:=cc) (cap:=nc) (hD1.Th.app hS1.Th) q2 (fun hb e he=>by
          rcases A3.1 he with he |he
          ·exact hD1.typed rfl e he
          ·exact hS1.typed hb e he) (by simpa using q3) q4
         rw[Ap]at g2;exact⟨_,_,q1,⟨g1.H,(FW C).trans g1.ext,g1.rh⟩,g2,fun _ _ _ _ he=>by cases he⟩
      ·cases h
     ·cases h
    ·cases h
   ·cases h
  ·cases h
 ·cases h
mutual
/-- All rows that it names are below h. -/
def mlt(h:Nat):PV->Bool
 |.ptr i _ _ _=>decide (i<h)
 |.sl i _ _ _=>decide (i<h)
 |.agg cs=>E5 h cs
 |.El cs=>E5 h cs
 |.fn _ a b=>E5 h a&&E5 h b
 |.Kp _ v=>mlt h v
 |.val _=>true
 |.any=>true
 |.C9 _ _ _=>true
 |.EF _ _ _=>true
 |.Ih i=>decide (i<h)
 |.mp i=>decide (i<h)
 |.gv _=>true
 |.bad _=>true
 |.Lx _ _=>true
def E5(h:Nat):List PV->Bool
 | []=>true
 |p::ps=>mlt h p&&E5 h ps
end
theorem aD{h:Nat}:∀{ps:List PV},(∀ p∈ps,mlt h p=true)->E5 h ps=true
 | [],_=>rfl
 |p::ps,hp=>by
  unfold E5;rw[hp p (.head _),aD fun q hq=>hp q (.tail _ hq)];rfl
theorem Jk{h:Nat}{p:PV}(hp:p.Tu=true):mlt h p=true:=by
 unfold PV.Tu at hp;split at hp
 ·rfl
 ·rfl
 ·rename_i cs;unfold mlt;refine aD fun c hc=>?_
  have:=Ao.1 hp c hc;split at this
  ·rfl
  ·rfl
  ·cases this
 ·cases hp
theorem Dv{h:Nat}:∀{ps:List PV} {j:Nat} {p:PV},E5 h ps=true->ps[j]? = some p->mlt h p=true
 | [],j,p,_,hj=>by simp at hj
 |q::ps,0,p,hm,hj=>by simp at hj;subst hj;simp only[E5,Aa]at hm;exact hm.1
 |q::ps,j+1,p,hm,hj=>by simp only[E5,Aa]at hm;exact Dv hm.2 (by simpa using hj)
def Ctx.cut(C:Ctx)(h:Nat)(Iq:Prop)(ro:Nat):Ctx:=
 { ρ:=fun i=>if i<h then C.ρ i else none,H:=C.H.take h,w:=C.w,fo:=fun b=>C.fo b\/(Iq/\∃ i,h<=i/\C.ρ i=some b),ro:=ro }
theorem HS{h ro i:Nat}{Iq:Prop}(hi:i<h):(C.cut h Iq ro).row? i=C.row? i:=by
 show rowAt (C.H.take h) i=rowAt C.H i
 unfold rowAt;rw[Au,Ak hi]
theorem HT{h ro i:Nat}{Iq:Prop}{r:Row}(hr:(C.cut h Iq ro).row? i=some r):i<h:=by
 have:=EL hr;simp only[Ctx.cut,Az]at this;omega
theorem Nq{h ro b:Nat}{Iq:Prop}(hb:¬C.KI b):¬(C.cut h Iq ro).KI b:=by
 rintro (⟨i,hi⟩ |hf |⟨_,i,_,hi⟩)
 ·simp only[Ctx.cut]at hi;split at hi
  ·exact hb (.inl ⟨i,hi⟩)
  ·cases hi
 ·exact hb (.inr hf)
 ·exact hb (.inl ⟨i,hi⟩)
theorem dc{k:Kind}{p:PV}(h:KH k p=true)(n:Nat):mlt n p=true:=by
 unfold KH at h;split at h <;> first |rfl |cases h
theorem Q7(n:Nat):∀{ks:List Kind} {ps:List PV},D4 ks ps=true->∀ p∈ps,mlt n p=true
 | [],[],_,p,h=>by cases h
 | [],_::_,h,_,_=>by simp[D4]at h
 |_::_,[],h,_,_=>by simp[D4]at h
 |k::ks,q::ps,h,p,hp=>by
  simp only[D4,Aa]at h;rcases AK.1 hp with rfl |hp
  ·exact dc h.1 n
  ·exact Q7 n h.2 p hp
theorem EW{t:TypeId}{e:PV}(h:wt P t e=true)(n:Nat):∀ p∈e.cells,mlt n p=true:=by
 simp only[wt,Aa]at h;exact Q7 n h.1
theorem RV.cut{h ro:Nat}{Iq:Prop}(hh:h<=C.H.length){p:PV}{V:Value}(hv:RV P C p V):mlt h p=true->RV P (C.cut h Iq ro) p V:=by
 have hlen:(C.cut h Iq ro).H.length=h:=by simp[Ctx.cut];omega
 induction hv with
 |any=>intro _;exact .any
 |val=>intro _;exact .val
 |ptr hV hk hi hn h1=>
  rename_i i _ _ _ _;intro hm;have hm:i<h:=by simpa [mlt] using hm
  refine .ptr hV hk (by rw[hlen];exact hm) (fun r hr=>hn r (by rw[<- HS hm];exact hr)) fun r hr he=>?_
  obtain⟨b,g1,g2⟩:=h1 r (by rw[<- HS hm];exact hr) he;exact⟨b,by simp[Ctx.cut,hm,g1],g2⟩
 |EF cv hb hlt hc hr ht ih=>
  intro _;exact .EF cv (Nq hb) hlt hc (fun x p hx=>ih x p hx (EW ht h _ (Ag hx))) ht
 |sl hV hi hn h1=>
  rename_i i _ _ _ _;intro hm;have hm:i<h:=by simpa [mlt] using hm
  refine .sl hV (by rw[hlen];exact hm) (fun r hr=>hn r (by rw[<- HS hm];exact hr)) fun r hr he=>?_
  obtain⟨g0,a,cap,g1,g2,g3⟩:=h1 r (by rw[<- HS hm];exact hr) he;refine⟨g0,a,cap,g1,g2,?_⟩;unfold E4 at *;split
  ·rename_i hnl;rwa [Ak hnl]at g3
  ·rename_i hnl;rw[Aq hnl]at g3;obtain⟨b,q1,q2⟩:=g3;exact⟨b,by simp[Ctx.cut,hm,q1],q2⟩
 |C9 b off cv hcap hfull ha hc hr ht ih=>
  intro _;refine .C9 b off cv hcap hfull (fun h0=>?_) hc (fun x e j p hx hj=>ih x e j p hx hj (EW (ht e (Ag hx)) h _ (Ag hj))) ht;obtain⟨g1,g2,g3⟩:=ha h0;exact⟨g1,Nq g2,g3⟩
 |agg hs _ ih=>intro hm;exact .agg hs fun j c v h1 h2=>ih j c v h1 h2 (Dv (by simpa [mlt] using hm) h1)
 |El hs _ ih=>intro hm;exact .El hs fun j c v h1 h2=>ih j c v h1 h2 (Dv (by simpa [mlt] using hm) h1)
 |fn h1 h2 _ _ ih3 ih4=>
  intro hm;simp only[mlt,Aa]at hm;exact .fn h1 h2 (fun j c v g1 g2=>ih3 j c v g1 g2 (Dv hm.1 g1)) (fun j c v g1 g2=>ih4 j c v g1 g2 (Dv hm.2 g1))
 |Kp _ ih=>intro hm;exact .Kp (ih (by simpa [mlt] using hm))
 |Ih hi hl hb=>
  rename_i i b;intro hm;have hm:i<h:=by simpa [mlt] using hm
  obtain⟨r,info,h1,h2,h3⟩:=hl;exact .Ih (by rw[hlen];exact hm) ⟨r,info,by simp only[Ctx.cut];rw[Au,Ak hm];exact h1,h2,h3⟩ (by simp[Ctx.cut,hm,hb])
 |mp hi hl hb=>
  rename_i i b _;intro hm;have hm:i<h:=by simpa [mlt] using hm
  obtain⟨r,info,h1,h2,h3⟩:=hl;exact .mp (by rw[hlen];exact hm) ⟨r,info,by simp only[Ctx.cut];rw[Au,Ak hm];exact h1,h2,h3⟩ (by simp[Ctx.cut,hm,hb])
 |gv hb hlt hc hV=>intro _;exact .gv (Nq hb) hlt hc hV
 |bad hb=>intro _;exact .bad (hb.tr fun x v h1 h2 h3=>⟨Nq h1,h2,h3⟩)
 |Lx hp _ ih=>intro _;exact .Lx hp (ih rfl)
def DF(h:Nat)(H:List Row):Bool:=H.all fun r=>(!r.live||r.bv||r.es.all fun e=>E5 h e.cells)&&(match r.lp with |some info=>E5 h info.k.S0 |none=>true)
theorem Ir{h:Nat}{H:List Row}(hk:DF h H=true){i:Nat}{r:Row}(hr:rowAt H i=some r):r.bv=true\/∀ e∈r.es,E5 h e.cells=true:=by
 unfold rowAt at hr;split at hr
 ·rename_i r' hr';split at hr
  ·rename_i hl;cases hr;have:=Ao.1 hk r (Ag hr');rw[Aa]at this;have:=this.1;simp only[A2,Am,hl,Bool.true_eq_false,Dw]at this;rcases this with h |h
   ·exact .inl h
   ·exact .inr fun e he=>Ao.1 h e he
  ·cases hr
 ·cases hr
theorem Jl{h:Nat}{H:List Row}(hk:DF h H=true){i:Nat}{r:Row}{info:FD}(hr:H[i]? = some r)(hl:r.lp=some info):E5 h info.k.S0=true:=by
 have:=Ao.1 hk r (Ag hr);rw[Aa]at this;have:=this.2;rw[hl]at this;exact this
theorem RH.cut(hR:RH P C){h ro:Nat}{Iq:Prop}(hh:h<=C.H.length)(hro:ro<=h)(hk:DF h (C.H.take h)=true):RH P (C.cut h Iq ro):=by
 refine⟨fun i j b h1 h2=>?_,fun i b h1=>?_,fun i b r h1 h2=>?_,?_,fun i b h1=>?_,fun b hb=>?_,fun i b r info h1 h2 h3 h4=>?_,fun g hl=>⟨Nq (hR.LQ g hl).1,(hR.LQ g hl).2⟩⟩
 ·simp only[Ctx.cut]at h1 h2;split at h1 <;> split at h2 <;> first |exact hR.inj _ _ _ h1 h2 |cases h1 |cases h2
 ·simp only[Ctx.cut]at h1;split at h1
  ·rename_i hi;rcases hR.Ly i b h1 with ⟨r,hr⟩ |⟨r,info,g1,g2,g3⟩
   ·exact .inl ⟨r,by rw[HS hi];exact hr⟩
   ·exact .inr ⟨r,info,by simp only[Ctx.cut];rw[Au,Ak hi];exact g1,g2,g3⟩
  ·cases h1
 ·have hi:=HT h2;simp only[Ctx.cut,hi,BV]at h1;have h3:=h2;rw[HS hi]at h2;have hB:=hR.GP i b r h1 h2;obtain⟨c,fr,cv,m1,m2,m3,m4⟩:=hB.mem;refine⟨hB.sz,⟨c,fr,cv,m1,m2,m3,fun k e j p hk1 hj1=>⟨(m4 k e j p hk1 hj1).1,(m4 k e j p hk1 hj1).2.cut hh ?_⟩⟩,hB.len,hB.typed⟩;rcases Ir hk (show rowAt (C.H.take h) i=some r from h3) with hb |hb
  ·exact EW (hB.typed hb e (Ag hk1)) h p (Ag hj1)
  ·exact Dv (hb e (Ag hk1)) hj1
 ·simp only[Ctx.cut,Az];omega
 ·simp only[Ctx.cut]at h1;split at h1
  ·rename_i hi
   rintro (hf |⟨_,j,hj,hj2⟩)
   ·exact hR.IU i b h1 hf
   ·have:=hR.inj i j b h1 hj2;omega
  ·cases h1
 ·rcases hb with hf |⟨_,i,_,hi⟩
  ·exact hR.Kq b hf
  ·exact hR.lt hi
 ·simp only[Ctx.cut]at h1 h2;split at h1
  ·rename_i hi;have h5:=Jl hk h2 h3;rw[Au,Ak hi]at h2;refine(hR.Ii i b r info h1 h2 h3 h4).via (fun p V hp hv=>hv.cut hh (Jk hp)) (fun t m5=>⟨m5.1,fun j p v g1 g2=>(m5.2 j p v g1 g2).cut hh (Dv h5 g1)⟩) (fun hl=>?_) (fun _ _ h=>h);obtain⟨⟨rec,m1,m2,m3,m4,m5,m6⟩,ha,hb⟩:=hl;exact⟨⟨rec,m1,m2,m3,m4,⟨m5.1,fun j p v g1 g2=>(m5.2 j p v g1 g2).cut hh (Dv h5 g1)⟩,m6⟩,ha,hb⟩
  ·cases h1
theorem Ext.cut{C0 C:Ctx}(hx:Ext C0 C){h:Nat}(h0:C0.H.length<=h)(hh:h<=C.H.length)(hro:C0.ro<=C0.H.length):Ext C0 (C.cut h False C.ro) where
 os:=hx.os
 tape:=hx.tape
 output:=hx.output
 size:=hx.size
 block:=hx.block
 shape:=hx.shape
 len:=by simp only[Ctx.cut,Az];omega
 rows i r' hi hr:=by
  have hi2:=HT hr;rw[HS hi2]at hr;obtain⟨r,a1,a2,a3,a4,a5⟩:=hx.rows i r' hi hr;exact⟨r,a1,a2,a3,a4,fun he=>⟨(a5 he).1,fun b hb=>by simp[Ctx.cut,hi2,(a5 he).2 b hb]⟩⟩
 fresh b hb:=by
  obtain⟨i,hi⟩:=hb;simp only[Ctx.cut]at hi;split at hi
  ·exact hx.fresh b ⟨i,hi⟩
  ·cases hi
 D8 b hb:=by
  obtain⟨i,hir,hi⟩:=hb;simp only[Ctx.cut]at hi hir;split at hi
  ·exact hx.D8 b ⟨i,hir,hi⟩
  ·cases hi
 fo:=by
  funext b
  simp only[Ctx.cut,false_and,Cu];rw[hx.fo]
 ro:=hx.ro
 low i hi:=by
  obtain⟨g1,g2⟩:=hx.low i hi;simp only[Ctx.cut];rw[Au,Ak (by omega),Ak (by omega)];exact⟨g1,g2⟩
 lp i r info h1 h2 h3:=by
  have hi:i<h:=AA (Ad.1 h1).1 h0;obtain⟨⟨r',st,a1,a2,a3⟩,a4⟩:=hx.lp i r info h1 h2 h3;exact⟨⟨r',st,by simp only[Ctx.cut];rw[Au,Ak hi];exact a1,a2,a3⟩,fun b hb=>by simp[Ctx.cut,hi,a4 b hb]⟩
 loop:=hx.loop
structure I8(w w':World):Prop where
 os:w'.os=w.os
 tape:w'.tape=w.tape
 output:w'.output=w.output
 size:w.heap.size<=w'.heap.size
 block:∀ b,b<w.heap.size->w'.heap[b]? = w.heap[b]?
def Ctx.at(C:Ctx)(w':World):Ctx:={ C with w:=w' }
theorem I8.ext{w':World}(h:I8 C.w w'):Ext C (C.at w'):=
 ⟨h.os,h.tape,h.output,h.size,fun b hb _=>h.block b hb,fun b c _ fr hb=>⟨c,fr,by rw[<- hb];exact h.block b (At.1 hb).1,rfl⟩,Al _,
  fun _ r' _ h=>⟨r',h,rfl,rfl,Al _,fun _=>⟨rfl,fun _ h=>h⟩⟩,fun _ h=>.inl h,fun _ h=>.inl h,rfl,rfl,fun _ _=>⟨rfl,rfl⟩,
  fun _ r info h1 h2 h3=>⟨⟨r,info.st,h1,h2,h3⟩,fun _ h=>h⟩,fun b rec hb=>⟨rec,by rw[<- hb];exact h.block b (At.1 hb).1⟩⟩
theorem I8.rh{w':World}(h:I8 C.w w')(hR:RH P C):RH P (C.at w'):=
 ⟨hR.inj,hR.Ly,fun i b r h1 h2=>(hR.GP i b r h1 h2).mono h.ext (h.block b (hR.lt h1)),hR.ro,hR.IU,fun b hb=>AA (hR.Kq b hb) h.size,
  fun i b r info h1 h2 h3 h4=>(hR.Ii i b r info h1 h2 h3 h4).mono h.ext (h.block b (hR.lt h1)),hR.LQ.mono h.ext⟩
theorem H7{C Ci:Ctx}{h:Nat}(hx:Ext (C.cut h True h) Ci):I8 C.w Ci.w:=
 ⟨hx.os,hx.tape,hx.output,hx.size,fun b hb=>hx.block b hb (by
  rintro⟨i,hi,hi2⟩
  simp only[Ctx.cut]at hi hi2;split at hi2
  ·omega
  ·cases hi2)⟩
theorem Nr{C Ci:Ctx}{h b:Nat}(hx:Ext (C.cut h True h) Ci)(hb:¬Ci.KI b):¬(C.at Ci.w).KI b:=by
 rintro (⟨i,hi⟩ |hf)
 ·by_cases hih:i<h
  ·have h2:=(hx.low i hih).2;simp only[Ctx.cut,hih,BV]at h2;exact hb (.inl ⟨i,by rw[h2];exact hi⟩)
  ·refine hb (.inr ?_);rw[hx.fo];exact .inr ⟨trivial,i,by omega,hi⟩
 ·refine hb (.inr ?_);rw[hx.fo];exact .inl hf
theorem Ns{C Ci:Ctx}{h i:Nat}(hx:Ext (C.cut h True h) Ci)(hi:i<h):(C.at Ci.w).row? i=Ci.row? i:=by
 have h1:=(hx.low i hi).1;show rowAt C.H i=rowAt Ci.H i
 unfold rowAt;rw[h1];simp only[Ctx.cut];rw[Au,Ak hi]
theorem RV.back{C Ci:Ctx}{h:Nat}(hh:h<=C.H.length)(hx:Ext (C.cut h True h) Ci){p:PV}{V:Value}(hv:RV P Ci p V):mlt h p=true->RV P (C.at Ci.w) p V:=by
 have hρ:∀ i,i<h->Ci.ρ i=C.ρ i:=fun i hi=>by have:=(hx.low i hi).2;simpa [Ctx.cut,hi] using this
 induction hv with
 |any=>intro _;exact .any
 |val=>intro _;exact .val
 |ptr hV hk hi hn h1=>
  rename_i i _ _ _ _;intro hm;have hm:i<h:=by simpa [mlt] using hm
  refine .ptr hV hk (AA hm hh) (fun r hr=>hn r (by rw[<- Ns hx hm];exact hr)) fun r hr he=>?_
  obtain⟨b,g1,g2⟩:=h1 r (by rw[<- Ns hx hm];exact hr) he;exact⟨b,by show C.ρ i=_;rw[<- hρ _ hm];exact g1,g2⟩
 |gv hb hlt hc hV=>intro _;exact .gv (Nr hx hb) hlt hc hV
 |bad hb=>intro _;exact .bad (hb.tr fun x v h1 h2 h3=>⟨Nr hx h1,h2,h3⟩)
 |Lx hp _ ih=>intro _;exact .Lx hp (ih rfl)
 |EF cv hb hlt hc hr ht ih=>
  intro _;exact .EF cv (Nr hx hb) hlt hc (fun x p hx'=>ih x p hx' (EW ht h _ (Ag hx'))) ht
 |sl hV hi hn h1=>
  rename_i i _ _ _ _;intro hm;have hm:i<h:=by simpa [mlt] using hm
  refine .sl hV (AA hm hh) (fun r hr=>hn r (by rw[<- Ns hx hm];exact hr)) fun r hr he=>?_
  obtain⟨g0,a,cap,g1,g2,g3⟩:=h1 r (by rw[<- Ns hx hm];exact hr) he;refine⟨g0,a,cap,g1,g2,?_⟩;unfold E4 at *;split
  ·rename_i hnl;rwa [Ak hnl]at g3
  ·rename_i hnl;rw[Aq hnl]at g3;obtain⟨b,q1,q2⟩:=g3;exact⟨b,by show C.ρ _=_;rw[<- hρ _ hm];exact q1,q2⟩
 |C9 b off cv hcap hfull ha hc hr ht ih=>
  intro _;refine .C9 b off cv hcap hfull (fun h0=>?_) hc (fun x e j p hx' hj=>ih x e j p hx' hj (EW (ht e (Ag hx')) h _ (Ag hj))) ht;obtain⟨g1,g2,g3⟩:=ha h0;exact⟨g1,Nr hx g2,g3⟩
 |agg hs _ ih=>intro hm;exact .agg hs fun j c v h1 h2=>ih j c v h1 h2 (Dv (by simpa [mlt] using hm) h1)
 |El hs _ ih=>intro hm;exact .El hs fun j c v h1 h2=>ih j c v h1 h2 (Dv (by simpa [mlt] using hm) h1)
 |fn h1 h2 _ _ ih3 ih4=>
  intro hm;simp only[mlt,Aa]at hm;exact .fn h1 h2 (fun j c v g1 g2=>ih3 j c v g1 g2 (Dv hm.1 g1)) (fun j c v g1 g2=>ih4 j c v g1 g2 (Dv hm.2 g1))
 |Kp _ ih=>intro hm;exact .Kp (ih (by simpa [mlt] using hm))
 |Ih hi hl hb=>
  rename_i i b;intro hm;have hm:i<h:=by simpa [mlt] using hm
  obtain⟨r,info,h1,h2,h3⟩:=hl;have hlo:=(hx.low i hm).1;simp only[Ctx.cut]at hlo;rw[Au,Ak hm]at hlo;exact .Ih (AA hm hh) ⟨r,info,by rw[<- h1];exact hlo.symm,h2,h3⟩ (by show C.ρ i=_;rw[<- hρ i hm];exact hb)
 |mp hi hl hb=>
  rename_i i b _;intro hm;have hm:i<h:=by simpa [mlt] using hm
  obtain⟨r,info,h1,h2,h3⟩:=hl;have hlo:=(hx.low i hm).1;simp only[Ctx.cut]at hlo;rw[Au,Ak hm]at hlo;exact .mp (AA hm hh) ⟨r,info,by rw[<- h1];exact hlo.symm,h2,h3⟩ (by show C.ρ i=_;rw[<- hρ i hm];exact hb)
mutual
/-- New rows that a result names are let go: they are lists from here on. -/
def frz(H:List Row)(h:Nat):PV->PV
 |.sl i n k len=>
  if h<=i then
   match rowAt H i with
   |some r=>if r.bv&&r.es.length==n then .C9 false r.t ((r.es.drop k).take len) else .sl i n k len
   |none=>.sl i n k len
  else .sl i n k len
 |.agg cs=>.agg (Hp H h cs)
 |.El cs=>.El (Hp H h cs)
 |p=>p
def Hp(H:List Row)(h:Nat):List PV->List PV
 | []=>[]
 |p::ps=>frz H h p::Hp H h ps
end
theorem KT(H:List Row)(h:Nat):∀(ps:List PV) (j:Nat),(Hp H h ps)[j]? = (ps[j]?).map (frz H h)
 | [],j=>by simp[Hp]
 |p::ps,0=>by simp[Hp]
 |p::ps,j+1=>by simp[Hp,KT H h ps j]
theorem Hq(H:List Row)(h:Nat):∀(ps:List PV),(Hp H h ps).length=ps.length
 | []=>rfl
 |p::ps=>by simp[Hp,Hq H h ps]
theorem RV.frz(hR:RH P C){h ro:Nat}(hh:h<=C.H.length){p:PV}{V:Value}(hv:RV P C p V):mlt h (frz C.H h p)=true->RV P (C.cut h False ro) (frz C.H h p) V:=by
 induction hv with
 |sl hV hi hn h1=>
  intro hm;have hx:=RV.sl (P:=P) hV hi hn h1;rename_i i n k len V;unfold Hx.frz at hm ⊢;split
  ·rename_i hhi;split
   ·rename_i r hr;split
    ·rename_i hc;simp only[Aa,Ay]at hc;obtain⟨hbv,hlen⟩:=hc;obtain⟨hk,a,cap,rfl,hcap,hs⟩:=h1 r hr hlen;have hl:((r.es.drop k).take len).length=len:=by simp;omega
     have e1:(Value.slice a len cap)=.slice a ((r.es.drop k).take len).length cap:=by rw[hl]
     rw[e1];unfold E4 at hs;split at hs
     ·obtain⟨rfl,rfl⟩:=hs;have h0:len=0:=by omega
      subst h0;simp only[CV];exact .C9 0 0 (fun _ _=>undef) (by simp) (fun hf=>by cases hf) (fun h0=>by simp at h0) (fun x e j p hx=>by simp at hx) (fun x e j p hx=>by simp at hx) (fun e he=>by simp at he)
     ·obtain⟨b,hb,rfl,_⟩:=hs;have hB:=hR.GP i b r hb hr;obtain⟨c,fr,cv,m1,m2,m3,m4⟩:=hB.mem;have hget:∀(x:Nat) e,((r.es.drop k).take len)[x]? = some e->r.es[k+x]? = some e:=fun x e he=>by
       rw[Au]at he;split at he
       ·rw[A8]at he;exact he
       ·cases he
      refine .C9 b (k*r.s) (fun x j=>cv (k+x) j) (by omega) (fun hf=>by cases hf) (fun _=>⟨rfl,?_,hB.lt⟩) (fun x e j p hx hj=>?_) (fun x e j p hx hj=>?_) (fun e he=>hB.typed hbv e (BP (B0 he)))
      ·rintro (⟨y,hy⟩ |hf |⟨hf,_⟩)
       ·simp only[Ctx.cut]at hy;split at hy
        ·have:=hR.inj _ _ _ hy hb;omega
        ·cases hy
       ·exact hR.IU _ _ hb hf
       ·exact hf
      ·obtain⟨g1,_⟩:=m4 (k+x) e j p (hget x e hx) hj;rw[show k*r.s+x*P.cellsOf r.t+j=(k+x)*r.s+j by rw[<- hB.sz,Bb]];show C.w.cell? _=_
       rw[Ij m1];exact g1
      ·exact(m4 (k+x) e j p (hget x e hx) hj).2.cut hh (EW (hB.typed hbv e (Ag (hget x e hx))) h p (Ag hj))
    ·rename_i hc;simp only[hhi,BV,hr,hc]at hm;simp[mlt]at hm;omega
   ·rename_i hr;simp only[hhi,BV,hr]at hm;simp[mlt]at hm;omega
  ·rename_i hhi;exact hx.cut hh (by simp[mlt];omega)
 |agg hs _ ih=>
  intro hm;simp only[Hx.frz,mlt]at hm ⊢;refine .agg (by rw[Hq];exact hs) fun j c v h1 h2=>?_
  have hmj:=Dv hm h1;rw[KT]at h1;obtain⟨q,hq,rfl⟩:=Af.1 h1;exact ih j q v hq h2 hmj
 |El hs _ ih=>
  intro hm;simp only[Hx.frz,mlt]at hm ⊢;refine .El (by rw[Hq];exact hs) fun j c v h1 h2=>?_
  have hmj:=Dv hm h1;rw[KT]at h1;obtain⟨q,hq,rfl⟩:=Af.1 h1;exact ih j q v hq h2 hmj
 |any=>intro _;exact .any
 |val=>intro _;exact .val
 |ptr hV hk hi hn h1=>intro hm;exact(RV.ptr (P:=P) hV hk hi hn h1).cut hh hm
 |EF cv hb hlt hc hr ht _=>intro hm;exact(RV.EF (P:=P) cv hb hlt hc hr ht).cut hh hm
 |C9 b off cv hcap hfull ha hc hr ht _=>intro hm;exact(RV.C9 (P:=P) b off cv hcap hfull ha hc hr ht).cut hh hm
 |fn h1 h2 h3 h4 _ _=>intro hm;exact(RV.fn (P:=P) h1 h2 h3 h4).cut hh hm
 |Kp h1 _=>intro hm;exact(RV.Kp (P:=P) h1).cut hh hm
 |Ih h1 h2 h3=>intro hm;exact(RV.Ih (P:=P) h1 h2 h3).cut hh hm
 |mp h1 h2 h3=>intro hm;exact(RV.mp (P:=P) h1 h2 h3).cut hh hm
 |gv h1 h2 h3 h4=>intro hm;exact(RV.gv (P:=P) h1 h2 h3 h4).cut hh hm
 |bad h1=>intro hm;exact(RV.bad (P:=P) h1).cut hh hm
 |Lx hp h1 _=>intro hm;exact(RV.Lx (P:=P) hp h1).cut hh hm
def Oq(r r':Row):Prop:=r.s=r'.s/\r.es.length=r'.es.length/\r.nl=r'.nl/\r.t=r'.t
structure VT(C C':Ctx):Prop where
 w:C'.w=C.w
 ρ:C'.ρ=C.ρ
 fo:C'.fo=C.fo
 ro:C'.ro=C.ro
 len:C'.H.length=C.H.length
 row:∀ i r',C'.row? i=some r'->∃ r,C.row? i=some r/\Oq r r'
 row':∀ i r,C.row? i=some r->∃ r',C'.row? i=some r'/\Oq r r'
 lp:∀(i:Nat) r,C.H[i]? = some r->r.live=false->C'.H[i]? = some r
 lp':∀(i:Nat) r,C'.H[i]? = some r->r.live=false->C.H[i]? = some r
theorem VT.symm{C C':Ctx}(h:VT C C'):VT C' C:=
 ⟨h.w.symm,h.ρ.symm,h.fo.symm,h.ro.symm,h.len.symm,fun i r' hr=>let ⟨r,a,b1,b2,b3,b4⟩:=h.row' i r' hr; ⟨r,a,b1.symm,b2.symm,b3.symm,b4.symm⟩,
  fun i r' hr=>let ⟨r,a,b1,b2,b3,b4⟩:=h.row i r' hr; ⟨r,a,b1.symm,b2.symm,b3.symm,b4.symm⟩,h.lp',h.lp⟩
theorem RV.Ot{C C':Ctx}(h:VT C C'){p:PV}{V:Value}(hv:RV P C p V):RV P C' p V:=by
 have hban:∀ b,C'.KI b->C.KI b:=by
  intro b hb;rcases hb with ⟨i,hi⟩ |hf
  ·exact .inl ⟨i,by rw[<- h.ρ];exact hi⟩
  ·exact .inr (by rw[<- h.fo];exact hf)
 induction hv with
 |any=>exact .any
 |val=>exact .val
 |ptr hV hk hi hn h1=>
  refine .ptr hV hk (by rw[h.len];exact hi) (fun r' hr'=>?_) fun r' hr' he=>?_
  ·obtain⟨r,a,b1,b2,b3,b4⟩:=h.row _ r' hr';rw[<- b2];exact hn r a
  ·obtain⟨r,a,b1,b2,b3,b4⟩:=h.row _ r' hr';obtain⟨b,g1,g2⟩:=h1 r a (by rw[b2];exact he);exact⟨b,by rw[h.ρ];exact g1,by rw[<- b1];exact g2⟩
 |EF cv hb hlt hc hr ht ih=>exact .EF cv (fun hb'=>hb (hban _ hb')) (by rw[h.w];exact hlt) (fun x p hx=>by rw[h.w];exact hc x p hx) ih ht
 |sl hV hi hn h1=>
  refine .sl hV (by rw[h.len];exact hi) (fun r' hr'=>?_) fun r' hr' he=>?_
  ·obtain⟨r,a,b1,b2,b3,b4⟩:=h.row _ r' hr';rw[<- b2];exact hn r a
  ·obtain⟨r,a,b1,b2,b3,b4⟩:=h.row _ r' hr';obtain⟨g0,ad,cap,g1,g2,g3⟩:=h1 r a (by rw[b2];exact he);refine⟨g0,ad,cap,g1,g2,?_⟩;unfold E4 at *;rw[<- b3,<- b1,<- b2];split
   ·rename_i hnl;rwa [Ak hnl]at g3
   ·rename_i hnl;rw[Aq hnl]at g3;obtain⟨b,q1,q2,c,e,fr,q3,q4⟩:=g3;exact⟨b,by rw[h.ρ];exact q1,q2,c,e,fr,by rw[h.w];exact q3,q4⟩
 |C9 b off cv hcap hfull ha hc hr ht ih=>
  refine .C9 b off cv hcap hfull (fun h0=>?_) (fun x e j p hx hj=>by rw[h.w];exact hc x e j p hx hj) ih ht;obtain⟨g1,g2,g3⟩:=ha h0;exact⟨g1,fun hb=>g2 (hban _ hb),by rw[h.w];exact g3⟩
 |agg hs _ ih=>exact .agg hs ih
 |El hs _ ih=>exact .El hs ih
 |fn h1 h2 _ _ ih3 ih4=>exact .fn h1 h2 ih3 ih4
 |Kp _ ih=>exact .Kp ih
 |Ih hi hl hb=>
  obtain⟨r,info,h1,h2,h3⟩:=hl;exact .Ih (by rw[h.len];exact hi) ⟨r,info,h.lp _ r h1 h3,h2,h3⟩ (by rw[h.ρ];exact hb)
 |mp hi hl hb=>
  obtain⟨r,info,h1,h2,h3⟩:=hl;exact .mp (by rw[h.len];exact hi) ⟨r,info,h.lp _ r h1 h3.1,h2,h3⟩ (by rw[h.ρ];exact hb)
 |gv hb hlt hc hV=>exact .gv (fun h=>hb (hban _ h)) (by rw[h.w];exact hlt) (by rw[h.w];exact hc) hV
 |bad hb=>exact .bad (hb.tr fun x v h1 h2 h3=>⟨fun hh=>h1 (hban _ hh),by rw[h.w];exact h2,by rw[h.w];exact h3⟩)
 |Lx hp _ ih=>exact .Lx hp ih
def DS(r:Row):Row:=match r.live with |true=>{ r with es:=r.es.map fun _=>.agg (List.replicate r.s .any),bv:=false,fz:=true } |false=>r
def Ei(R:List Nat)(H:List Row):List Row:=H.zipIdx.map fun x=>match R.contains x.2 with |true=>DS x.1 |false=>x.1
theorem EH(R:List Nat)(H:List Row):(Ei R H).length=H.length:=by simp[Ei]
theorem Gc(R:List Nat)(H:List Row)(i:Nat):(Ei R H)[i]? = H[i]?.map fun r=>if R.contains i then DS r else r:=by
 simp only[Ei,An,BB,AM,Ce];congr 1
 funext r
 simp only[Function.comp];cases R.contains i <;> rfl
theorem KU(r:Row):(DS r).live=r.live:=by unfold DS;split <;> simp_all
theorem Mm(r:Row):Oq r (DS r):=by unfold DS;split <;> simp[Oq]
theorem UD{r r':Row}(h:Oq r r')(h1:r.live=true)(h2:r'.live=true)(h3:r.lp=r'.lp):DS r=DS r':=by
 obtain⟨a1,a2,a3,a4⟩:=h;cases r with |mk es s t bv live nl lp fz=>cases r' with |mk es' s' t' bv' live' nl' lp' fz'=>
 simp only at a1 a2 a3 a4 h1 h2 h3;subst a1;subst a3;subst a4;subst h1;subst h2;subst h3;simp only[DS];congr 1
 rw[List.map_const',List.map_const',a2]
def Ctx.TH(C:Ctx)(R:List Nat):Ctx:={ C with H:=Ei R C.H }
theorem Qy{R:List Nat}(i:Nat):(C.TH R).row? i=(C.row? i).map fun r=>if R.contains i then DS r else r:=by
 show rowAt (Ei R C.H) i=(rowAt C.H i).map _
 unfold rowAt;rw[Gc];cases C.H[i]? with
 |none=>rfl
 |some r=>
  have e:(if R.contains i=true then DS r else r).live=r.live:=by split <;> simp[KU]
  show(if (if R.contains i=true then DS r else r).live=true then some (if R.contains i=true then DS r else r) else none)=Option.map _ (if r.live=true then some r else none)
  rw[e];by_cases hl:r.live=true
  ·rw[Ak hl,Ak hl];rfl
  ·rw[Aq hl,Aq hl];rfl
theorem LA(C:Ctx)(R:List Nat):VT C (C.TH R):=by
 refine⟨rfl,rfl,rfl,rfl,EH R C.H,fun i r' hr=>?_,fun i r hr=>?_,fun i r hr hl=>?_,fun i r hr hl=>?_⟩
 ·rw[Qy]at hr;obtain⟨r,a,rfl⟩:=Af.1 hr;refine⟨r,a,?_⟩;split
  ·exact Mm r
  ·exact⟨rfl,rfl,rfl,rfl⟩
 ·refine⟨_,by rw[Qy,hr];rfl,?_⟩;dsimp only;split
  ·exact Mm r
  ·exact⟨rfl,rfl,rfl,rfl⟩
 ·show(Ei R C.H)[i]? = _
  rw[Gc,hr];simp only[AE];split
  ·unfold DS;rw[hl]
  ·rfl
 ·have hr':(Ei R C.H)[i]? = some r:=hr;rw[Gc]at hr';obtain⟨q,a,b⟩:=Af.1 hr';have hq:q=r:=by
   split at b
   ·have:q.live=false:=by rw[<- KU,b];exact hl
    unfold DS at b;rw[this]at b;exact b
   ·exact b
  rw[a,hq]
theorem RB.Ei{b:Nat}{r:Row}(h:RB P C b r):RB P C b (DS r):=by
 unfold DS;split
 ·obtain⟨c,fr,cv,m1,m2,m3,m4⟩:=h.mem;refine⟨h.sz,⟨c,fr,fun k j=>c.getD (k*r.s+j) undef,m1,fun hz=>by simp at hz,by simpa using m3,fun k e j p hk hj=>?_⟩,fun e he=>?_,fun hb=>by cases hb⟩
  ·simp only[An,Af]at hk;obtain⟨e0,hk0,rfl⟩:=hk;simp only[PV.cells]at hj;rw[BH]at hj;split at hj
   ·rename_i hjs;cases hj;have hkl:=(Ad.1 hk0).1;have hlt:k*r.s+j<c.size:=by
     have h5:(k+1)*r.s<=r.es.length*r.s:=A1 _ hkl;rw[Bb,BQ]at h5;omega
    have g:c[k*r.s+j]? = some c[k*r.s+j]:=AD hlt;have e2:c.getD (k*r.s+j) undef=c[k*r.s+j]:=by rw[Bk,g];rfl
    exact⟨by simp only[e2];exact g,.any⟩
   ·cases hj
  ·simp only[AX]at he;obtain⟨_,_,rfl⟩:=he;simp[PV.cells]
 ·exact h
theorem RB.Ot{C C':Ctx}(h:VT C C'){b:Nat}{r:Row}(hr:RB P C b r):RB P C' b r:=by
 obtain⟨c,fr,cv,m1,m2,m3,m4⟩:=hr.mem;exact⟨hr.sz,⟨c,fr,cv,by rw[h.w];exact m1,m2,m3,fun k e j p hk hj=>⟨(m4 k e j p hk hj).1,(m4 k e j p hk hj).2.Ot h⟩⟩,hr.len,hr.typed⟩
theorem FJ.Ot{C C':Ctx}(h:VT C C'){b:Nat}{info:FD}(hr:FJ P C b info):FJ P C' b info:=by
 refine hr.via (fun _ _ _ hv=>hv.Ot h) (fun t h5=>⟨h5.1,fun i p v g1 g2=>(h5.2 i p v g1 g2).Ot h⟩) (fun hl=>?_) (fun es c h'=>by rw[h.w];exact h');obtain⟨⟨rec,h1,h2,h3,h4,h5,h6⟩,ha,hbd⟩:=hl;exact⟨⟨rec,by rw[h.w,h1],h2,h3,h4,⟨h5.1,fun i p v g1 g2=>(h5.2 i p v g1 g2).Ot h⟩,h6⟩,ha,hbd⟩
theorem FV.Ot{C C':Ctx}(h:VT C C'){S:List PV}{t:Array Value}(hs:FV P C S t):FV P C' S t:=
 ⟨hs.1,fun i p v h1 h2=>(hs.2 i p v h1 h2).Ot h⟩
theorem RH.Ot{C C':Ctx}(h:VT C C')(hR:RH P C)(hb:∀ i b r,C.ρ i=some b->C'.row? i=some r->RB P C' b r):RH P C':=by
 refine⟨fun i j b h1 h2=>hR.inj i j b (by rw[<- h.ρ];exact h1) (by rw[<- h.ρ];exact h2),fun i b h1=>?_,fun i b r h1 h2=>hb i b r (by rw[<- h.ρ];exact h1) h2,by rw[h.ro,h.len];exact hR.ro,
  fun i b h1=>by rw[h.fo];exact hR.IU i b (by rw[<- h.ρ];exact h1),fun b hb=>by rw[h.w];exact hR.Kq b (by rw[<- h.fo];exact hb),fun i b r info h1 h2 h3 h4=>?_,fun g hl=>?_⟩
 ·rcases hR.Ly i b (by rw[<- h.ρ];exact h1) with ⟨r,hr⟩ |⟨r,info,g1,g2,g3⟩
  ·obtain⟨r',hr',_⟩:=h.row' i r hr;exact .inl ⟨r',hr'⟩
  ·exact .inr ⟨r,info,h.lp i r g1 g3,g2,g3⟩
 ·exact(hR.Ii i b r info (by rw[<- h.ρ];exact h1) (h.lp' i r h2 h4) h3 h4).Ot h
 ·obtain⟨g1,g2,g3⟩:=hR.LQ g hl;refine⟨fun hb=>g1 ?_,by rw[h.w];exact g2,by rw[h.w];exact g3⟩;rcases hb with ⟨i,hi⟩ |hf
  ·exact .inl ⟨i,by rw[<- h.ρ];exact hi⟩
  ·exact .inr (by rw[<- h.fo];exact hf)
theorem fA(hR:RH P C)(R:List Nat):RH P (C.TH R):=by
 refine hR.Ot (LA C R) fun i b r h1 h2=>?_
 rw[Qy]at h2;obtain⟨r0,a,rfl⟩:=Af.1 h2;have hB:=hR.GP i b r0 h1 a;split
 ·exact hB.Ei.Ot (LA C R)
 ·exact hB.Ot (LA C R)
def IX(_:Row):Row:={ es:=[],s:=0,t:=0,bv:=true,live:=false }
def EN(K:List Nat)(H:List Row):List Row:=H.zipIdx.map fun x=>match K.contains x.2 with |true=>x.1 |false=>IX x.1
def Is(K:List Nat)(H H':List Row):List Row:=H.zipIdx.map fun x=>match K.contains x.2 with |true=>H'.getD x.2 x.1 |false=>x.1
theorem UE(K:List Nat)(H:List Row):(EN K H).length=H.length:=by simp[EN]
theorem FP(K:List Nat)(H H':List Row):(Is K H H').length=H.length:=by simp[Is]
theorem Fy(K:List Nat)(H:List Row)(i:Nat):(EN K H)[i]? = H[i]?.map fun r=>if K.contains i then r else IX r:=by
 simp only[EN,An,BB,AM,Ce];congr 1
 funext r
 simp only[Function.comp];cases K.contains i <;> rfl
theorem H8(K:List Nat)(H H':List Row)(i:Nat):(Is K H H')[i]? = H[i]?.map fun r=>if K.contains i then H'.getD i r else r:=by
 simp only[Is,An,BB,AM,Ce];congr 1
 funext r
 simp only[Function.comp];cases K.contains i <;> rfl
def Tj(K:List Nat)(h i:Nat):Prop:=i<h/\K.contains i=true
instance (K:List Nat) (h i:Nat):Decidable (Tj K h i):=inferInstanceAs (Decidable (_/\_))
def Ctx.mask(C:Ctx)(K:List Nat)(h:Nat):Ctx:=
 { ρ:=fun i=>if Tj K h i then C.ρ i else none,H:=EN K (C.H.take h),w:=C.w,fo:=fun b=>C.fo b\/∃ i,¬Tj K h i/\C.ρ i=some b,ro:=C.ro }
theorem Ht{K:List Nat}{h:Nat}(hh:h<=C.H.length):(C.mask K h).H.length=h:=by simp[Ctx.mask,UE];omega
theorem KW{K:List Nat}{h i:Nat}:(C.mask K h).row? i=if Tj K h i then C.row? i else none:=by
 show rowAt (EN K (C.H.take h)) i=_
 unfold rowAt;rw[Fy,Au];by_cases hk:Tj K h i
 ·rw[Ak hk,Ak hk.1];simp only[hk.2,BV];cases hC:C.H[i]? with
  |none=>simp[Ctx.row?,rowAt,hC]
  |some r=>simp[Ctx.row?,rowAt,hC]
 ·rw[Aq hk];by_cases hi:i<h
  ·rw[Ak hi];have hc:K.contains i=false:=by
    cases hc:K.contains i with
    |false=>rfl
    |true=>exact absurd ⟨hi,hc⟩ hk
   simp only[hc,A4,Cd];cases C.H[i]? with
   |none=>rfl
   |some r=>simp[IX]
  ·rw[Aq hi];rfl
theorem It{K:List Nat}{h b:Nat}(hb:¬C.KI b):¬(C.mask K h).KI b:=by
 rintro (⟨i,hi⟩ |hf |⟨i,_,hi⟩)
 ·simp only[Ctx.mask]at hi;split at hi
  ·exact hb (.inl ⟨i,hi⟩)
  ·cases hi
 ·exact hb (.inr hf)
 ·exact hb (.inl ⟨i,hi⟩)
theorem RV.free{C C':Ctx}(hb:∀ b,C'.KI b->C.KI b)(hw:C'.w=C.w){p:PV}{V:Value}(hv:RV P C p V):mlt 0 p=true->RV P C' p V:=by
 induction hv with
 |any=>intro _;exact .any
 |val=>intro _;exact .val
 |ptr=>intro hm;simp[mlt]at hm
 |sl=>intro hm;simp[mlt]at hm
 |Ih=>intro hm;simp[mlt]at hm
 |mp=>intro hm;simp[mlt]at hm
 |gv hbn hlt hc hV=>intro _;exact .gv (fun h=>hbn (hb _ h)) (by rw[hw];exact hlt) (by rw[hw];exact hc) hV
 |bad hbn=>intro _;exact .bad (hbn.tr fun x v h1 h2 h3=>⟨fun hh=>h1 (hb _ hh),by rw[hw];exact h2,by rw[hw];exact h3⟩)
 |Lx hp _ ih=>intro _;exact .Lx hp (ih rfl)
 |EF cv hbn hlt hc hr ht ih=>
  intro _;exact .EF cv (fun h=>hbn (hb _ h)) (by rw[hw];exact hlt) (fun x p hx=>by rw[hw];exact hc x p hx) (fun x p hx=>ih x p hx (EW ht 0 _ (Ag hx))) ht
 |C9 b off cv hcap hfull ha hc hr ht ih=>
  intro _;refine .C9 b off cv hcap hfull (fun h0=>?_) (fun x e j p hx hj=>by rw[hw];exact hc x e j p hx hj) (fun x e j p hx hj=>ih x e j p hx hj (EW (ht e (Ag hx)) 0 _ (Ag hj))) ht;obtain⟨g1,g2,g3⟩:=ha h0;exact⟨g1,fun h=>g2 (hb _ h),by rw[hw];exact g3⟩
 |agg hs _ ih=>intro hm;exact .agg hs fun j c v h1 h2=>ih j c v h1 h2 (Dv (by simpa [mlt] using hm) h1)
 |El hs _ ih=>intro hm;exact .El hs fun j c v h1 h2=>ih j c v h1 h2 (Dv (by simpa [mlt] using hm) h1)
 |fn h1 h2 _ _ ih3 ih4=>
  intro hm;simp only[mlt,Aa]at hm;exact .fn h1 h2 (fun j c v g1 g2=>ih3 j c v g1 g2 (Dv hm.1 g1)) (fun j c v g1 g2=>ih4 j c v g1 g2 (Dv hm.2 g1))
 |Kp _ ih=>intro hm;exact .Kp (ih (by simpa [mlt] using hm))
def Q8(h:Nat):PV->Bool
 |.ptr i _ _ _=>decide (i<h)
 |p=>mlt 0 p
theorem fD{K:List Nat}{h:Nat}(hh:h<=C.H.length){p:PV}{V:Value}(hv:RV P C p V)(ho:Q8 h p=true):RV P (C.mask K h) p V:=by
 have hfree:mlt 0 p=true->RV P (C.mask K h) p V:=hv.free (fun b hb=>A0 fun hn=>It hn hb) rfl;cases hv with
 |ptr hV hk hi hn h1=>
  rename_i i _ _ _;have hm:i<h:=by simpa [Q8] using ho
  refine .ptr hV hk (by rw[Ht hh];exact hm) (fun r hr=>?_) fun r hr he=>?_
  ·rw[KW]at hr;split at hr
   ·exact hn r hr
   ·cases hr
  ·rw[KW]at hr;split at hr
   ·rename_i hkk;obtain⟨b,g1,g2⟩:=h1 r hr he;exact⟨b,by simp[Ctx.mask,hkk,g1],g2⟩
   ·cases hr
 |_=>exact hfree (by simpa [Q8] using ho)
theorem aF(hR:RH P C){K:List Nat}{h:Nat}(hh:h<=C.H.length)(hro:C.ro<=h)(hk:DF 0 (EN K (C.H.take h))=true):RH P (C.mask K h):=by
 refine⟨fun i j b h1 h2=>?_,fun i b h1=>?_,fun i b r h1 h2=>?_,by rw[Ht hh];exact hro,fun i b h1=>?_,fun b hb=>?_,fun i b r info h1 h2 h3 h4=>?_,fun g hl=>⟨It (hR.LQ g hl).1,(hR.LQ g hl).2⟩⟩
 ·simp only[Ctx.mask]at h1 h2;split at h1 <;> split at h2 <;> first |exact hR.inj _ _ _ h1 h2 |cases h1 |cases h2
 ·simp only[Ctx.mask]at h1;split at h1
  ·rename_i hi;rcases hR.Ly i b h1 with ⟨r,hr⟩ |⟨r,info,g1,g2,g3⟩
   ·exact .inl ⟨r,by rw[KW,Ak hi];exact hr⟩
   ·exact .inr ⟨r,info,by simp only[Ctx.mask];rw[Fy,Au,Ak hi.1,g1];rw[AE,Ak hi.2],g2,g3⟩
  ·cases h1
 ·have h2':rowAt (EN K (C.H.take h)) i=some r:=h2;rw[KW]at h2;split at h2
  ·rename_i hi;simp only[Ctx.mask,hi,BV]at h1;have hB:=hR.GP i b r h1 h2;obtain⟨c,fr,cv,m1,m2,m3,m4⟩:=hB.mem;refine⟨hB.sz,⟨c,fr,cv,m1,m2,m3,fun k e j p hk1 hj1=>⟨(m4 k e j p hk1 hj1).1,(m4 k e j p hk1 hj1).2.free (fun b hb=>A0 fun hn=>It hn hb) rfl ?_⟩⟩,hB.len,hB.typed⟩;rcases Ir hk h2' with hb |hb
   ·exact EW (hB.typed hb e (Ag hk1)) 0 p (Ag hj1)
   ·exact Dv (hb e (Ag hk1)) hj1
  ·cases h2
 ·simp only[Ctx.mask]at h1;split at h1
  ·rename_i hi
   rintro (hf |⟨j,hj,hj2⟩)
   ·exact hR.IU i b h1 hf
   ·have:=hR.inj i j b h1 hj2;subst this;exact hj hi
  ·cases h1
 ·rcases hb with hf |⟨i,_,hi⟩
  ·exact hR.Kq b hf
  ·exact hR.lt hi
 ·simp only[Ctx.mask]at h1 h2;split at h1
  ·rename_i hi;have h5:=Jl hk h2 h3;rw[Fy,Au,Ak hi.1]at h2;obtain⟨r0,g1,g2⟩:=Af.1 h2;rw[Ak hi.2]at g2;subst g2;refine(hR.Ii i b r0 info h1 g1 h3 h4).via (fun p V hp hv=>hv.free (fun b hb=>A0 fun hn=>It hn hb) rfl (Jk hp)) (fun t m5=>⟨m5.1,fun j p v g1 g2=>(m5.2 j p v g1 g2).free (fun b hb=>A0 fun hn=>It hn hb) rfl (Dv h5 g1)⟩) (fun hl=>?_) (fun _ _ h=>h);obtain⟨⟨rec,m1,m2,m3,m4,m5,m6⟩,ha,hb⟩:=hl;exact⟨⟨rec,m1,m2,m3,m4,⟨m5.1,fun j p v g1 g2=>(m5.2 j p v g1 g2).free (fun b hb=>A0 fun hn=>It hn hb) rfl (Dv h5 g1)⟩,m6⟩,ha,hb⟩
  ·cases h1
def Ctx.back(C C':Ctx)(K:List Nat)(h:Nat):Ctx:=
 { ρ:=fun i=>if Tj K h i then C'.ρ i else C.ρ i,H:=(Is K (C.H.take h) C'.H)++C.H.drop h,w:=C'.w,fo:=C.fo,ro:=C.ro }
theorem GD{C C':Ctx}{K:List Nat}{h:Nat}(hh:h<=C.H.length)(hl:h<=C'.H.length)(i:Nat):(C.back C' K h).H[i]? = if Tj K h i then C'.H[i]? else C.H[i]?:=by
 have hlen:(Is K (C.H.take h) C'.H).length=h:=by rw[FP,Az];omega
 show(Is K (C.H.take h) C'.H++C.H.drop h)[i]? = _
 rw[AO,hlen];by_cases hi:i<h
 ·rw[Ak hi,H8,Au,Ak hi];have hC:C.H[i]? = some (C.H[i]'(by omega)):=Ae _;have hC':C'.H[i]? = some (C'.H[i]'(by omega)):=Ae _;rw[hC,hC'];simp only[AE];by_cases hk:K.contains i=true
  ·rw[Ak hk,Ak ⟨hi,hk⟩,Av,hC'];rfl
  ·rw[Aq hk,Aq (fun hh=>hk hh.2)]
 ·rw[Aq hi,Aq (fun hh=>hi hh.1),A8];congr 1;omega
theorem LB{C C':Ctx}{K:List Nat}{h:Nat}(hh:h<=C.H.length)(hl:h<=C'.H.length)(i:Nat):(C.back C' K h).row? i=if Tj K h i then C'.row? i else C.row? i:=by
 unfold Ctx.row? rowAt;rw[GD hh hl];by_cases hk:Tj K h i
 ·rw[Ak hk,Ak hk]
 ·rw[Aq hk,Aq hk]
theorem dd{C C':Ctx}{K:List Nat}{h:Nat}(hx:Ext (C.mask K h) C')(b:Nat)(hb:(C.back C' K h).KI b):C'.KI b:=by
 rcases hb with ⟨i,hi⟩ |hf
 ·simp only[Ctx.back]at hi;split at hi
  ·exact .inl ⟨i,hi⟩
  ·rename_i hk;refine .inr ?_;rw[hx.fo];exact .inr ⟨i,hk,hi⟩
 ·refine .inr ?_;rw[hx.fo];exact .inl hf
theorem fJ(hR:∀ i j b,C.ρ i=some b->C.ρ j=some b->i=j){K:List Nat}{h i b:Nat}(hk:¬Tj K h i)(hi:C.ρ i=some b):¬(C.mask K h).own b:=by
 rintro⟨j,_,hj⟩
 simp only[Ctx.mask]at hj;split at hj
 ·rename_i hkj;exact hk (by rw[hR i j b hi hj];exact hkj)
 ·cases hj
theorem Ou{C C':Ctx}(_hR:RH P C){K:List Nat}{h:Nat}(hh:h<=C.H.length)(hx:Ext (C.mask K h) C'):Ext C (C.back C' K h):=by
 have hl:h<=C'.H.length:=by have:=hx.len;rwa [Ht hh]at this
 refine⟨hx.os,hx.tape,hx.output,hx.size,fun b hb ho=>hx.block b hb fun hm=>ho ?_,hx.shape,?_,fun i r' hi hr=>?_,fun b hb=>?_,fun b hb=>?_,rfl,rfl,fun i hi=>?_,fun i r info h1 h2 h3=>?_,hx.loop⟩
 ·obtain⟨i,hir,hi⟩:=hm;simp only[Ctx.mask]at hi hir;split at hi
  ·exact⟨i,hir,hi⟩
  ·cases hi
 ·show C.H.length<=(Is K (C.H.take h) C'.H++C.H.drop h).length
  rw[Ap,FP,Az,B7];omega
 ·rw[LB hh hl]at hr;split at hr
  ·rename_i hk;obtain⟨r,a1,a2,a3,a4,a5⟩:=hx.rows i r' (by rw[Ht hh];exact hk.1) hr;rw[KW,Ak hk]at a1;exact⟨r,a1,a2,a3,a4,fun e=>⟨(a5 e).1,fun b hb=>by
    show(if Tj K h i then C'.ρ i else C.ρ i)=some b
    rw[Ak hk];exact(a5 e).2 b (by simp[Ctx.mask,hk,hb])⟩⟩
  ·rename_i hk;exact⟨r',hr,rfl,rfl,Al _,fun _=>⟨rfl,fun b hb=>by
    show(if Tj K h i then C'.ρ i else C.ρ i)=some b
    rw[Aq hk];exact hb⟩⟩
 ·obtain⟨i,hi⟩:=hb;simp only[Ctx.back]at hi;split at hi
  ·rcases hx.fresh b ⟨i,hi⟩ with ⟨j,hj⟩ |hs
   ·simp only[Ctx.mask]at hj;split at hj
    ·exact .inl ⟨j,hj⟩
    ·cases hj
   ·exact .inr hs
  ·exact .inl ⟨i,hi⟩
 ·obtain⟨i,hir,hi⟩:=hb;simp only[Ctx.back]at hi hir;split at hi
  ·rcases hx.D8 b ⟨i,by rw[hx.ro];exact hir,hi⟩ with ⟨j,hjr,hj⟩ |hs
   ·simp only[Ctx.mask]at hj hjr;split at hj
    ·exact .inl ⟨j,hjr,hj⟩
    ·cases hj
   ·exact .inr hs
  ·exact .inl ⟨i,hir,hi⟩
 ·obtain⟨g1,g2⟩:=hx.low i hi;refine⟨?_,?_⟩
  ·rw[GD hh hl];split
   ·rename_i hk;rw[g1];simp only[Ctx.mask];rw[Fy,Au,Ak hk.1];simp only[hk.2,BV];cases C.H[i]? <;> rfl
   ·rfl
  ·show(if Tj K h i then C'.ρ i else C.ρ i)=_
   split
   ·rename_i hk;rw[g2];simp[Ctx.mask,hk]
   ·rfl
 ·by_cases hk:Tj K h i
  ·obtain⟨⟨r',st,a1,a2,a3⟩,a4⟩:=hx.lp i r info (by simp only[Ctx.mask];rw[Fy,Au,Ak hk.1,h1];rw[AE,Ak hk.2]) h2 h3;refine⟨⟨r',st,by rw[GD hh hl,Ak hk];exact a1,a2,a3⟩,fun b hb=>?_⟩;show(if Tj K h i then C'.ρ i else C.ρ i)=_
   rw[Ak hk];exact a4 b (by simp[Ctx.mask,hk,hb])
  ·refine⟨⟨r,info.st,by rw[GD hh hl,Aq hk];exact h1,h2,h3⟩,fun b hb=>?_⟩;show(if Tj K h i then C'.ρ i else C.ρ i)=_
   rw[Aq hk];exact hb
theorem Wj{C C':Ctx}(hR:RH P C){K:List Nat}{h:Nat}(hh:h<=C.H.length)(hx:Ext (C.mask K h) C')(hR':RH P C')(hk:DF 0 (EN K (C'.H.take h))=true):RH P (C.back C' K h):=by
 have hl:h<=C'.H.length:=by have:=hx.len;rwa [Ht hh]at this
 have hxe:=Ou hR hh hx;have hfree:∀{p V},RV P C' p V->mlt 0 p=true->RV P (C.back C' K h) p V:=fun hv hm=>hv.free (dd hx) rfl hm
 have hfo:∀ b,C'.fo b ↔ C.fo b\/∃ i,¬Tj K h i/\C.ρ i=some b:=fun b=>by rw[hx.fo];rfl
 have hold:∀ i b,¬Tj K h i->C.ρ i=some b->C'.w.heap[b]? = C.w.heap[b]?:=fun i b hk hi=>hx.block b (hR.lt hi) (fJ hR.inj hk hi)
 have hKrow:∀ i r,Tj K h i->C'.row? i=some r->r.bv=true\/∀ e∈r.es,E5 0 e.cells=true:=by
  intro i r hki hr;refine Ir hk (i:=i) ?_;have:=hr;unfold Ctx.row? rowAt at this;unfold rowAt;rw[Fy,Au,Ak hki.1];simp only[Ak hki.2];cases hc:C'.H[i]? with
  |none=>rw[hc]at this;cases this
  |some q=>rw[hc]at this;exact this
 refine⟨fun i j b h1 h2=>?_,fun i b h1=>?_,fun i b r h1 h2=>?_,Bc hR.ro hxe.len,fun i b h1=>?_,fun b hb=>AA (hR.Kq b hb) hxe.size,fun i b r info h1 h2 h3 h4=>?_,hR.LQ.mono hxe⟩
 ·simp only[Ctx.back]at h1 h2;split at h1 <;> split at h2
  ·exact hR'.inj i j b h1 h2
  ·rename_i hi hj;exact absurd ((hfo b).2 (.inr ⟨j,hj,h2⟩)) (hR'.IU i b h1)
  ·rename_i hi hj;exact absurd ((hfo b).2 (.inr ⟨i,hi,h1⟩)) (hR'.IU j b h2)
  ·exact hR.inj i j b h1 h2
 ·simp only[Ctx.back]at h1;split at h1
  ·rename_i hki;rcases hR'.Ly i b h1 with ⟨r,hr⟩ |⟨r,info,g1,g2,g3⟩
   ·exact .inl ⟨r,by rw[LB hh hl,Ak hki];exact hr⟩
   ·exact .inr ⟨r,info,by rw[GD hh hl,Ak hki];exact g1,g2,g3⟩
  ·rename_i hki;rcases hR.Ly i b h1 with ⟨r,hr⟩ |⟨r,info,g1,g2,g3⟩
   ·exact .inl ⟨r,by rw[LB hh hl,Aq hki];exact hr⟩
   ·exact .inr ⟨r,info,by rw[GD hh hl,Aq hki];exact g1,g2,g3⟩
 ·rw[LB hh hl]at h2;simp only[Ctx.back]at h1;split at h1
  ·rename_i hki;rw[Ak hki]at h2;have hB:=hR'.GP i b r h1 h2;obtain⟨c,fr,cv,m1,m2,m3,m4⟩:=hB.mem;refine⟨hB.sz,⟨c,fr,cv,m1,m2,m3,fun k e j p hk1 hj1=>⟨(m4 k e j p hk1 hj1).1,hfree (m4 k e j p hk1 hj1).2 ?_⟩⟩,hB.len,hB.typed⟩;rcases hKrow i r hki h2 with hb |hb
   ·exact EW (hB.typed hb e (Ag hk1)) 0 p (Ag hj1)
   ·exact Dv (hb e (Ag hk1)) hj1
  ·rename_i hki;rw[Aq hki]at h2;exact(hR.GP i b r h1 h2).mono hxe (hold i b hki h1)
 ·simp only[Ctx.back]at h1 ⊢;split at h1
  ·exact fun hf=>hR'.IU i b h1 ((hfo b).2 (.inl hf))
  ·exact hR.IU i b h1
 ·rw[GD hh hl]at h2;simp only[Ctx.back]at h1;split at h1
  ·rename_i hki;rw[Ak hki]at h2;have h5:E5 0 info.k.S0=true:=by
    refine Jl hk (i:=i) (r:=r) ?_ h3;rw[Fy,Au,Ak hki.1,h2];rw[AE,Ak hki.2]
   refine(hR'.Ii i b r info h1 h2 h3 h4).via (fun p V hp hv=>hfree hv (Jk hp)) (fun t m5=>⟨m5.1,fun j p v g1 g2=>hfree (m5.2 j p v g1 g2) (Dv h5 g1)⟩) (fun hl=>?_) (fun _ _ h=>h);obtain⟨⟨rec,m1,m2,m3,m4,m5,m6⟩,ha,hb⟩:=hl;exact⟨⟨rec,m1,m2,m3,m4,⟨m5.1,fun j p v g1 g2=>hfree (m5.2 j p v g1 g2) (Dv h5 g1)⟩,m6⟩,ha,hb⟩
  ·rename_i hki;rw[Aq hki]at h2;exact(hR.Ii i b r info h1 h2 h3 h4).mono hxe (hold i b hki h1)
theorem Qz{H:List Row}{i:Nat}{r:Row}(h:rowAt H i=some r):r.live=true:=by
 unfold rowAt at h;split at h
 ·split at h
  ·rename_i hlv;cases h;exact hlv
  ·cases h
 ·cases h
theorem TI(hR:RH P C){i b k:Nat}{r:Row}(hi:i<C.H.length)(hro:C.ro<=i)(hr:C.row? i=some r)(hfz:r.fz=false)(hρ:C.ρ i=some b){news:List PV}{vs:List Value}(hk:k+news.length<=r.es.length)
  (hN:HB P C r.s news vs) (hone:∀ v∈vs,v.oneCell'=true) {ty:Bool} (hty:ty=true->∀ e,e∈news->wt P r.t e=true):
  ∃ C',(storeCells ⟨b,k*r.s,none⟩ vs).run P C.w=.ok () C'.w/\I7 P C C' (C.H.set i { r with es:=r.es.take k++news++r.es.drop (k+news.length),bv:=r.bv&&ty }):=by
 have hB:=hR.GP i b r hρ hr;obtain⟨c,fr,cv,m1,m2,m3,m4⟩:=hB.mem;have hlive:=Qz hr;have hks:(k+news.length)*r.s<=r.es.length*r.s:=A1 _ hk;rw[Bb,<- hN.len]at hks;obtain⟨w',c',g1,g2,g3⟩:=Fk (P:=P) (b:=b) (off:=k*r.s) vs 0 C.w c m1 (m2 hfz) (by omega) hone;have hlen:(r.es.take k++news++r.es.drop (k+news.length)).length=r.es.length:=by simp;omega
 have hupd:({ C with H:=C.H.set i { r with es:=r.es.take k++news++r.es.drop (k+news.length),bv:=r.bv&&ty },w:=w' }:Ctx)=C.H6 i b { r with es:=r.es.take k++news++r.es.drop (k+news.length),bv:=r.bv&&ty } w':=by
  unfold Ctx.H6;congr 1
  funext x
  split
  ·rename_i e;rw[e,hρ]
  ·rfl
 have hext:Ext C (C.H6 i b { r with es:=r.es.take k++news++r.es.drop (k+news.length),bv:=r.bv&&ty } w'):=by
  refine Nm hi hro hr hlive rfl rfl (by rw[hlen];exact Al _) (fun _=>⟨rfl,fun b' hb'=>by rw[hρ]at hb';exact Ah hb'⟩) g2.os g2.tape g2.output (by rw[g2.size];exact Al _) (fun b' hlt hno=>g2.other b' fun e=>hno ⟨i,hro,by rw[e];exact hρ⟩) (fun b' c1 e1 fr1 h1=>?_) (fun b' rec h1=>?_) (.inl hρ)
  ·by_cases hbb:b'=b
   ·subst hbb;rw[m1]at h1;cases h1;exact⟨c',_,g2.at_,g2.Ml⟩
   ·exact⟨c1,_,by rw[g2.other b' hbb];exact h1,rfl⟩
  ·have hbb:b'≠b:=fun e=>by subst e;rw[m1]at h1;cases h1
   rw[g2.other b' hbb];exact h1
 refine⟨C.H6 i b { r with es:=r.es.take k++news++r.es.drop (k+news.length),bv:=r.bv&&ty } w',g1,⟨rfl,hext,?_⟩⟩;refine Q3 hR hext hi hlive (fun b' hlt hne=>g2.other b' fun e=>hne (by rw[e];exact hρ)) (.inl hρ) ?_;have part:∀(x:Nat) e,(r.es.take k++news++r.es.drop (k+news.length))[x]? = some e->(r.es[x]? = some e/\(x<k\/k+news.length<=x))\/(news[x-k]? = some e/\k<=x/\x<k+news.length):=fun x e h=>by
  rw[Bu,AO]at h;split at h
  ·rename_i hx;rw[Au]at h;split at h
   ·exact .inl ⟨h,.inl (by assumption)⟩
   ·cases h
  ·rename_i hx;rw[Az]at hx h;rw[Nat.min_eq_left (by omega)]at hx h;rw[AO]at h;split at h
   ·exact .inr ⟨h,by omega,by omega⟩
   ·rw[A8,show k+news.length+(x-k-news.length)=x by omega]at h;exact .inl ⟨h,.inr (by omega)⟩
 refine⟨hB.sz,⟨c',fr,fun k2 j2=>c'.getD (k2*r.s+j2) undef,g2.at_,fun hz off ho=>m2 hz off (by rw[<- g2.Ml];exact ho),by rw[hlen,g2.Ml];exact m3,fun k2 e2 j2 p2 hk2 hj2=>?_⟩,fun e2 he2=>?_,fun hbv e2 he2=>?_⟩
 ·have key:∃ v,c'[k2*r.s+j2]? = some v/\RV P C p2 v:=by
   rcases part k2 e2 hk2 with ⟨q1,q2⟩ |⟨q1,q2,q3⟩
   ·have hm:=m4 k2 e2 j2 p2 q1 hj2;have hj2s:j2<r.s:=by rw[<- hB.len _ (Ag q1)];exact(Ad.1 hj2).1
    refine⟨_,?_,hm.2⟩;rw[g3,Aq ?_]
    ·exact hm.1
    ·rintro⟨z1,z2⟩
     rw[hN.len]at z2;rcases q2 with q2 |q2
     ·have h5:(k2+1)*r.s<=k*r.s:=A1 _ q2;rw[Bb,BQ]at h5;omega
     ·have h5:(k+news.length)*r.s<=k2*r.s:=A1 _ q2;rw[Bb]at h5;omega
   ·obtain⟨v,z1,z2⟩:=hN.rel (k2-k) e2 j2 p2 q1 hj2;refine⟨v,?_,z2⟩;have h5:k*r.s<=k2*r.s:=A1 _ q2;have hlt:=(Ad.1 z1).1;rw[Nat.sub_mul]at z1 hlt;rw[g3,Ak (by omega),<- z1];congr 1
    omega
  obtain⟨v,q1,q2⟩:=key;have e2':c'.getD (k2*r.s+j2) undef=v:=by rw[Bk,q1];rfl
  simp only[e2'];exact⟨q1,q2.mono hext⟩
 ·obtain⟨x,hx⟩:=Bh he2;rcases part x e2 hx with ⟨q1,_⟩ |⟨q1,_⟩
  ·exact hB.len _ (Ag q1)
  ·exact hN.el _ (Ag q1)
 ·simp only[Aa]at hbv;obtain⟨x,hx⟩:=Bh he2;rcases part x e2 hx with ⟨q1,_⟩ |⟨q1,_⟩
  ·exact hB.typed hbv.1 _ (Ag q1)
  ·exact hty hbv.2 _ (Ag q1)
def aG:Kind->Value->PV
 |.sl t,.slice none 0 0=>.C9 false t []
 |_,v=>.val v
def Wl(P:Program)(e:TypeId)(z:Value):PV:=.agg ((List.range z.cells.size).map fun j=>aG ((kinds P e).getD j .other) (z.cells.getD j undef))
theorem fK(k:Kind)(v:Value):RV P C (aG k v) v:=by
 unfold aG;split
 ·exact .C9 (es:=[]) 0 0 (fun _ _=>undef) (by simp) (fun hf=>by cases hf) (fun h0=>by simp at h0) (fun x e j p hx=>by simp at hx) (fun x e j p hx=>by simp at hx) (fun e he=>by simp at he)
 ·exact .val
theorem Pf(P:Program)(e:TypeId)(z:Value):(Wl P e z).cells=(List.range z.cells.size).map fun j=>aG ((kinds P e).getD j .other) (z.cells.getD j undef):=rfl
theorem df{e:TypeId}{z:Value}(hz:z.cells.size=P.cellsOf e)(len:Nat):HB P C (P.cellsOf e) (List.replicate len (Wl P e z)) (Builtin.zeroCells z.cells len).toList:=by
 refine⟨by simp[Builtin.zeroCells,hz],fun p hp=>?_,fun k p j q h1 h2=>?_⟩
 ·have:=Cr hp;subst this;rw[Pf];simp[hz]
 ·rw[BH]at h1;split at h1
  ·rename_i hk;cases h1;rw[Pf,An]at h2;obtain⟨x,hx,rfl⟩:=Af.1 h2;have hj:j<z.cells.size:=by
    have:=(Ad.1 hx).1;simpa using this
   rw[Be hj]at hx;cases hx;have hz2:z.cells.getD j undef=z.cells[j]:=by simp[hj]
   refine⟨z.cells[j],?_,by rw[hz2];exact fK _ _⟩;have hlt:k*P.cellsOf e+j<len*z.cells.size:=by
    have h5:(k+1)*P.cellsOf e<=len*P.cellsOf e:=A1 _ (by omega);rw[Bb,BQ]at h5;rw[hz]at hj ⊢;omega
   unfold Builtin.zeroCells;rw[AL,B6,<- AL,CP,Be hlt];simp only[AE,A5,hz];rw[CU,Nat.mul_add_mod,Nat.mod_eq_of_lt (by omega)];simp[hj]
  ·cases h1
def yv(P:Program)(e:TypeId)(z:Value):PV:=bif wt P e (.val z) then .val z else Wl P e z
def Q9(P:Program)(e:TypeId)(z:Value)(r:Row)(k len:Nat):Row:={ r with es:=r.es.take k++List.replicate len (yv P e z)++r.es.drop (k+len),bv:=r.bv&&wt P e (yv P e z) }
def QA(P:Program)(e:TypeId)(z:Value):Bool:=known P e&&z.cells.size==P.cellsOf e&&z.cells.toList.all (fun v=>GB (.val v))&&Uw (.val z)
def Ra(P:Program)(ro:Nat)(H:List Row)(c:Call)(x:PV):Option (PV×List Row):=
 match c.argTypes[0]? with
 |some T=>
  match P.underlying T with
  |some (.slice e)=>
   match E8 P e with
   |some z=>
    match x with
    |.sl i n k len=>
     match rowAt H i with
     |some r=>
      if decide (ro<=i)&&r.t==e&&QA P e z && !r.fz&&(r.es.length==n) then
       some (.val (.tuple #[]),if r.nl then H else H.set i (Q9 P e z r k len)) else none
     |none=>none
    |.val (.slice none 0 0)=>some (.val (.tuple #[]),H)
    |_=>none
   |none=>none
  |_=>none
 |none=>none
def yw(P:Program)(ro:Nat)(H:List Row)(c:Call)(x y:PV):Option (PV×List Row):=
 match c.argTypes[0]? with
 |some T=>
  match P.underlying T with
  |some (.pointer e)=>
   match x,y with
   |.ptr i n 0 0,.val (.int .i64 m)=>
    match rowAt H i with
    |some r=>
     if decide (ro<=i)&&Mj P e&&r.t==e&&r.bv&&(r.es.length==n)&&decide (0<m)&&decide (m<=n)&&decide (m<=9223372036854775807) then
      some (.val (.string (V8 ((r.es.drop 0).take m.toNat))),H.set i { r with fz:=true }) else none
    |none=>none
   |.val (.pointer none),.val (.int .i64 0)=>some (.val (.string .empty),H)
   |_,_=>none
  |_=>none
 |none=>none
def Mn(P:Program)(ro:Nat)(H:List Row)(f:Operand->PV):Op->Option (PV×List Row)
 |.call c=>
  match c.callee with
  |.builtin .clear=>match c.args.toList with | [x]=>Ra P ro H c (f x) |_=>none
  |.builtin .unsafeString=>match c.args.toList with | [x,y]=>yw P ro H c (f x) (f y) |_=>none
  |_=>none
 |_=>none
theorem fP{e:TypeId}{z:Value}(hz:z.cells.size=P.cellsOf e)(ho:Uw (.val z)=true)(len:Nat):HB P C (P.cellsOf e) (List.replicate len (.val z)) (Builtin.zeroCells z.cells len).toList:=by
 have h6:=(RV.JR (P:=P) (C:=C) (V:=z) .val ho);refine⟨by simp[Builtin.zeroCells,hz],fun p hp=>?_,fun k p j q h1 h2=>?_⟩
 ·have:=Cr hp;subst this;rw[<- h6.1,hz]
 ·rw[BH]at h1;split at h1
  ·rename_i hk;cases h1;have hj:j<z.cells.size:=by rw[h6.1];exact(Ad.1 h2).1
   have hz2:z.cells[j]? = some z.cells[j]:=AD hj;refine⟨z.cells[j],?_,h6.2 j q _ h2 hz2⟩;have hlt:k*P.cellsOf e+j<len*z.cells.size:=by
    have h5:(k+1)*P.cellsOf e<=len*P.cellsOf e:=A1 _ (by omega);rw[Bb,BQ]at h5;rw[hz]at hj ⊢;omega
   unfold Builtin.zeroCells;rw[AL,B6,<- AL,CP,Be hlt];simp only[AE,A5,hz];rw[CU,Nat.mul_add_mod,Nat.mod_eq_of_lt (by omega)];simp[hj]
  ·cases h1
theorem l9{e:TypeId}{z:Value}(hz:z.cells.size=P.cellsOf e)(ho:Uw (.val z)=true)(len:Nat):HB P C (P.cellsOf e) (List.replicate len (yv P e z)) (Builtin.zeroCells z.cells len).toList:=by
 unfold yv;cases wt P e (.val z) with
 |true=>exact fP hz ho len
 |false=>exact df hz len
theorem UF{c:Call}{x p:PV}{X:Value}{H':List Row}(hR:RH P C)(hx:RV P C x X)(h:Ra P C.ro C.H c x=some (p,H'))(ty:TypeId):
  ∃ v C',(Builtin.clear_ c.argTypes ty #[X]).run P C.w=.ok v C'.w/\I7 P C C' H'/\RV P C' p v:=by
 unfold Ra at h;split at h
 ·rename_i T hT;split at h
  ·rename_i e hu;split at h
   ·rename_i z hz;split at h
    ·rename_i i n k len;split at h
     ·rename_i r hr;split at h
      ·rename_i hc;simp only[Aa,Ay,Ab,Am]at hc;obtain⟨⟨⟨⟨hro,ht⟩,hok⟩,hfz⟩,hn⟩:=hc;unfold QA at hok;simp only[Aa,Ay]at hok;obtain⟨⟨⟨hkn,hzs⟩,hzc⟩,hzo⟩:=hok;cases h;cases hx with
       |sl hV hi hle hh=>
        obtain⟨hk,a,cap,rfl,hlc,hsl⟩:=hh r hr hn;unfold E4 at hsl;split at hsl
        ·rename_i hnl;obtain⟨rfl,rfl⟩:=hsl;rw[Ak hnl];refine⟨_,C,?_,⟨rfl,.refl C,hR⟩,.val⟩;simp only[Builtin.clear_,hT,BE,AZ,Sem.run_bind,run_underlying hu,Result.andThen_ok];rfl
        ·rename_i hnl;obtain⟨b,hρ,rfl,c0,ee,fr,hheap,hcs⟩:=hsl;rw[Aq hnl];have hB:=hR.GP i b r hρ hr;have hsz:r.s=P.cellsOf e:=by rw[hB.sz,ht]
         have hrel:=l9 (P:=P) (C:=C) (e:=e) hzs hzo len;rw[<- hsz]at hrel;obtain⟨C',g1,g2⟩:=TI (ty:=wt P e (yv P e z)) hR hi hro hr hfz hρ (k:=k) (by simp;omega) hrel (fun v hv=>by
          have hv2:v∈z.cells:=by
           unfold Builtin.zeroCells at hv;simp only[Array.toList_map,AX,Array.mem_toList_iff,Array.mem_range]at hv;obtain⟨y,hy,rfl⟩:=hv;have:y % z.cells.size<z.cells.size:=Nat.mod_lt _ (by
            rcases Cz z.cells.size with h0 |h0
            ·rw[h0]at hy;omega
            ·exact h0)
           rw[getElem!_pos z.cells _ this];exact Array.getElem_mem _
          exact RV.Qx (P:=P) (C:=C) (p:=.val v) .val (Ao.1 hzc v (by simpa using hv2))) (fun hty p hp=>by
          have:=Cr hp;subst this;rw[ht];exact hty)
         rw[Cj]at g2;by_cases h0:len=0
         ·subst h0;have hw:C'.w=C.w:=by
           have:(storeCells ⟨b,k*r.s,none⟩ (Builtin.zeroCells z.cells 0).toList).run P C.w=.ok () C.w:=by simp[Builtin.zeroCells,storeCells]
           rw[this]at g1;exact(Result.ok.inj g1).2.symm
          refine⟨_,C',?_,g2,.val⟩;rw[hw];simp only[Builtin.clear_,hT,BE,AZ,Sem.run_bind,run_underlying hu,Result.andThen_ok];rfl
         ·refine⟨_,C',?_,g2,.val⟩;obtain⟨m,rfl⟩:∃ m,len=m+1:=⟨len-1,by omega⟩;simp only[Builtin.clear_,hT,BE,AZ,Sem.run_bind,run_underlying hu,Result.andThen_ok,Fx hz,g1];rfl
      ·cases h
     ·cases h
    ·cases h;cases hx;refine⟨_,C,?_,⟨rfl,.refl C,hR⟩,.val⟩;simp only[Builtin.clear_,hT,BE,AZ,Sem.run_bind,run_underlying hu,Result.andThen_ok];rfl
    ·cases h
   ·cases h
  ·cases h
 ·cases h
theorem Nt{P:Program}(w:World):∀(l:List Int) (b off:Nat) (acc:ByteArray),(∀ j x,l[j]? = some x->w.cell? ⟨b,off+j,none⟩=some (.int .u8 x)) ->
  (loadBytes ⟨b,off,none⟩ acc l.length).run P w=.ok ⟨acc.data++(l.map fun n=>n.toNat.toUInt8).toArray⟩ w
 | [],b,off,acc,_=>by simp[loadBytes]
 |x::l,b,off,acc,h=>by
  have h0:w.cell? ⟨b,off,none⟩=some (.int .u8 x):=h 0 x rfl;have ih:=Nt (P:=P) w l b (off+1) (acc.push x.toNat.toUInt8) (fun j y hy=>by
   rw[show off+1+j=off+(j+1) by omega];exact h (j+1) y (by simpa using hy))
  simp only[As,loadBytes,Sem.run_bind,run_load,h0,Result.andThen,Fs];rw[ih];congr 1
  apply ByteArray.ext
  simp[ByteArray.push]
theorem dg{w:World}{b:Nat}{c:Array Value}{t:TypeId}{fr:Nat×Nat}(h:w.heap[b]? = some (.cells c t fr))(n:Nat):∃ fr',(w.freeze ⟨b,0,none⟩ n).heap[b]? = some (.cells c t fr'):=by
 unfold World.freeze;split
 ·exact⟨fr,h⟩
 ·obtain⟨lo,hi⟩:=fr;exact⟨if lo==hi then (0,0+n) else (min lo 0,max hi (0+n)),by simp[Array.getElem?_modify,h]⟩
theorem HU{w:World}{b x:Nat}(hx:x≠b)(n:Nat):(w.freeze ⟨b,0,none⟩ n).heap[x]? = w.heap[x]?:=by
 unfold World.freeze;split
 ·rfl
 ·simp only[Ck];rw[Aq (fun e=>hx e.symm)]
theorem Wm(w:World)(b n:Nat):(w.freeze ⟨b,0,none⟩ n).os=w.os/\(w.freeze ⟨b,0,none⟩ n).tape=w.tape/\(w.freeze ⟨b,0,none⟩ n).output=w.output/\(w.freeze ⟨b,0,none⟩ n).heap.size=w.heap.size:=by
 unfold World.freeze;split
 ·exact⟨rfl,rfl,rfl,rfl⟩
 ·exact⟨rfl,rfl,rfl,by simp⟩
theorem dh{c:Call}{x y p:PV}{X Y:Value}{H':List Row}(hR:RH P C)(hx:RV P C x X)(hy:RV P C y Y)(h:yw P C.ro C.H c x y=some (p,H'))(ty:TypeId):
  ∃ v C',(Builtin.unsafeString_ c.argTypes ty #[X,Y]).run P C.w=.ok v C'.w/\I7 P C C' H'/\RV P C' p v:=by
 unfold yw at h;split at h
 ·rename_i T hT;split at h
  ·rename_i e hu;split at h
   ·rename_i i n m;split at h
    ·rename_i r hr;split at h
     ·rename_i hc;simp only[Aa,Ab,Ay]at hc;obtain⟨⟨⟨⟨⟨⟨⟨hro,hbk⟩,ht⟩,hbv⟩,hn⟩,hm0⟩,hmn⟩,hmm⟩:=hc;cases h;cases hy;cases hx with
      |ptr hV hk hi hle hh=>
       obtain⟨b,hb,rfl⟩:=hh r hr hn;have hB:=hR.GP i b r hb hr;obtain⟨ca,fr,cv,m1,m2,m3,m4⟩:=hB.mem;have hsz:r.s=1:=by rw[hB.sz,ht];exact(Ez hbk).2.1
       have hlive:=Qz hr;rw[CW,AM,AF];generalize hl:(r.es.take m.toNat).map (fun p=>(p.cellAt 0).DL)=l;have hll:l.length=m.toNat:=by rw[<- hl];simp;omega
       have hcell:∀ j x,l[j]? = some x->C.w.cell? ⟨b,0+j,none⟩=some (.int .u8 x):=by
        intro j x hj;rw[<- hl,An]at hj;obtain⟨q,hq,rfl⟩:=Af.1 hj;rw[Au]at hq;split at hq
        ·have hw:=hB.typed hbv q (Ag hq);rw[ht]at hw;obtain⟨g1,g2⟩:=m4 j q 0 _ hq (JS hbk hw);rw[hsz,CR,BA]at g1;rw[AM,Ij m1,g1];generalize hcv:cv j 0=v at g2;cases g2;rfl
        ·cases hq
       have hlb:=Nt (P:=P) C.w l b 0 .empty hcell;have hlies:=Go.Lib.liesAt_bytes (P:=P) (Ez hbk).2.1 (ca.size / P.cellsOf e) l.length (by rw[(Ez hbk).2.1,hll];simp;rw[hsz]at m3;omega);obtain⟨fr',hfr⟩:=dg m1 l.length;obtain⟨f1,f2,f3,f4⟩:=Wm C.w b l.length;have hm:m=(l.length:Int):=by omega
       have hrun:(Builtin.unsafeString_ c.argTypes ty #[.pointer (some ⟨b,0,none⟩),.int .i64 m]).run P C.w=.ok (.string ⟨ByteArray.empty.data++(l.map fun n=>n.toNat.toUInt8).toArray⟩) (C.w.freeze ⟨b,0,none⟩ l.length):=by
        have hdef:Builtin.unsafeString_ c.argTypes ty #[.pointer (some ⟨b,0,none⟩),.int .i64 m] =
          (do
           let n <- asInt (.int .i64 m)
           let some pt:=c.argTypes[0]? |stuck "unsafe.String: no argument types"
           if n<0 then runtimePanic (.error "unsafe.String: len out of range")
           if n > IntKind.i64.max then unsupported (.unsafePointer "String: a length above the largest int")
           if n=0 then pure (.string .empty)
           else if <- variablesAt ⟨b,0,none⟩ (<- elemOf pt) n.toNat then do
            let s <- loadBytes ⟨b,0,none⟩ .empty n.toNat
            freeze ⟨b,0,none⟩ n.toNat
            pure (.string s)
           else unsupported (.unsafePointer "String: not so many bytes at ptr")):=rfl
        rw[hdef];have hmax:IntKind.i64.max=9223372036854775807:=rfl;have h1:¬m<0:=by omega
        have h2:¬(9223372036854775807:Int)<m:=by omega
        have h3:¬m=0:=by omega
        have hsh:C.w.shape? b=some (e,ca.size):=by simp[World.shape?,m1,ht]
        simp[hT,asInt,asIntOf,hmax,h1,h2,h3,variablesAt,hsh,elemOf,run_underlying hu];rw[<- hll,hlies];simp[hlb]
       have hext:Ext C (C.H6 i b { r with fz:=true } (C.w.freeze ⟨b,0,none⟩ l.length)):=by
        refine Nm hi hro hr hlive rfl rfl (Al _) (fun _=>⟨rfl,fun b' hb'=>by rw[hb]at hb';exact Ah hb'⟩) f1 f2 f3 (by rw[f4];exact Al _) (fun b' _ hno=>HU (fun e=>hno ⟨i,hro,by rw[e];exact hb⟩) _) (fun b' c1 e1 fr1 h1=>?_) (fun b' rec h1=>by rw[HU (fun e=>by rw[e,m1]at h1;cases h1)];exact h1) (.inl hb);by_cases hbb:b'=b
        ·subst hbb;rw[m1]at h1;cases h1;exact⟨_,fr',hfr,rfl⟩
        ·exact⟨c1,fr1,by rw[HU hbb];exact h1,rfl⟩
       refine⟨_,C.H6 i b { r with fz:=true } (C.w.freeze ⟨b,0,none⟩ l.length),hrun,⟨rfl,hext,?_⟩,?_⟩
       ·exact Q3 hR hext hi hlive (fun b' _ hne=>HU (fun e=>hne (by rw[e];exact hb)) _) (.inl hb) ⟨hB.sz,⟨ca,fr',cv,hfr,fun hz=>by simp at hz,m3,fun k q j z q1 q2=>⟨(m4 k q j z q1 q2).1,(m4 k q j z q1 q2).2.mono hext⟩⟩,hB.len,hB.typed⟩
       ·have e1:(⟨ByteArray.empty.data++(l.map fun n=>n.toNat.toUInt8).toArray⟩:ByteArray)=V8 (r.es.take m.toNat):=by
         unfold V8 strOfNums;rw[hl];apply ByteArray.ext
         simp
        rw[e1];exact .val
     ·cases h
    ·cases h
   ·cases h;cases hx;cases hy;refine⟨_,C,?_,⟨rfl,.refl C,hR⟩,.val⟩;have hmax:IntKind.i64.max=9223372036854775807:=rfl;have hdef:Builtin.unsafeString_ c.argTypes ty #[.pointer none,.int .i64 0] =
      (do
       let n <- asInt (.int .i64 0)
       let some pt:=c.argTypes[0]? |stuck "unsafe.String: no argument types"
       if n<0 then runtimePanic (.error "unsafe.String: len out of range")
       if n > IntKind.i64.max then unsupported (.unsafePointer "String: a length above the largest int")
       if n=0 then pure (.string .empty)
       else runtimePanic (.error "unsafe.String: ptr is nil and len is not zero")):=rfl
    rw[hdef];simp[hT,asInt,asIntOf,hmax]
   ·cases h
  ·cases h
 ·cases h
theorem Wn{f:Operand->PV}{g:Operand->Value}{o:Oper}{p:PV}{H':List Row}(hR:RH P C)(hv:∀ x∈o.op.operands,RV P C (f x) (g x))(h:Mn P C.ro C.H f o.op=some (p,H')):
  ∃ v C',(execOp g o).run P C.w=.ok (.value v) C'.w/\I7 P C C' H'/\RV P C' p v:=by
 obtain⟨dst,op,type,pos,after,guard⟩:=o;simp only at h hv;cases op <;> simp only[Mn,reduceCtorEq]at h
 rename_i c;split at h
 ·rename_i hc;split at h
  ·rename_i x hargs;obtain⟨v,C',g1,g2,g3⟩:=UF hR (hv x (by simp[Op.operands,Call.operands,hc];exact Array.mem_toList_iff.1 (by rw[hargs];simp))) h type;have hca:c.args = #[x]:=by apply BD;simpa using hargs
   refine⟨v,C',?_,g2,g3⟩;simp only[execOp,resolve,hc,hca,Sem.run_bind,Sem.run_pure,Result.andThen_ok,invoke,builtin,BM,AV,Bs,g1]
  ·cases h
 ·rename_i hc;split at h
  ·rename_i x y hargs;have hca:c.args = #[x,y]:=by apply BD;simpa using hargs
   obtain⟨v,C',g1,g2,g3⟩:=dh hR (hv x (by simp[Op.operands,Call.operands,hc,hca])) (hv y (by simp[Op.operands,Call.operands,hc,hca])) h type;refine⟨v,C',?_,g2,g3⟩;simp only[execOp,resolve,hc,hca,Sem.run_bind,Sem.run_pure,Result.andThen_ok,invoke,builtin,BM,AV,Bs,g1]
  ·cases h
 ·cases h
inductive PX where
 |normal |exit (id:Nat) |ret
 deriving DecidableEq,Inhabited
structure Env where
 FI:FuncId->List PV->Option PV:=fun _ _=>none
 live:FuncId->Nat->Option (List Tmp):=fun _ _=>none
 lo:FuncId->Nat->Nat->List PV->List Row->Option (PX×List PV×List Row):=fun _ _ _ _ _=>none
 KC:FuncId->Bool:=fun _=>false
 Hc:Nat->FuncId->List PV->List Row->Option (PV×List Row):=fun _ _ _ _=>none
 KX:FuncId->Nat->List (Tmp×TypeId×Nat):=fun _ _=>[]
 pure:FuncId->Bool:=fun _=>false
 drop:FuncId->Nat->Option (Nat×Bool):=fun _ _=>none
 di:FuncId->Nat->List Nat:=fun _ _=>[]
 Fz:Nat->List Row->(Operand->PV)->Op->Option (PV×List Row):=fun _ _ _ _=>none
 chain:FuncId->Nat->Bool:=fun _ _=>false
 Ec:Nat->List Row->(Operand->PV)->Op->Option (PV×List Row):=fun _ _ _ _=>none
 pw:FuncId->Nat->Option Nat:=fun _ _=>none
 soft:FuncId->Nat->Bool:=fun _ _=>false
 GO:List Row->(Operand->PV)->Op->Option PV:=fun _ _ _=>none
mutual
def plain:PV->Bool
 |.val _=>true
 |.any=>true
 |.agg cs=>Ov cs
 |.El cs=>Ov cs
 |.Kp _ v=>plain v
 |_=>false
def Ov:List PV->Bool
 | []=>true
 |p::ps=>plain p&&Ov ps
end
theorem ME:∀{ps:List PV} {j:Nat} {p:PV},Ov ps=true->ps[j]? = some p->plain p=true
 | [],j,p,_,hj=>by simp at hj
 |q::ps,0,p,hm,hj=>by simp at hj;subst hj;simp only[Ov,Aa]at hm;exact hm.1
 |q::ps,j+1,p,hm,hj=>by simp only[Ov,Aa]at hm;exact ME hm.2 (by simpa using hj)
theorem RV.plain{C C':Ctx}{p:PV}{V:Value}(hv:RV P C p V):plain p=true->RV P C' p V:=by
 induction hv with
 |any=>intro _;exact .any
 |val=>intro _;exact .val
 |agg hs _ ih=>intro hm;exact .agg hs fun j c v h1 h2=>ih j c v h1 h2 (ME (by simpa [Hx.plain] using hm) h1)
 |El hs _ ih=>intro hm;exact .El hs fun j c v h1 h2=>ih j c v h1 h2 (ME (by simpa [Hx.plain] using hm) h1)
 |Kp _ ih=>intro hm;exact .Kp (ih (by simpa [Hx.plain] using hm))
 |ptr=>intro hm;simp[Hx.plain]at hm
 |EF=>intro hm;simp[Hx.plain]at hm
 |sl=>intro hm;simp[Hx.plain]at hm
 |C9=>intro hm;simp[Hx.plain]at hm
 |fn=>intro hm;simp[Hx.plain]at hm
 |Ih=>intro hm;simp[Hx.plain]at hm
 |mp=>intro hm;simp[Hx.plain]at hm
 |gv=>intro hm;simp[Hx.plain]at hm
 |bad=>intro hm;simp[Hx.plain]at hm
 |Lx=>intro hm;simp[Hx.plain]at hm
def Ow(P:Program)(S:List PV)(H:List Row):ResultVar->Option PV
 |.tmp t=>some (S.getD t (.val undef))
 |.cell a t=>if IV H (S.getD a (.val undef)) then Tz P H t (S.getD a (.val undef)) else none
def JW(P:Program)(S:List PV)(H:List Row):List ResultVar->Option (List PV)
 | []=>some []
 |r::rs=>match Ow P S H r,JW P S H rs with |some p,some ps=>some (p::ps) |_,_=>none
def dj(P:Program)(fn:Func)(S:List PV)(H:List Row):Option PV:=
 match JW P S H fn.results.toList with
 |some [p]=>some p
 |some ps=>some (.El ps)
 |none=>none
def settle(h:Nat)(p:PV)(H:List Row):PV×List Row:=
 if mlt h (frz H h p)&&DF h (H.take h) then (frz H h p,H.take h) else (p,H)
abbrev Ex:=Nat->FuncId->Code->List PV->List Row->Option (PX×List PV×List Row)
def GR(E:Env)(k:FuncId)(args:List PV)(H:List Row):Option PV:=
 match E.FI k (Hp H 0 args) with
 |some r=>if E5 0 (Hp H 0 args)&&mlt 0 r&&(plain r||E5 0 args) then some r else none
 |none=>none
def Pg(P:Program)(ex:Ex)(ro:Nat)(k:FuncId)(args:List PV)(H:List Row):Option (PV×List Row):=
 match P.funcs[k]? with
 |some fn=>
  match fn.body with
  |some b=>
   if fn.name == "runtime.NumGoroutine" then none else
   match ex ro k b (args++List.replicate (fn.ntmps-args.length) (.val undef)) H with
   |some (.normal,S',H') |some (.ret,S',H')=>(dj P fn S' H').map fun p=>(p,H')
   |_=>none
  |none=>none
 |none=>none
def Iu(P:Program)(E:Env)(ex:Ex)(ro:Nat)(k:FuncId)(args:List PV)(H:List Row):Option (PV×List Row):=
 match E.Hc ro k args H with
 |some r=>some r
 |none=>Pg P ex ro k args H
def Rb(P:Program)(E:Env)(ex:Ex)(ro:Nat)(k:FuncId)(args:List PV)(H:List Row):Option (PV×List Row):=
 match GR E k args H with
 |some r=>some (r,H)
 |none=>
  match Iu P E ex ro k args H with
  |some (p,H')=>if E.KC k then some (p,H') else some (settle H.length p H')
  |none=>none
def Wo(P:Program)(E:Env)(ex:Ex)(k:FuncId)(args:List PV)(H:List Row):Option PV:=
 if E5 H.length args&&DF H.length H then
  match GR E k args H with
  |some r=>some r
  |none=>
   match Iu P E ex H.length k args H with
   |some (p,H')=>if mlt H.length (frz H' H.length p) then some (frz H' H.length p) else none
   |none=>none
 else none
def Rd(S:List PV)(ps:List Tmp)(args:List PV):List PV:=(ps.zip args).foldl (fun S x=>S.set x.1 x.2) S
def IY(H:List Row)(i:Nat)(st:aj):Option (List Row):=
 match H[i]? with
 |some r=>match r.live,r.lp with |false,some info=>some (H.set i { r with lp:=some ⟨info.k,st⟩ }) |_,_=>none
 |none=>none
def I9(H:List Row)(i:Nat):Option FD:=
 match H[i]? with
 |some r=>match r.live with |false=>r.lp |true=>none
 |none=>none
def MF:PX->Option Code
 |.normal=>none
 |.exit id=>some (.exit id)
 |.ret=>some .ret
def Re(ex:Ex)(ro i:Nat)(args:List PV)(H:List Row):Option (Bool×List Row):=
 match I9 H i with
 |some ⟨k,.ready⟩=>
  if decide (ro<=i)&&args.length==k.ps.size then
   match ex ro k.f k.HP (Rd k.S0 k.ps.toList args) H with
   |some (.normal,S1,H1)=>
    match I9 H1 i,IY H1 i .busy with
    |some ⟨_,.ready⟩,some H2=>
     match ex ro k.f k.body S1 H2 with
     |some (x,_,H3)=>
      match MF x with
      |none=>(IY H3 i .ready).map fun H4=>(true,H4)
      |some j=>(IY H3 i (.done j)).map fun H4=>(false,H4)
     |none=>none
    |_,_=>none
   |_=>none
  else none
 |_=>none
def EX(f:FuncId)(S:List PV)(ps:Array Tmp)(HP body:Code):Row:={ es:=[],s:=0,t:=0,bv:=true,live:=false,lp:=some ⟨⟨f,S,ps,HP,body⟩,.ready⟩ }
def Wp(S:List PV)(i:Nat)(H:List Row):Option (PX×List PV×List Row):=
 match I9 H i,IY H i .over with
 |some ⟨_,.ready⟩,some H'=>some (.normal,S,H')
 |some ⟨_,.done .ret⟩,some H'=>some (.ret,S,H')
 |some ⟨_,.done (.exit id)⟩,some H'=>some (.exit id,S,H')
 |_,_=>none
def TJ(P:Program)(E:Env)(ro:Nat)(H:List Row)(f:Operand->PV)(op:Op):Option (PV×List Row):=
 match E.Fz ro H f op with
 |some r=>some r
 |none=>Mn P ro H f op
def Rf{α:Type}(Ec:Nat->List Row->(Operand->PV)->Op->Option α)(ro:Nat)(H:List Row)(f:Operand->PV)(op:Op):Option α:=
 match op with
 |.slice t x lo hi mx=>Ec ro H f (.slice t x lo hi mx)
 |.convert s d x=>Ec ro H f (.convert s d x)
 |.buildSlice t n parts=>Ec ro H f (.buildSlice t n parts)
 |.call c=>match c.callee with |.builtin _=>Ec ro H f (.call c) |_=>none
 |_=>none
def Mo(P:Program)(E:Env)(ex:Ex)(ro:Nat)(S:List PV)(H:List Row)(o:Oper):Option (PV×List Row):=
 match Rf E.Ec ro H (ev S) o.op with
 |some r=>some r
 |none=>
 match GW P H (ev S) o.op with
 |some p=>some (p,H)
 |none=>
  match KB P H (ev S) o.op with
  |some (p,r)=>some (p,H++[r])
  |none=>
   match o.op with
   |.store T a x=>(HA P ro H T (ev S a) (ev S x)).map fun H'=>(.val undef,H')
   |.call c=>
    match c.callee with
    |.builtin .append=>match c.args.toList with | [x,y]=>ES P ro H c (ev S x) (ev S y) |_=>none
    |.value g=>
     match ev S g with
     |.fn (.func k) first cap=>Rb P E ex ro k (first++c.args.toList.map (ev S)++cap) H
     |.Ih i=>(Re ex ro i (c.args.toList.map (ev S)) H).map fun r=>(.val (.bool r.1),r.2)
     |_=>none
    |_=>TJ P E ro H (ev S) o.op
   |_=>TJ P E ro H (ev S) o.op
def HK(P:Program)(E:Env)(ex:Ex)(S:List PV)(H:List Row)(o:Oper):Option (PV×List Row):=
 match GW P H (ev S) o.op with
 |some p=>some (p,H)
 |none=>
  match KB P H (ev S) o.op with
  |some (p,r)=>some (p,H++[r])
  |none=>
   match o.op with
   |.call c=>
    match c.callee with
    |.value g=>match ev S g with |.fn (.func k) first cap=>(Wo P E ex k (first++c.args.toList.map (ev S)++cap) H).map fun p=>(p,H) |_=>none
    |_=>none
   |_=>none
def D6(S:List PV)(d:Option Tmp)(p:PV):List PV:=match d with |some d=>S.set d p |none=>S
def EG(ops:Array Oper)(S:List PV)(o:Oper):Option (Bool×List PV):=
 match o.guard with
 |none=>some (true,S)
 |some (j,want)=>
  match (ops[j]?).bind (·.dst) with
  |none=>some (false,S)
  |some d=>
   match S[d]? with
   |none=>some (false,S)
   |some (.val (.bool t))=>match t with |true=>some (want,S.set d (.val (.bool true))) |false=>some (!want,S.set d (.val (.bool false)))
   |some (.val _)=>some (false,S)
   |some _=>none
def LR(step:List PV->List Row->Oper->Option (PV×List Row))(ops:Array Oper):List Oper->List PV->List Row->Option (List PV×List Row)
 | [],S,H=>some (S,H)
 |o::os,S,H=>
  match EG ops S o with
  |some (true,S1)=>match step S1 H o with |some (p,H1)=>LR step ops os (D6 S1 o.dst p) H1 |none=>none
  |some (false,S1)=>LR step ops os (D6 S1 o.dst (.val undef)) H
  |none=>none
def fQ(acc:List Nat)(o:Oper):Nat:=o.after.toList.foldl (fun s e=>if Region.binds .any e then s ||| 2 ^ e.on ||| acc.getD e.on 0 else s) 0
def DO:List Oper->List Nat->List Nat
 | [],acc=>acc
 |o::os,acc=>DO os (acc++[fQ acc o])
def GF(P:Program)(ops:List Oper):Bool:=
 let m:=DO ops []
 P.follows .mixedOrders&&Region.noSelect ops.toArray &&
 (ops.zipIdx.all fun(o,j)=>o.after.all (fun e=>!Region.binds .any e||decide (e.on<j)) &&
  (ops.zipIdx.all fun(q,i)=>!decide (i<j)||(q.apart ops.toArray o)||(m.getD j 0).testBit i))
def adl(o:Oper):Bool:=match o.op with |.store _ _ _=>true |_=>false
def QB(args:List PV):List Nat:=args.filterMap fun p=>match p with |.ptr i _ _ _=>some i |_=>none
def tZ(args:List PV):List Nat:=args.filterMap fun p=>match p with |.sl i _ _ _=>some i |_=>none
def TK(pure:FuncId->Bool)(f:FuncId)(args:List PV):List Nat:=match pure f with |true=>[] |false=>QB args
def GY(S:List PV)(op:Op):Option (FuncId×List PV):=
 match op with
 |.call c=>
  match c.callee with
  |.value g=>match ev S g with |.fn (.func f) first cap=>some (f,first++c.args.toList.map (ev S)++cap) |_=>none
  |_=>none
 |_=>none
def Ph(S:List PV)(op:Op):Option (Call×Nat×PV×PV):=
 match op with
 |.call c=>
  match c.callee with
  |.builtin .append=>
   match c.args.toList with
   | [x,y]=>match ev S x with |.sl i n 0 len=>some (c,i,.sl i n 0 len,ev S y) |_=>none
   |_=>none
  |_=>none
 |_=>none
def ae6:PV->Bool |.sl _ _ _ _=>true |_=>false
def yx(H:List Row):PV->PV
 |.ptr i _ k _=>match H[i]? with |some r=>(match r.bv with |true=>.any |false=>((r.es.getD k .any).cells.find? ae6).getD .any) |none=>.any
 |_=>.any
def Es(pu:FuncId->Bool)(H:List Row)(S:List PV):List Oper->Nat->List (Bool×List Nat×List Nat)
 | [],_=>[]
 |o::os,h=>
  match o.op with
  |.store _ a _=>(true,QB [ev S a],[])::Es pu H S os h
  |.alloc _=>(false,[h],[])::Es pu H (D6 S o.dst (.ptr h 0 0 0)) os (h+1)
  |.box _ _=>(false,[h],[])::Es pu H (D6 S o.dst (.ptr h 0 0 0)) os (h+1)
  |.buildSlice _ _ _=>(false,[h],[])::Es pu H (D6 S o.dst (.sl h 0 0 0)) os (h+1)
  |.makeSlice _ _ _=>(false,[h],[])::Es pu H (D6 S o.dst .any) os (h+1)
  |.fieldAddr _ x _=>(false,[],[])::Es pu H (D6 S o.dst (ev S x)) os h
  |.indexAddr _ x _=>(false,[],[])::Es pu H (D6 S o.dst (match ev S x with |.sl i n k _=>.ptr i n k 0 |p=>p)) os h
  |.move x=>(false,[],[])::Es pu H (D6 S o.dst (ev S x)) os h
  |.assign x=>(false,[],[])::Es pu H (D6 S o.dst (ev S x)) os h
  |.load _ x=>(false,[],[])::Es pu H (D6 S o.dst (yx H (ev S x))) os h
  |.nilCheck x=>(false,[],[])::Es pu H (D6 S o.dst (ev S x)) os h
  |op=>
   match GY S op with
   |some (f,args)=>(!(TK pu f args).isEmpty,TK pu f args,[])::Es pu H (D6 S o.dst .any) os h
   |none=>
    match Ph S op with
    |some (_,i,_,_)=>(true,[i],[i])::Es pu H (D6 S o.dst (.sl i 0 0 0)) os h
    |none=>(false,[],[])::Es pu H (D6 S o.dst .any) os h
def Gg(W:List (List Nat))(m:List Nat)(n j:Nat):List Nat:=
 (List.range n).flatMap fun i=>match i==j||(m.getD j 0).testBit i||(m.getD i 0).testBit j with |true=>[] |false=>W.getD i []
def yy(r r':Row):Bool:=r.live&&r'.live&&r.s==r'.s&&r.es.length==r'.es.length&&r.nl==r'.nl&&r.t==r'.t&&r.lp.isNone&&r'.lp.isNone
def Wq(K:List Nat)(H H':List Row):Bool:=K.all fun x=>match H[x]?,H'[x]? with |some r,some r'=>yy r r' |_,_=>false
def kill(K:List Nat)(H:List Row):List Row:=H.zipIdx.map fun x=>match K.contains x.2 with |true=>IX x.1 |false=>x.1
def Mp(P:Program)(E:Env)(ex:Ex)(K:List Nat)(S:List PV)(H:List Row)(o:Oper):Option (PV×List Row):=
 match K with
 | []=>HK P E ex S H o
 |k::K=>
  match GW P (kill (k::K) H) (ev S) o.op with
  |some p=>some (p,H)
  |none=>(KB P H (ev S) o.op).map fun x=>(x.1,H++[x.2])
def KY(P:Program)(E:Env)(ex:Ex)(W R K:List Nat)(S:List PV)(H:List Row)(o:Oper):Option (PV×List Row):=
 match Mp P E ex K S (Ei R H) o with
 |some (p,H1)=>
  match H1.drop H.length with
  | []=>some (p,H)
  | [r]=>if W.contains H.length && !R.contains H.length then some (p,H++[r]) else none
  |_=>none
 |none=>none
def Nu(R:List Nat):PV->Bool
 |.sl i _ _ _=>!R.contains i
 |.C9 _ _ _=>true
 |_=>false
def Wr(P:Program)(E:Env)(ex:Ex)(ro:Nat)(W R K G:List Nat)(S:List PV)(H:List Row)(o:Oper):Option (PV×List Row):=
 match o.op with
 |.store T a x=>
  match ev S a with
  |.ptr i n k j=>if W.contains i && !R.contains i then (HA P ro H T (.ptr i n k j) (ev S x)).map fun H'=>(.val undef,H') else none
  |_=>none
 |_=>
  match GY S o.op with
  |some (f,args)=>
   match TK E.pure f args with
   | []=>KY P E ex W R K S H o
   |K=>
    if K.all (fun x=>W.contains x && !R.contains x)&&args.all (Q8 H.length)&&decide (ro<=H.length)&&DF 0 (EN K H) then
     match Iu P E ex ro f args (EN K H) with
     |some (p,H')=>if plain p&&DF 0 (EN K (H'.take H.length))&&Wq K H H' then some (p,Is K H H') else none
     |none=>none
    else none
  |none=>
   match Ph S o.op with
   |some (c,i,x,y)=>if W.contains i && !R.contains i&&G.contains i&&Nu R y then ES P ro H c x y else none
   |none=>KY P E ex W R K S H o
def chainB(op:Op):Bool:=match op with |.call _=>true |.lookup _ _ _ _=>true |.mapUpdate _ _ _ _=>true |.mapEntry _ _ _=>true |.entryStore _ _ _ _=>true |.store _ _ _=>true |.alloc _=>true |.box _ _=>true |.buildSlice _ _ _=>true |.makeSlice _ _ _=>true |_=>false
def GZ(op:Op):Bool:=match op with |.lookup _ _ _ false=>true |_=>false
def TL(op:Op):Bool:=match op with |.mapEntry _ _ _=>true |_=>false
def Ws(sf:Bool)(a b:Op):Bool:=sf&&(GZ a&&(TL b||GZ b)||GZ b&&TL a)
def He(op:Op):Bool:=match op with |.buildSlice _ _ _=>true |_=>false
def pz(sf:Bool)(m:List Nat)(ops:List Oper)(j:Nat)(o:Oper):Bool:=
 sf&&He o.op&&ops.zipIdx.any fun(q,i)=>!Nat.beq i j&&chainB q.op && !(m.getD j 0).testBit i && !(m.getD i 0).testBit j
def Mq(sf:Bool)(m:List Nat)(ops:List Oper):List Bool:=ops.zipIdx.map fun x=>pz sf m ops x.2 x.1
def Wt(P:Program)(f:Operand->PV)(op:Op):Option PV:=
 match KB P [] f op with
 |some (.sl 0 n 0 l,r)=>if r.bv&&r.es.length==n&&l==n then some (.C9 false r.t r.es) else none
 |_=>none
def ma(op:Op):Bool:=match op with |.alloc _=>true |_=>false
def ua(m:List Nat)(ops:List Oper)(j:Nat)(o:Oper):Bool:=ma o.op&&ops.zipIdx.any fun(q,i)=>decide (i<j)&&chainB q.op && !(m.getD j 0).testBit i
def YA(sf:Bool)(m:List Nat)(ops:List Oper):Nat:=match sf with |true=>(ops.zipIdx.findIdx fun(o,j)=>ua m ops j o) |false=>ops.length
def Nv(P:Program)(op:Op):Bool:=
 match op with
 |.alloc T=>(match E8 P T with |some z=>Uw (.val z)&&z.cells.size==P.cellsOf T |none=>false)
 |_=>false
def Wu(m:List Nat)(ops:List Oper)(f:Nat)(a o:Oper)(j:Nat):Bool:=
 Nat.beq j f||(!GZ o.op && !(o.dst==a.dst)&&(!decide (f<j) || !(chainB o.op||(match a.dst with |some d=>(o.looksAt ops.toArray).contains d |none=>false)) ||
  ((m.getD j 0).testBit f&&ops.zipIdx.all fun(q,i)=>!decide (i<f) || !chainB q.op||(m.getD j 0).testBit i)))
def aH(P:Program)(m:List Nat)(ops:List Oper)(f:Nat):Bool:=
 match ops[f]? with
 |some a=>Nv P a.op&&ops.zipIdx.all fun x=>Wu m ops f a x.1 x.2
 |none=>true
def Nw(P:Program)(sf:Bool)(m:List Nat)(ops:List Oper):Bool:=
 aH P m ops (YA sf m ops) &&
 ops.zipIdx.all fun(o,j)=>!chainB o.op||ops.zipIdx.all fun(q,i)=>!decide (i<j) || !chainB q.op||(m.getD j 0).testBit i||Ws sf o.op q.op||(Mq sf m ops).getD j false||(Mq sf m ops).getD i false||Nat.beq j (YA sf m ops)
def yz:PV->List Nat
 |.mp i=>[i]
 |.agg cs=>cs.filterMap fun c=>match c with |.mp i=>some i |_=>none
 |_=>[]
def FB(args:List PV):List Nat:=args.flatMap yz
def Wv(K:List Nat)(h:Nat):PV->Bool
 |.mp i=>K.contains i&&decide (i<h)
 |p=>mlt 0 p
def ub(K:List Nat)(h:Nat):PV->Bool
 |.agg cs=>cs.all (Wv K h)
 |p=>Wv K h p
def YB(K:List Nat)(H H':List Row):Bool:=K.all fun x=>match H[x]?,H'[x]? with |some r,some r'=>!r.live && !r'.live |_,_=>false
def stOp:Op->Option (TypeId×Operand×Operand)
 |.store T a x=>some (T,a,x)
 |_=>none
def UG:Op->Option (Call×Operand×Operand)
 |.call c=>match c.callee with |.builtin .append=>(match c.args.toList with | [x,y]=>some (c,x,y) |_=>none) |_=>none
 |_=>none
def HC(P:Program)(H:List Row):List PV->List Oper->Nat->List (List Nat)
 |_,[],_=>[]
 |S,o::os,h=>
  match o.op with
  |.store _ a _=>QB [ev S a]::HC P H S os h
  |.alloc _=>[]::HC P H (D6 S o.dst (.ptr h 0 0 0)) os (h+1)
  |.box _ _=>[]::HC P H (D6 S o.dst (.ptr h 0 0 0)) os (h+1)
  |.buildSlice _ _ _=>[]::HC P H (D6 S o.dst (.sl h 0 0 0)) os (h+1)
  |op=>
   match Ph S op with
   |some (_,i,_,_)=>[i]::HC P H (D6 S o.dst (.sl i 0 0 0)) os h
   |none=>match GY S op with
   |some (_,args)=>(QB args++tZ args)::HC P H (D6 S o.dst .any) os h
   |none=>match GW P H (ev S) op with |some p=>[]::HC P H (D6 S o.dst p) os h |none=>[]::HC P H (D6 S o.dst .any) os h
def Jm(K:List Nat):Nat->List Row->List Row
 |_,[]=>[]
 |i,r::H=>(bif K.contains i then { es:=[],s:=0,t:=0,bv:=true,live:=false } else r)::Jm K (i+1) H
theorem TM{K:List Nat}:∀{i:Nat} {H:List Row} (x:Nat),(Jm K i H)[x]? = H[x]?.map fun r=>bif K.contains (i+x) then { es:=[],s:=0,t:=0,bv:=true,live:=false } else r
 |_,[],x=>by simp[Jm]
 |i,r::H,0=>by simp[Jm]
 |i,r::H,x+1=>by
  show(Jm K (i+1) H)[x]? = _
  rw[TM x,show i+1+x=i+(x+1) by omega];rfl
theorem Ox{K:List Nat}:∀{i:Nat} {H:List Row},(Jm K i H).length=H.length
 |_,[]=>rfl
 |i,r::H=>by show(Jm K (i+1) H).length+1=_;rw[Ox];rfl
def xu(h0:Nat)(K:List Nat)(i:Nat):Bool:=K.contains i||decide (h0<=i)
def YC(h0:Nat)(x:PV)(H':List Row):Bool:=match x with |.sl i _ _ _=>(match rowAt H' i with |some _=>true |none=>decide (h0<=i)) |_=>true
def yA(h0:Nat)(K:List Nat):PV->Bool |.sl i _ _ _=>xu h0 K i |_=>true
def Kt(P:Program)(E:Env)(ex:Ex)(ro h0:Nat)(K:List Nat)(S:List PV)(H:List Row)(o:Oper):Option (PV×List Row):=
 match stOp o.op with
 |some (T,a,x)=>
  match ev S a with
  |.ptr i n k j=>if xu h0 K i then (HA P ro H T (.ptr i n k j) (ev S x)).map fun H'=>(.val undef,H') else none
  |_=>none
 |none=>
  match GY S o.op with
  |some (f,args)=>
   match E.KC f with
   |true=>
    match GR E f args H with
    |some r=>some (r,H)
    |none=>
    match Iu P E ex ro f args H with
    |some (p,H')=>if GQ (Jm K 0 (H'.take H.length)) (Jm K 0 H) then some (p,H') else none
    |none=>none
   |false=>
   if args.all (ub (FB args) H.length)&&decide (ro<=H.length)&&DF 0 (EN (FB args) H) then
    match Iu P E ex ro f args (EN (FB args) H) with
    |some (p,H')=>if plain p&&DF 0 (EN (FB args) (H'.take H.length))&&YB (FB args) H H' then some (p,Is (FB args) H H') else none
    |none=>none
   else none
  |none=>
   match KB P H (ev S) o.op with
   |some (p,r)=>some (p,H++[r])
   |none=>
    match UG o.op with
    |some (c,x,y)=>if yA h0 K (ev S x) then (match Rf E.Ec ro H (ev S) o.op with |some r=>if YC h0 (ev S x) r.2 then some r else none |none=>ES P ro H c (ev S x) (ev S y)) else none
    |none=>
     match E.Fz ro H (ev S) o.op with
     |some (p,H')=>if H'.length=H.length then some (p,H') else none
     |none=>none
def KZ(sf:Bool)(F:List Bool)(P:Program)(E:Env)(ex:Ex)(ro h0:Nat)(W:List (List Nat))(m:List Nat)(n j:Nat)(S:List PV)(H:List Row)(o:Oper):Option (PV×List Row):=
 match GW P (kill (Gg W m n j) (H.take h0)) (ev S) o.op with
 |some p=>some (p,H)
 |none=>if chainB o.op then (if F.getD j false&&He o.op then (Wt P (ev S) o.op).map (fun p=>(p,H)) else if sf&&GZ o.op then (E.GO H (ev S) o.op).map (fun p=>(p,H)) else Kt P E ex ro h0 (W.getD j []) S H o) else none
def K4(step:Nat->List PV->List Row->Oper->Option (PV×List Row))(ops:Array Oper):Nat->List Oper->List PV->List Row->Option (List PV×List Row)
 |_,[],S,H=>some (S,H)
 |j,o::os,S,H=>
  match EG ops S o with
  |some (true,S1)=>match step j S1 H o with |some (p,H1)=>K4 step ops (j+1) os (D6 S1 o.dst p) H1 |none=>none
  |some (false,S1)=>K4 step ops (j+1) os (D6 S1 o.dst (.val undef)) H
  |none=>none
def Ww(P:Program)(E:Env)(ex:Ex)(S:List PV)(H:List Row)(o:Oper):Option (PV×List Row):=
 match HK P E ex S H o with
 |some (p,H1)=>if H1.length=H.length then some (p,H) else none
 |none=>none
def K5(P:Program)(E:Env)(ex:Ex)(ro pv j:Nat)(S:List PV)(H:List Row)(o:Oper):Option (PV×List Row):=
 if j=pv then Mo P E ex ro S H o else Ww P E ex S H o
def pA:PV->Bool
 |.Ih _=>true
 |_=>false
def yB(ops:List Oper)(S:List PV)(o:Oper):Bool:=
 match o.op with
 |.call c=>
  match c.callee with
  |.builtin .unsafeString=>true
  |.value (.tmp t)=>pA (ev S (.tmp t))||ops.any fun o=>match o.dst,o.op with |some d,.move x=>d==t&&pA (ev S x) |_,_=>false
  |_=>false
 |_=>false
def yC(ops:List Oper)(S:List PV):Option Nat:=ops.findIdx? (yB ops S)
def Rg(p:Option Nat)(ops:List Oper)(S:List PV):Option Nat:=match p with |some j=>some j |none=>yC ops S
def Nx(m:List Nat)(n pv:Nat):Bool:=decide (pv<n)&&(List.range n).all fun j=>j==pv||(m.getD pv 0).testBit j||(m.getD j 0).testBit pv
def mixed(G:List (Bool×List Nat×List Nat)):Bool:=G.any fun x=>x.1
def UH(P:Program)(E:Env)(ex:Ex)(ro:Nat)(W G:List (List Nat))(m:List Nat)(n j:Nat):List PV->List Row->Oper->Option (PV×List Row):=
 Wr P E ex ro (W.getD j []) (Gg W m n j) (Gg G m n j) (G.getD j [])
def Ew:Code->Nat
 |.region id _ _=>id
 |.seq a _=>Ew a
 |.block _ b=>Ew b
 |.loop b=>Ew b
 |.scope b=>Ew b
 |_=>0
def Fh(l:Option (List Tmp))(S:List PV):List PV:=
 match l with
 |some l=>S.zipIdx.map fun(p,i)=>if l.contains i then p else .any
 |none=>S
def Rh:PV->Option (List PV)
 |.agg cs=>some cs
 |.val (.agg a)=>some (a.toList.map .val)
 |_=>none
theorem Wx{e:PV}{cs:List PV}(h:Rh e=some cs):e.cells=cs:=by
 unfold Rh at h;split at h <;> cases h <;> rfl
def UI(ro h:Nat)(H:List Row)(i c:Nat):Option (List Row):=
 match decide (ro<=i),H[i]? with
 |true,some r=>
  match r.live && !r.bv&&(match r.lp with |none=>true |some _=>false),r.es with
  |true,[e]=>
   match Rh e with
   |some cs=>
    match cs[c]? with
    |some (.val (.slice none 0 0))=>some (H.set i { r with es:=[.agg (cs.set c (.sl h 0 0 0))] })
    |_=>none
   |none=>none
  |_,_=>none
 |_,_=>none
def GS(ro:Nat):List (Tmp×TypeId×Nat)->List PV->List Row->List PV×List Row
 | [],S,H=>(S,H)
 |(d,t,s)::l,S,H=>
  match decide (d<1000) with
  |true=>
   match S[d]? with
   |some (.val (.slice none 0 0))=>
    match Nat.beq s 0 with
    |true=>GS ro l (S.set d (.C9 false t [])) H
    |false=>GS ro l (S.set d (.sl H.length 0 0 0)) (H++[{ es:=[],s,t,bv:=true,nl:=true }])
   |_=>GS ro l S H
  |false=>
   match UI ro H.length H ((d-1000) / 100) ((d-1000) % 100) with
   |some H1=>GS ro l S (H1++[{ es:=[],s,t,bv:=true,nl:=true }])
   |none=>GS ro l S H
def Iv(h:Nat)(S:List PV):List PV:=S.map fun p=>if mlt h p then p else .any
def Ny(body:List PV->List Row->Option (PX×List PV×List Row))(live:Option (List Tmp))(ro:Nat):Nat->List PV->List Row->Option (PX×List PV×List Row)
 |0,_,_=>none
 |m+1,S,H=>
  match body (Fh live S) H with
  |some (.normal,S1,H1)=>
   if E5 H.length (Fh live S1)&&decide (H.length<=H1.length)&&DF H.length (H1.take H.length)&&decide (ro<=H.length) then Ny body live ro m (Iv H.length (Fh live S1)) (H1.take H.length)
   else Ny body live ro m (Fh live S1) H1
  |r=>r
def Dt:Row:={ es:=[],s:=0,t:=0,bv:=true,live:=false }
def MG(H:List Row)(h:Nat)(e:PV):PV:=.agg (e.cells.map (frz H h))
def IN(P:Program)(H:List Row)(h:Nat):PV->PV
 |.sl i n k len=>
  match decide (h<=i) with
  |true=>
   match rowAt H i with
   |some r=>
    match !r.bv&&r.es.length==n&&((r.es.drop k).take len).all (fun e=>(e.cells.all fun c=>mlt h (frz H h c))&&wt P r.t (MG H h e)) with
    |true=>.C9 false r.t (((r.es.drop k).take len).map (MG H h))
    |false=>frz H h (.sl i n k len)
   |none=>frz H h (.sl i n k len)
  |false=>frz H h (.sl i n k len)
 |p=>frz H h p
def YD(P:Program)(H:List Row)(h:Nat):PV->PV
 |.ptr i n k j=>
  match decide (h<=i) with
  |true=>
   match rowAt H i with
   |some r=>
    match r.bv&&r.es.length==n&&decide (k<n) with
    |true=>.EF r.t (r.es.getD k .any) j
    |false=>
     match !r.bv&&r.es.length==n&&decide (k<n)&&((r.es.getD k .any).cells.all fun c=>mlt h (frz H h c))&&wt P r.t (MG H h (r.es.getD k .any)) with
     |true=>.EF r.t (MG H h (r.es.getD k .any)) j
     |false=>.any
   |none=>.any
  |false=>.ptr i n k j
 |p=>match mlt h (IN P H h p) with |true=>IN P H h p |false=>.any
def TN(P:Program)(H:List Row)(h:Nat)(e:PV):PV:=.agg (e.cells.map (YD P H h))
def F3(P:Program)(H:List Row)(h:Nat)(r:Row):Row:=
 match r.live with
 |false=>r
 |true=>match r.bv with |true=>r |false=>{ r with es:=r.es.map (TN P H h),bv:=(r.es.map (TN P H h)).all (wt P r.t) }
def fV(h:Nat)(H:List Row):Bool:=H.all fun r=>match r.lp with |some info=>E5 h info.k.S0 |none=>true
def Ku(P:Program)(ro:Nat)(o:Option (Nat×Bool))(S:List PV)(H:List Row):List PV×List Row:=
 match o with
 |none=>(S,H)
 |some (h,false)=>
  match decide (ro<=h)&&decide (h<=H.length)&&DF h (H.take h)&&(H.drop h).all (fun r=>r.lp.isNone) with
  |true=>(S.map (YD P H h),H.take h++List.replicate (H.length-h) Dt)
  |false=>(S,H)
 |some (h,true)=>
  match Nat.beq ro 0&&decide (h<=H.length)&&fV h (H.take h)&&(H.drop h).all (fun r=>r.lp.isNone) with
  |true=>(S.map (YD P H h),(H.take h).map (F3 P H h)++List.replicate (H.length-h) Dt)
  |false=>(S,H)
def forget:List Nat->List PV->List PV
 | [],S=>S
 |k::ks,S=>forget ks (S.set k .any)
def fW(n:Nat):Option (Nat×Bool)->Option (Nat×Bool)
 |some (h,b)=>match Nat.ble 1000 h with |true=>some (n-(h-1000),b) |false=>some (h,b)
 |none=>none
def exec(P:Program)(E:Env):Nat->Ex
 |0=>fun _ _ _ _ _=>none
 |n+1=>fun ro f c S H=>
  match c with
  |.skip=>some (.normal,S,H)
  |.label _=>some (.normal,S,H)
  |.region id ops draw=>
   match Ku P ro (fW H.length (E.drop f id)) (forget (E.di f id) S) H with
   |(S,H)=>
    if draw then
     if GF P ops.toList then
      if E.chain f id then
       if Nw P (E.soft f id) (DO ops.toList []) ops.toList then (K4 (KZ (E.soft f id) (Mq (E.soft f id) (DO ops.toList []) ops.toList) P E (exec P E n) ro H.length (HC P H S ops.toList H.length) (DO ops.toList []) ops.size) ops 0 ops.toList S H).map fun r=>(.normal,r.1,r.2) else none
      else
      match Rg (E.pw f id) ops.toList S with
      |some pv=>
       if Nx (DO ops.toList []) ops.size pv then (K4 (K5 P E (exec P E n) ro pv) ops 0 ops.toList S H).map fun r=>(.normal,r.1,r.2)
       else none
      |none=>
       if mixed (Es E.pure H S ops.toList H.length) then
        (K4 (UH P E (exec P E n) ro ((Es E.pure H S ops.toList H.length).map fun x=>x.2.1) ((Es E.pure H S ops.toList H.length).map fun x=>x.2.2) (DO ops.toList []) ops.size) ops 0 ops.toList S H).map fun r=>(.normal,r.1,r.2)
       else (LR (HK P E (exec P E n)) ops ops.toList S H).map fun r=>(.normal,r.1,r.2)
     else none
    else (LR (Mo P E (exec P E n) ro) ops ops.toList S H).map fun r=>(.normal,r.1,r.2)
  |.seq a b=>
   match exec P E n ro f a S H with
   |some (.normal,S1,H1)=>exec P E n ro f b S1 H1
   |r=>r
  |.cond c x y=>
   match ev S c with
   |.val (.bool t)=>match t with |true=>exec P E n ro f x S H |false=>exec P E n ro f y S H
   |_=>none
  |.block id b=>
   match exec P E n ro f b S H with
   |some (.exit i,S1,H1)=>if i=id then some (.normal,S1,H1) else some (.exit i,S1,H1)
   |r=>r
  |.loop b=>
   match E.lo f ro (Ew b) (Fh (E.live f (Ew b)) (GS ro (E.KX f (Ew b)) S H).1) (GS ro (E.KX f (Ew b)) S H).2 with
   |some r=>some r
   |none=>Ny (exec P E n ro f b) (E.live f (Ew b)) ro n (GS ro (E.KX f (Ew b)) S H).1 (GS ro (E.KX f (Ew b)) S H).2
  |.scope b=>exec P E n ro f b S H
  |.exit id=>some (.exit id,S,H)
  |.ret=>some (.ret,S,H)
  |.rangeFunc g ps HP body=>
   match ev (Fh (E.live f (Ew HP)) S) g with
   |.fn (.func k) first cap=>
    match Iu P E (exec P E n) ro k (first++[.Ih H.length]++cap) (H++[EX f (Fh (E.live f (Ew HP)) S) ps HP body]) with
    |some (_,H2)=>Wp (Fh (E.live f (Ew HP)) S) H.length H2
    |none=>none
   |_=>none
  |_=>none
structure Qt(w w':World):Prop where
 os:w'.os=w.os
 tape:w'.tape=w.tape
 output:w'.output=w.output
 size:w'.heap.size=w.heap.size
 block:∀(b:Nat) o,w.heap[b]? = some o->(∀ d,o≠.deferred d)->w'.heap[b]? = some o
theorem Qt.refl(w:World):Qt w w:=⟨rfl,rfl,rfl,rfl,fun _ _ h _=>h⟩
theorem Qt.trans{a b c:World}(h:Qt a b)(k:Qt b c):Qt a c:=
 ⟨k.os.trans h.os,k.tape.trans h.tape,k.output.trans h.output,k.size.trans h.size,fun x o hx hd=>k.block x o (h.block x o hx hd) hd⟩
theorem Qt.put{w:World}{r:Nat}{d d':Option (List Deferred)}(h:w.heap[r]? = some (.deferred d)):Qt w (w.putObj r (.deferred d')):=
 ⟨rfl,rfl,rfl,by simp,fun b o hb hd=>by
  have hne:b≠r:=fun e=>by subst e;rw[h]at hb;cases hb;exact hd _ rfl
  rw[World.putObj_heap_other hne];exact hb⟩
theorem Qt.cell{w w':World}(h:Qt w w'){b x:Nat}{v:Value}(hc:w.cell? ⟨b,x,none⟩=some v):w'.cell? ⟨b,x,none⟩=some v:=by
 simp only[World.cell?]at hc ⊢;split at hc
 ·rename_i c e fr hb;rw[h.block b _ hb (fun d=>by simp)];exact hc
 ·cases hc
theorem E4.qt{w':World}(h:Qt C.w w'){i k cap:Nat}{r:Row}{a:Option Addr}(hh:E4 C i r k a cap):E4 (C.at w') i r k a cap:=by
 unfold E4 at *;split at hh
 ·rename_i hn;rw[Ak hn];exact hh
 ·rename_i hn;rw[Aq hn];obtain⟨b,h0,h1,c,e,fr,h2,h3⟩:=hh;exact⟨b,h0,h1,c,e,fr,h.block b _ h2 (fun d=>by simp),h3⟩
theorem RV.qt{w':World}(h:Qt C.w w'){p:PV}{V:Value}(hv:RV P C p V):RV P (C.at w') p V:=by
 induction hv with
 |any=>exact .any
 |val=>exact .val
 |ptr hV hk hi hn hh=>exact .ptr hV hk hi hn hh
 |EF cv hb hlt hc hr ht ih=>exact .EF cv hb (by show _<w'.heap.size;rw[h.size];exact hlt) (fun x p hx=>h.cell (hc x p hx)) ih ht
 |sl hV hi hn hh=>
  refine .sl hV hi hn fun r' hr' hl=>?_
  obtain⟨hk,a,cap,hV,hc,hs⟩:=hh r' hr' hl;exact⟨hk,a,cap,hV,hc,hs.qt h⟩
 |C9 b off cv hcap hfull ha hc hr ht ih=>
  refine .C9 b off cv hcap hfull (fun h0=>?_) (fun x e j p hx hj=>h.cell (hc x e j p hx hj)) ih ht;obtain⟨h1,h2,h3⟩:=ha h0;exact⟨h1,h2,by show _<w'.heap.size;rw[h.size];exact h3⟩
 |agg hs _ ih=>exact .agg hs ih
 |El hs _ ih=>exact .El hs ih
 |fn h1 h2 _ _ ih3 ih4=>exact .fn h1 h2 ih3 ih4
 |Kp _ ih=>exact .Kp ih
 |Ih hi hl hb=>exact .Ih hi hl hb
 |mp hi hl hb=>exact .mp hi hl hb
 |gv hb hlt hc hV=>exact .gv hb (by show _<w'.heap.size;rw[h.size];exact hlt) (h.cell hc) hV
 |bad hb=>exact .bad (fh.tr (C:=C) (C':=C.at w') (fun x v h1 h2 h3=>⟨h1,by show _<w'.heap.size;rw[h.size];exact h2,h.cell h3⟩) hb)
 |Lx hp _ ih=>exact .Lx hp ih
theorem FV.qt{w':World}(h:Qt C.w w'){S:List PV}{t:Array Value}(hs:FV P C S t):FV P (C.at w') S t:=
 ⟨hs.1,fun i p v h1 h2=>(hs.2 i p v h1 h2).qt h⟩
theorem RH.qt{w':World}(h:Qt C.w w')(hR:RH P C):RH P (C.at w'):=by
 refine⟨hR.inj,hR.Ly,fun i b r h1 h2=>?_,hR.ro,hR.IU,fun b hb=>by show b<w'.heap.size;rw[h.size];exact hR.Kq b hb,fun i b r info h1 h2 h3 h4=>?_,fun g hl=>?_⟩
 ·obtain⟨sz,⟨c,fr,cv,m1,m2,m3,m4⟩,l,t⟩:=hR.GP i b r h1 h2;exact⟨sz,⟨c,fr,cv,h.block b _ m1 (fun d=>by simp),m2,m3,fun k e j p hk hj=>⟨(m4 k e j p hk hj).1,(m4 k e j p hk hj).2.qt h⟩⟩,l,t⟩
 ·refine(hR.Ii i b r info h1 h2 h3 h4).via (fun _ _ _ hv=>hv.qt h) (fun _ hs=>hs.qt h) (fun hl=>?_) (fun o ho h'=>h.block b _ h' (fun d hd=>by rw[hd]at ho;cases ho));obtain⟨⟨rec,m1,m2,m3,m4,m5,m6⟩,ha,hb⟩:=hl;exact⟨⟨rec,h.block b _ m1 (fun d=>by simp),m2,m3,m4,m5.qt h,m6⟩,ha,hb⟩
 ·obtain⟨g1,g2,t,a,g3,g4⟩:=hR.LQ g hl;exact⟨g1,by show g<w'.heap.size;rw[h.size];exact g2,t,a,h.cell g3,g4⟩
theorem RH.yD(hR:RH P C){b:Nat}{d:Option (List Deferred)}(h:C.w.heap[b]? = some (.deferred d)):¬C.has b:=by
 rintro⟨i,hi⟩
 rcases hR.Ly i b hi with ⟨r,hr⟩ |⟨r,info,h1,h2,h3⟩
 ·obtain⟨c,fr,cv,hh,_⟩:=(hR.GP i b r hi hr).mem;rw[h]at hh;cases hh
 ·rcases(hR.Ii i b r info hi h1 h2 h3).obj with ⟨rec,hh⟩ |⟨es,c,hh⟩
  ·rw[h]at hh;cases hh
  ·rw[h]at hh;cases hh;cases c
def mk(r:Nat):Deferred:={ target:=.collected r,args:=#[] }
def LU(w:World)(a:Act)(w':World)(a':Act):Prop:=
 ∃ rs:List Nat,rs.Nodup/\a'.defers=rs.map mk++a.defers/\∀ r,r∈rs->w.heap.size<=r/\w'.heap[r]? = some (.deferred (some []))
theorem LU.of_eq{w w':World}{a a':Act}(h:a'.defers=a.defers):LU w a w' a':=⟨[],List.nodup_nil,by simpa using h,fun _ h=>by cases h⟩
theorem LU.lt{w:World}{r:Nat}{o:Obj}(h:w.heap[r]? = some o):r<w.heap.size:=(At.1 h).1
theorem LU.next{w:World}{C C':Ctx}{a a':Act}(h:LU w a C.w a')(hR:RH P C)(hx:Ext C C'):LU w a C'.w a':=by
 obtain⟨rs,h1,h2,h3⟩:=h;refine⟨rs,h1,h2,fun r hr=>⟨(h3 r hr).1,?_⟩⟩;rw[hx.block r (LU.lt (h3 r hr).2) (fun ho=>hR.yD (h3 r hr).2 ho.has)];exact(h3 r hr).2
theorem LU.trans{w:World}{C C':Ctx}{a a' a'':Act}(h:LU w a C.w a')(hsz:w.heap.size<=C.w.heap.size)(hR:RH P C)(hx:Ext C C')(k:LU C.w a' C'.w a''):LU w a C'.w a'':=by
 obtain⟨rs,h1,h2,h3⟩:=h.next hR hx
 obtain⟨qs,k1,k2,k3⟩:=k;obtain⟨rs0,_,e0,h30⟩:=h;have hrs:rs=rs0:=by
  have h4:=h2.symm.trans e0;have h5:=List.append_cancel_right h4;have inj:∀(a b:List Nat),a.map mk=b.map mk->a=b:=by
   intro a;induction a with
   |nil=>intro b hb;cases b with |nil=>rfl |cons=>simp at hb
   |cons x a ih=>intro b hb;cases b with |nil=>simp at hb |cons y b=>simp[mk]at hb;rw[hb.1,ih b (by simpa [mk] using hb.2)]
  exact inj _ _ h5
 subst hrs;refine⟨qs++rs,?_,by rw[k2,h2];simp,fun r hr=>?_⟩
 ·rw[CX];refine⟨k1,h1,fun x hx y hy e=>?_⟩;subst e;have:=LU.lt (h30 x hy).2;have:=(k3 x hx).1;omega
 ·rcases A3.1 hr with hr |hr
  ·exact⟨Bc hsz (k3 r hr).1,(k3 r hr).2⟩
  ·exact h3 r hr
def FE(r:Option Nat)(w:World):Prop:=∀ l,r=some l->∃ rec,w.heap[l]? = some (.loop rec)
theorem FE.mono{r:Option Nat}{C C':Ctx}(h:FE r C.w)(hx:Ext C C'):FE r C'.w:=fun l hl=>
 let ⟨rec,hr⟩:=h l hl;hx.loop l rec hr
theorem FE.none(w:World):FE none w:=fun _ h=>by cases h
theorem Ext.qt{C C':Ctx}{w':World}(h:Ext C C')(hq:Qt C'.w w')(hb:∀(b:Nat),b<C.w.heap.size->w'.heap[b]? = C'.w.heap[b]?):Ext C (C'.at w') where
 os:=hq.os.trans h.os
 tape:=hq.tape.trans h.tape
 output:=hq.output.trans h.output
 size:=by show _<=w'.heap.size;rw[hq.size];exact h.size
 block b hlt ho:=(hb b hlt).trans (h.block b hlt ho)
 shape b c e fr hh:=by
  obtain⟨c',fr',h1,h2⟩:=h.shape b c e fr hh;exact⟨c',fr',hq.block b _ h1 (fun d=>by simp),h2⟩
 len:=h.len
 rows:=h.rows
 fresh:=h.fresh
 D8:=h.D8
 fo:=h.fo
 ro:=h.ro
 low:=h.low
 lp:=h.lp
 loop b rec hh:=by
  obtain⟨rec',h1⟩:=h.loop b rec hh;exact⟨rec',hq.block b _ h1 (fun d=>by simp)⟩
theorem Nz{F:Fence}{n:Nat}{P:Program}{fn:Func}{tmps:Array Value}{R:Ending->World->Prop}:∀(rs:List Nat) (w:World),rs.Nodup->(∀ r∈rs,w.heap[r]? = some (.deferred (some []))) ->
  (∀ w',Qt w w'->(∀(b:Nat),b∉rs->w'.heap[b]? = w.heap[b]?)->∃ v,(results fn tmps).run P w'=.ok v w'/\R (.returned v) w')->LeavesInM F n P fn tmps R (rs.map mk) .returning w
 | [],w,_,_,h=>h w (.refl w) (fun _ _=>rfl)
 |r::rs,w,hn,hd,h=>by
  have hr:=hd r (by simp);have hn':=Ca.1 hn;refine⟨by simp,.inl ⟨r,_,rfl,run_takeDeferred hr,Nz rs _ hn'.2 (fun q hq=>?_) fun w' hw hb=>h w' ((Qt.put hr).trans hw) fun b hb'=>?_⟩⟩
  ·have hne:q≠r:=fun e=>hn'.1 (e▸hq)
   rw[World.putObj_heap_other hne];exact hd q (by simp[hq])
  ·have hb2:b∉rs:=fun h=>hb' (by simp[h])
   have hne:b≠r:=fun e=>hb' (by simp[e])
   rw[hb b hb2,World.putObj_heap_other hne]
theorem K6{H:List Row}{i:Nat}{info:FD}(h:I9 H i=some info):∃ r,H[i]? = some r/\r.lp=some info/\r.live=false:=by
 unfold I9 at h;split at h
 ·rename_i r hr;split at h
  ·rename_i hl;exact⟨r,hr,h,hl⟩
  ·cases h
 ·cases h
theorem YE{H H':List Row}{i:Nat}{st:aj}(h:IY H i st=some H'):∃ r info,H[i]? = some r/\r.lp=some info/\r.live=false/\H'=H.set i { r with lp:=some ⟨info.k,st⟩ }:=by
 unfold IY at h;split at h
 ·rename_i r hr;split at h
  ·rename_i info hl hp;cases h;exact⟨r,info,hr,hp,hl,rfl⟩
  ·cases h
 ·cases h
def StB(st:aj)(rec:Loop):Prop:=
 match st with |.ready=>rec.state=.ready/\rec.pending=none |.busy=>rec.state=.busy |.done j=>rec.state=.done/\rec.pending=some j |.over=>True |.map _ _ _=>False |.Gy _ _ _=>False |.iter _=>False
def Ctx.Pj(C:Ctx)(b:Nat)(rec:Loop)(H':List Row):Ctx:={ C with H:=H',w:=C.w.putObj b (.loop rec) }
theorem K7(hR:RH P C){i b:Nat}{st:aj}{H':List Row}(h:IY C.H i st=some H')(hρ:C.ρ i=some b)(hro:C.ro<=i){rec rec':Loop}(hrec:C.w.heap[b]? = some (.loop rec))
  (h1:rec'.params=rec.params) (h2:rec'.assign=rec.assign) (h3:rec'.body=rec.body) (h4:rec'.tmps=rec.tmps) (h5:StB st rec'):Ext C (C.Pj b rec' H')/\RH P (C.Pj b rec' H'):=by
 obtain⟨r,info,g1,g2,g3,rfl⟩:=YE h;have hi:i<C.H.length:=(Ad.1 g1).1;have hblt:b<C.w.heap.size:=hR.lt hρ;have hb':∀(x:Nat),x≠b->(C.w.putObj b (.loop rec')).heap[x]? = C.w.heap[x]?:=fun x hx=>World.putObj_heap_other hx
 have hrowi:C.row? i=none:=by unfold Ctx.row? rowAt;rw[g1];simp[g3]
 have hrow:∀ x,rowAt (C.H.set i { r with lp:=some ⟨info.k,st⟩ }) x=C.row? x:=by
  intro x;unfold rowAt;rw[Ax];by_cases hx:i=x
  ·subst hx;simp only[BV,hi,g3,A4,Cd,hrowi]
  ·rw[Aq hx];rfl
 have hx:Ext C (C.Pj b rec' (C.H.set i { r with lp:=some ⟨info.k,st⟩ })):=by
  refine⟨rfl,rfl,rfl,by simp[Ctx.Pj],fun x hx ho=>hb' x (fun e=>ho ⟨i,hro,e▸hρ⟩),fun x c e fr hh=>?_,by simp[Ctx.Pj],fun x r' _ hr=>⟨r',by rw[<- hr];exact(hrow x).symm,rfl,rfl,Al _,fun _=>⟨rfl,fun _ h=>h⟩⟩,fun _ h=>.inl h,fun _ h=>.inl h,rfl,rfl,fun x hx=>⟨?_,rfl⟩,fun x q info' q1 q2 q3=>⟨?_,fun _ h=>h⟩,fun x rc hh=>?_⟩
  ·have hne:x≠b:=fun e=>by subst e;rw[hrec]at hh;cases hh
   exact⟨c,fr,by rw[<- hh];exact hb' x hne,rfl⟩
  ·show(C.H.set i _)[x]? = _
   rw[Ax,Aq (by omega)]
  ·show ∃ r' st,(C.H.set i _)[x]? = some r'/\_
   by_cases hxi:i=x
   ·subst hxi;rw[g1]at q1;cases q1;rw[g2]at q2;cases q2;exact⟨{ r with lp:=some ⟨info.k,st⟩ },st,by rw[Ax,Ak rfl,Ak hi],rfl,g3⟩
   ·exact⟨q,info'.st,by rw[Ax,Aq hxi];exact q1,q2,q3⟩
  ·by_cases hxb:x=b
   ·subst hxb;exact⟨rec',World.putObj_heap_same hblt⟩
   ·exact⟨rc,by rw[<- hh];exact hb' x hxb⟩
 refine⟨hx,hR.inj,fun x c hx'=>?_,fun x c q q1 q2=>?_,by simpa [Ctx.Pj] using hR.ro,hR.IU,fun x hx'=>by simpa [Ctx.Pj] using hR.Kq x hx',fun x c q info' q1 q2 q3 q4=>?_,hR.LQ.mono hx⟩
 ·rcases hR.Ly x c hx' with ⟨q,hq⟩ |⟨q,info',q1,q2,q3⟩
  ·exact .inl ⟨q,by rw[<- hq];exact hrow x⟩
  ·obtain⟨⟨q',st',z1,z2,z3⟩,_⟩:=hx.lp x q info' q1 q2 q3;exact .inr ⟨q',_,z1,z2,z3⟩
 ·have q2':C.row? x=some q:=by rw[<- q2];exact(hrow x).symm
  have hB:=hR.GP x c q q1 q2';have hne:c≠b:=fun e=>by
   subst e;obtain⟨cc,fr,cv,hh,_⟩:=hB.mem;rw[hrec]at hh;cases hh
  exact hB.mono hx (hb' c hne)
 ·have hq2:(C.H.set i { r with lp:=some ⟨info.k,st⟩ })[x]? = some q:=q2;rw[Ax]at hq2;by_cases hxi:i=x
  ·subst hxi;rw[Ak rfl,Ak hi]at hq2;cases hq2;cases q3;have hcb:c=b:=Ah ((show C.ρ i=some c from q1).symm.trans hρ);subst hcb;obtain⟨⟨rec0,m1,m2,m3,m4,m5,m6⟩,ha,hbd⟩:=(hR.Ii i c r info hρ g1 g2 g3).po hrec;rw[hrec]at m1;cases m1;refine⟨fun _=>⟨⟨rec',World.putObj_heap_same hblt,h1.trans m2,h2.trans m3,h3.trans m4,by rw[h4];exact m5.mono hx,?_⟩,ha,hbd⟩,fun K E D he=>?_,fun K E D he=>?_,fun s he=>?_⟩
   ·unfold StB at h5;cases st <;> first |exact h5 |exact h5.elim
   ·dsimp only at he;subst he;exact h5.elim
   ·dsimp only at he;subst he;exact h5.elim
   ·dsimp only at he;subst he;exact h5.elim
  ·rw[Aq hxi]at hq2;have hL:=hR.Ii x c q info' q1 hq2 q3 q4;have hne:c≠b:=fun e=>hxi (hR.inj i x b hρ (e▸q1))
   exact hL.mono hx (hb' c hne)
theorem Pk{P:Program}{C:Ctx}:∀(ps:List Tmp) (args:List PV) (Vs:List Value) (S:List PV) (t:Array Value),FV P C S t->args.length=Vs.length->(∀(j:Nat) c v,args[j]? = some c->Vs[j]? = some v->RV P C c v) ->
  FV P C (Rd S ps args) ((ps.zip Vs).foldl (fun t x=>t.setIfInBounds x.1 x.2) t)
 | [],_,_,S,t,h,_,_=>by simpa [Rd] using h
 |p::ps,[],[],S,t,h,_,_=>by simpa [Rd] using h
 |p::ps,[],_::_,S,t,h,hl,_=>by simp at hl
 |p::ps,_::_,[],S,t,h,hl,_=>by simp at hl
 |p::ps,c::args,v::Vs,S,t,h,hl,hv=>by
  have h1:FV P C (S.set p c) (t.setIfInBounds p v):=by
   have:=FV.put (a:={ tmps:=t,defers:=[] }) h (d:=some p) (hv 0 c v rfl rfl);exact this
  have:=Pk ps args Vs (S.set p c) (t.setIfInBounds p v) h1 (by simpa using hl) (fun j c' v' a b=>hv (j+1) c' v' (by simpa using a) (by simpa using b));simpa [Rd] using this
theorem Ri(hR:RH P C){f:FuncId}{S:List PV}{ps:Array Tmp}{HP body:Code}{rec:Loop}(h1:rec.params=ps)(h2:rec.assign=HP)(h3:rec.body=body)(h4:FV P C S rec.tmps)(h5:rec.state=.ready)(h6:rec.pending=none)
  (ha:EB P f HP) (hb:EB P f body):
  Ext C ((C.more (EX f S ps HP body)).bind C.H.length (.loop rec))/\RH P ((C.more (EX f S ps HP body)).bind C.H.length (.loop rec)):=by
 have hx1:=E9 hR (EX f S ps HP body);have hR1:=Hb hR (EX f S ps HP body);have hn:(C.more (EX f S ps HP body)).ρ C.H.length=none:=hR.GC (Al _);have hx2:=Ctx.Gz (C:=C.more (EX f S ps HP body)) hn hR.ro (.loop rec);have hrow:(C.H++[EX f S ps HP body])[C.H.length]? = some (EX f S ps HP body):=by simp
 refine⟨hx1.trans hx2,fun x y b hx hy=>?_,fun x b hx=>?_,fun x b r' g1 g2=>?_,hR1.ro,fun x b hx=>?_,fun b hb=>AA (hR1.Kq b hb) hx2.size,fun x b r' info g1 g2 g3 g4=>?_,hR1.LQ.mono hx2⟩
 ·simp only[Ctx.bind]at hx hy;split at hx <;> split at hy
  ·omega
  ·cases hx;have:=hR1.lt hy;exact absurd this (by simp[Ctx.more])
  ·cases hy;have:=hR1.lt hx;exact absurd this (by simp[Ctx.more])
  ·exact hR1.inj x y b hx hy
 ·simp only[Ctx.bind]at hx;split at hx
  ·rename_i e;subst e;exact .inr ⟨_,_,hrow,rfl,rfl⟩
  ·exact hR1.Ly x b hx
 ·simp only[Ctx.bind]at g1;split at g1
  ·rename_i e;subst e;have:(C.more (EX f S ps HP body)).row? C.H.length=none:=by unfold Ctx.row? rowAt;rw[show(C.more (EX f S ps HP body)).H[C.H.length]? = _ from hrow];rfl
   rw[show(C.more (EX f S ps HP body)).row? C.H.length=some r' from g2]at this;cases this
  ·have hb:=hR1.GP x b r' g1 g2;exact hb.mono hx2 (AY C.w _ hb.lt)
 ·simp only[Ctx.bind]at hx ⊢;split at hx
  ·cases hx;exact fun hf=>Di _ (hR.Kq _ hf)
  ·exact hR1.IU x b hx
 ·simp only[Ctx.bind]at g1;split at g1
  ·rename_i e;subst e;cases g1;have g2':(C.H++[EX f S ps HP body])[C.H.length]? = some r':=g2;rw[hrow]at g2';cases g2';cases g3;exact⟨fun _=>⟨⟨rec,heap_alloc_new C.w _,h1,h2,h3,h4.mono (hx1.trans hx2),h5,h6⟩,ha,hb⟩,fun K E D he=>(by cases he),fun K E D he=>(by cases he),fun s he=>(by cases he)⟩
  ·have hL:=hR1.Ii x b r' info g1 g2 g3 g4;exact hL.mono hx2 (AY C.w _ hL.lt)
def uc:PX->Exit
 |.normal=>.normal
 |.exit id=>.exit id
 |.ret=>.ret
def Fr(r:Option Nat):Fence:={ Fence.wide with round:=r }
theorem Rj{r:Option Nat}{n:Nat}{f:FuncId}{args:Array Value}{w:World}{R:Ending->World->Prop}:CallsIn (Fr r) n P f args w R ↔ Calls P f args w R:=
 callsIn_wide (n:=n)
theorem Gi{r:Option Nat}{o:Oper}{ρ:Operand->Value}{w w':World}{x:Next}(h:(execOp ρ o).run P w=.ok x w')(hx:∀ d,x≠.defer d):(o.semAt r ρ).run P w=.ok x w':=by
 by_cases hd:∃ c,o.op=.defer c
 ·obtain⟨c,hc⟩:=hd;exfalso
  unfold execOp at h;simp only[hc]at h;simp only[Sem.run_bind]at h
  revert h
  cases hr:(resolve ρ c o.type).run P w with
  |ok d w2=>simp only[Result.andThen_ok,Sem.run_pure];intro h;cases h;exact hx _ rfl
  |halt y w2=>simp[Result.andThen]
 ·rw[Oper.semAt_eq r ρ o fun c hc=>hd ⟨c,hc⟩];exact h
def ET(P:Program)(c:Code)(ro:Nat)(S:List PV)(H:List Row)(x:PX)(S':List PV)(H':List Row):Prop:=
 ∀(r:Option Nat) (C:Ctx) (a:Act),C.H=H->C.ro=ro->RH P C->FV P C S a.tmps->FE r C.w->∀ Q:Exit->Act->World->Prop,
  (∀(a':Act) (C':Ctx),LU C.w a C'.w a'->C'.H=H'->Ext C C'->RH P C'->FV P C' S' a'.tmps->Q (uc x) a' C'.w)->c.wpIn (Fr r) 0 P Q a C.w
def Dr(P:Program)(k:FuncId)(args:List PV)(r:PV):Prop:=
 ∀(C:Ctx),RH P C->∀ Vs:Array Value,Cs P C args Vs->Calls P k Vs C.w fun e w'=>∃ V,e=.returned V/\I8 C.w w'/\RV P (C.at w') r V
def Gv(P:Program)(E:Env)(f:FuncId):Code->Prop
 |.seq a b=>Gv P E f a/\Gv P E f b
 |.cond _ x y=>Gv P E f x/\Gv P E f y
 |.block _ b=>Gv P E f b
 |.scope b=>Gv P E f b
 |.loop b=>(∀ ro S H x S' H',E.lo f ro (Ew b) S H=some (x,S',H')->ET P (.loop b) ro S H x S' H')/\Gv P E f b
 |.rangeFunc _ _ a b=>Gv P E f a/\Gv P E f b
 |_=>True
def Dd(P:Program)(k:FuncId):Prop:=∀ Vs w,(callFunc k Vs).run P w=.ok (.enter k Vs) w
structure HE(P:Program)(C C':Ctx)(H':List Row)(p:PV)(V:Value):Prop where
 H:C'.H=H'
 ext:Ext C C'
 rh:RH P C'
 rv:RV P C' p V
def Fa(P:Program)(ro:Nat)(k:FuncId)(args:List PV)(H:List Row)(p:PV)(H':List Row):Prop:=
 ∀(C:Ctx),C.H=H->C.ro=ro->RH P C->∀ Vs:Array Value,Cs P C args Vs->Calls P k Vs C.w fun e w'=>∃ V C',e=.returned V/\C'.w=w'/\HE P C C' H' p V
def Wy(P:Program)(ro:Nat)(H:List Row)(f:Operand->PV)(op:Op)(p:PV)(H':List Row):Prop:=
 ∀(C:Ctx) (g:Operand->Value) (o:Oper),o.op=op->C.ro=ro->C.H=H->RH P C->(∀ x∈op.operands,RV P C (f x) (g x))->∃ n v C',(execOp g o).run P C.w=.ok n C'.w/\(n=.value v\/(n=.skip/\v=undef))/\I7 P C C' H'/\RV P C' p v
def ae8(P:Program)(H:List Row)(f:Operand->PV)(op:Op)(p:PV):Prop:=
 ∀(C:Ctx) (g:Operand->Value) (o:Oper),o.op=op->C.H=H->RH P C->(∀ x∈op.operands,RV P C (f x) (g x))->∃ v,(execOp g o).run P C.w=.ok (.value v) C.w/\RV P C p v
def ud(H:List Row)(f:Operand->PV)(op:Op)(H':List Row):Prop:=
 ∀ c x y,UG op=some (c,x,y)->H.length<=H'.length/\∀ z,z<H.length->(∀ i n k l,f x=.sl i n k l->z≠i/\(rowAt H' i=none->z<i))->rowAt H' z=rowAt H z
theorem ud.pD{H H':List Row}{f:Operand->PV}{op:Op}(h:UG op=none):ud H f op H':=fun c x y e=>by rw[h]at e;cases e
theorem ud.same{H:List Row}{f:Operand->PV}{op:Op}:ud H f op H:=fun _ _ _ _=>⟨Al _,fun _ _ _=>rfl⟩
structure CG(P:Program)(E:Env):Prop where
 H9:∀ k args r,E.FI k args=some r->Dd P k
 Hc:∀ ro k args H p H',E.Hc ro k args H=some (p,H')->Dd P k/\Fa P ro k args H p H'
 FI:∀ k args r,E.FI k args=some r->Dr P k args r
 lo:∀ k fn b,P.funcs[k]? = some fn->fn.body=some b->Gv P E k b
 Fz:∀ ro H f op p H',E.Fz ro H f op=some (p,H')->Wy P ro H f op p H'/\∀ x,rowAt H' x=rowAt H x
 Ec:∀ ro H f op p H',E.Ec ro H f op=some (p,H')->Wy P ro H f op p H'/\ud H f op H'
 GO:∀ H f op p,E.GO H f op=some p->ae8 P H f op p
 EY:∀ ro H f T x k p H',E.Fz ro H f (.mapEntry T x k)=some (p,H')->∀ g op q,E.GO H g op=some q ↔ E.GO H' g op=some q
theorem MH{E:Env}(hE:CG P E){ro:Nat}{H:List Row}{f:Operand->PV}{op:Op}{p:PV}{H':List Row}(h:Rf E.Ec ro H f op=some (p,H')):Wy P ro H f op p H'/\ud H f op H':=by
 unfold Rf at h;split at h
 ·exact hE.Ec _ _ _ _ _ _ h
 ·exact hE.Ec _ _ _ _ _ _ h
 ·exact hE.Ec _ _ _ _ _ _ h
 ·split at h
  ·exact hE.Ec _ _ _ _ _ _ h
  ·cases h
 ·cases h
theorem Pm{E:Env}(hE:CG P E){f:Operand->PV}{g:Operand->Value}{o:Oper}{p:PV}{H':List Row}(hR:RH P C){ro:Nat}(hro:C.ro=ro)(hv:∀ x∈o.op.operands,RV P C (f x) (g x))(h:TJ P E ro C.H f o.op=some (p,H')):
  ∃ n v C',(execOp g o).run P C.w=.ok n C'.w/\(n=.value v\/(n=.skip/\v=undef))/\I7 P C C' H'/\RV P C' p v:=by
 subst hro;unfold TJ at h;split at h
 ·rename_i r hr;cases h;exact(hE.Fz _ _ _ _ _ _ hr).1 C g o rfl rfl rfl hR hv
 ·obtain⟨v,C',h1,h2,h3⟩:=Wn hR hv h;exact⟨_,v,C',h1,.inl rfl,h2,h3⟩
theorem Gv.sub{E:Env}{f:FuncId}{c b:Code}(h:GV c b):Gv P E f b->Gv P E f c:=by
 induction h with
 |here=>exact id
 |seq1 _ ih=>exact fun h=>ih h.1
 |V0 _ ih=>exact fun h=>ih h.2
 |V1 _ ih=>exact fun h=>ih h.1
 |V2 _ ih=>exact fun h=>ih h.2
 |block _ ih=>exact fun h=>ih h
 |loop _ ih=>exact fun h=>ih h.2
 |scope _ ih=>exact fun h=>ih h
 |Ol _ ih=>exact fun h=>ih h.1
 |Om _ ih=>exact fun h=>ih h.2
theorem CG.loh{E:Env}(hE:CG P E){f:FuncId}{c:Code}(h:EB P f c):Gv P E f c:=
 let ⟨fn,b,h1,h2,h3⟩:=h; Gv.sub h3 (hE.lo f fn b h1 h2)
theorem EB.sub{f:FuncId}{c d:Code}(h:EB P f c)(k:GV d c):EB P f d:=
 let ⟨fn,b,h1,h2,h3⟩:=h; ⟨fn,b,h1,h2,k.trans h3⟩
def Ej(P:Program)(_E:Env)(ex:Ex):Prop:=
 ∀ ro f c S H x S' H',ex ro f c S H=some (x,S',H')->EB P f c->ET P c ro S H x S' H'
theorem mb(hR:RH P C){h ro:Nat}(hh:h<=C.H.length){args:List PV}{Vs:Array Value}(hv:Cs P C args Vs)(hm:E5 h (Hp C.H h args)=true):Cs P (C.cut h False ro) (Hp C.H h args) Vs:=by
 refine⟨by rw[Hq];exact hv.1,fun j c v h1 h2=>?_⟩;have hmj:=Dv hm h1;rw[KT]at h1;obtain⟨q,hq,rfl⟩:=Af.1 h1;exact(hv.2 j q v hq h2).frz hR hh hmj
theorem LC(H:List Row):∀(ps:List PV),E5 0 ps=true->Hp H 0 ps=ps
 | [],_=>rfl
 |p::ps,h=>by
  simp only[E5,Aa]at h;simp only[Hp];rw[LC H ps h.2,fZ H p h.1]
 where
 fZ (H:List Row):∀(p:PV),mlt 0 p=true->frz H 0 p=p
  |.sl i n k len,h=>by simp[mlt]at h
  |.agg cs,h=>by simp only[frz];rw[LC H cs (by simpa [mlt] using h)]
  |.El cs,h=>by simp only[frz];rw[LC H cs (by simpa [mlt] using h)]
  |.ptr _ _ _ _,_=>rfl
  |.EF _ _ _,_=>rfl
  |.C9 _ _ _,_=>rfl
  |.fn _ _ _,_=>rfl
  |.Kp _ _,_=>rfl
  |.val _,_=>rfl
  |.any,_=>rfl
  |.gv _,_=>rfl
  |.bad _,_=>rfl
  |.Lx _ _,_=>rfl
  |.Ih _,h=>by simp[mlt]at h
  |.mp _,h=>by simp[mlt]at h
mutual
theorem Rk{h k:Nat}(hk:h<=k):∀(p:PV),mlt h p=true->mlt k p=true
 |.sl i n _ len,hm=>by simp only[mlt,Ab]at hm ⊢;omega
 |.ptr i _ _ _,hm=>by simp only[mlt,Ab]at hm ⊢;omega
 |.agg cs,hm=>by simp only[mlt]at hm ⊢;exact Jn hk cs hm
 |.El cs,hm=>by simp only[mlt]at hm ⊢;exact Jn hk cs hm
 |.EF _ _ _,_=>rfl
 |.C9 _ _ _,_=>rfl
 |.fn _ a b,hm=>by simp only[mlt,Aa]at hm ⊢;exact⟨Jn hk a hm.1,Jn hk b hm.2⟩
 |.Kp _ v,hm=>by simp only[mlt]at hm ⊢;exact Rk hk v hm
 |.val _,_=>rfl
 |.any,_=>rfl
 |.gv _,_=>rfl
 |.bad _,_=>rfl
 |.Lx _ _,_=>rfl
 |.Ih i,hm=>by simp only[mlt,Ab]at hm ⊢;omega
 |.mp i,hm=>by simp only[mlt,Ab]at hm ⊢;omega
theorem Jn{h k:Nat}(hk:h<=k):∀(ps:List PV),E5 h ps=true->E5 k ps=true
 | [],_=>rfl
 |p::ps,hm=>by simp only[E5,Aa]at hm ⊢;exact⟨Rk hk p hm.1,Jn hk ps hm.2⟩
end
theorem dk{E:Env}{k:FuncId}{args:List PV}{r:PV}{H:List Row}(h:GR E k args H=some r):mlt 0 r=true:=by
 unfold GR at h;split at h
 ·split at h
  ·rename_i hc;cases h;simp only[Aa]at hc;exact hc.1.2
  ·cases h
 ·cases h
theorem Po{E:Env}(hE:CG P E){k:FuncId}{args:List PV}{r:PV}(hR:RH P C){Vs:Array Value}(hv:Cs P C args Vs)(h:GR E k args C.H=some r):
  Calls P k Vs C.w fun e w'=>∃ V,e=.returned V/\I8 C.w w'/\RV P (C.at w') r V:=by
 unfold GR at h;split at h
 ·rename_i r' hr;split at h
  ·rename_i hc;cases h;simp only[Aa,A2]at hc;obtain⟨⟨h1,_⟩,h2⟩:=hc;rcases h2 with hp |hm
   ·have hR0:=hR.cut (h:=0) (ro:=0) (Iq:=False) (AT _) (Al _) (by simp[DF]);have hv0:=mb (ro:=0) hR (AT _) hv h1;refine(hE.FI k _ r hr _ hR0 Vs hv0).mono ?_
    rintro e w' ⟨V,rfl,hs,hrv⟩
    exact⟨V,rfl,hs,hrv.plain hp⟩
   ·rw[LC _ _ hm]at hr;exact hE.FI k args r hr C hR Vs hv
  ·cases h
 ·cases h
def Rl(a:Act)(r:ResultVar):Sem Value:=
 match r with
 |.tmp t=>pure (a.tmps.getD t undef)
 |.cell x t=>do loadVar t (<- asAddr (a.tmps.getD x undef))
theorem YF(fn:Func)(a:Act):results fn a.tmps=(do
  let vs <- fn.results.mapM (Rl a)
  pure (if h:vs.size=1 then vs[0] else .tuple vs)):=rfl
theorem UJ{S:List PV}{a:Act}{r:ResultVar}{p:PV}(hR:RH P C)(hs:FV P C S a.tmps)(h:Ow P S C.H r=some p):
  ∃ V,(Rl a r).run P C.w=.ok V C.w/\RV P C p V:=by
 cases r with
 |tmp t=>
  simp only[Ow,A5]at h;subst h;exact⟨_,rfl,hs.ev (.tmp t)⟩
 |cell x t=>
  simp only[Ow]at h;split at h
  ·rename_i hok;have hx:RV P C (S.getD x (.val undef)) (a.tmps.getD x undef):=hs.ev (.tmp x);have hSub:Sub C.H C:=fun i r hr=>hr
   obtain⟨ad,e1,_⟩:=HQ (d:=0) hSub hx hok;obtain⟨V,g1,g2⟩:=Pb hR hSub hx h;refine⟨V,?_,g2⟩;simp only[e1,Instr.loadAt,Instr.sureAddr,Sem.run_bind,Sem.run_pure,Result.andThen_ok]at g1;simp only[Rl,e1,asAddr,Sem.run_bind,Sem.run_pure,Result.andThen_ok];exact g1
  ·cases h
theorem YG{fn:Func}{S:List PV}{a:Act}{p:PV}(hR:RH P C)(hs:FV P C S a.tmps)(h:dj P fn S C.H=some p):
  ∃ V,(results fn a.tmps).run P C.w=.ok V C.w/\RV P C p V:=by
 have key:∀(rs:List ResultVar) (ps:List PV),JW P S C.H rs=some ps->∃ Vs:List Value,(rs.mapM (Rl a)).run P C.w=.ok Vs C.w /\
   Vs.length=ps.length/\∀(j:Nat) p v,ps[j]? = some p->Vs[j]? = some v->RV P C p v:=by
  intro rs;induction rs with
  |nil=>intro ps h;simp only[JW,A5]at h;subst h;exact⟨[],by simp,rfl,fun j p v h=>by simp at h⟩
  |cons r rs ih=>
   intro ps h;simp only[JW]at h;split at h
   ·rename_i p1 ps1 h1 h2;cases h;obtain⟨V,g1,g2⟩:=UJ hR hs h1;obtain⟨Vs,g3,g4,g5⟩:=ih ps1 h2;refine⟨V::Vs,?_,by simp[g4],fun j p v q1 q2=>?_⟩
    ·rw[List.mapM_cons];simp only[Sem.run_bind,g1,Result.andThen_ok,g3,Sem.run_pure]
    ·cases j with
     |zero=>simp at q1 q2;subst q1;subst q2;exact g2
     |succ j=>exact g5 j p v (by simpa using q1) (by simpa using q2)
   ·cases h
 unfold dj at h;have hm:∀ ps Vs,JW P S C.H fn.results.toList=some ps->(fn.results.toList.mapM (Rl a)).run P C.w=.ok Vs C.w ->
   (results fn a.tmps).run P C.w=.ok (if h:Vs.toArray.size=1 then Vs.toArray[0] else .tuple Vs.toArray) C.w:=by
  intro ps Vs _ hV;rw[YF];simp only[Array.mapM_eq_mapM_toList];simp only[Sem.run_bind,Sem.run_map,hV,Result.andThen_ok,Sem.run_pure]
 split at h
 ·rename_i q hq;cases h;obtain⟨Vs,g1,g2,g3⟩:=key _ _ hq;obtain⟨V,rfl⟩:∃ V,Vs=[V]:=by
   match Vs,g2 with | [V],_=>exact⟨V,rfl⟩
  exact⟨V,hm _ _ hq g1,g3 0 _ _ rfl rfl⟩
 ·rename_i ps hne hps;cases h;obtain⟨Vs,g1,g2,g3⟩:=key _ _ hps;refine⟨.tuple Vs.toArray,?_,.El (by simp[g2]) fun j c v q1 q2=>g3 j c v q1 (by simpa using q2)⟩;rw[hm _ _ hps g1];have:¬Vs.toArray.size=1:=by
   intro h1;have hl:ps.length=1:=by rw[<- g2];simpa using h1
   match ps,hl with | [q],_=>exact hne q rfl
  simp only[this,dif_neg,not_false_eq_true]
 ·cases h
theorem Fi{E:Env}(_hE:CG P E){ex:Ex}(hX:Ej P E ex){ro:Nat}{k:FuncId}{args:List PV}{p:PV}{H':List Row}(hR:RH P C)(hro:C.ro=ro){Vs:Array Value}(hv:Cs P C args Vs)
  (h:Pg P ex ro k args C.H=some (p,H')):(∀ w,(callFunc k Vs).run P w=.ok (.enter k Vs) w)/\Calls P k Vs C.w fun e w'=>∃ V C',e=.returned V/\C'.w=w'/\HE P C C' H' p V:=by
 unfold Pg at h;split at h
 ·rename_i fn hfn;split at h
  ·rename_i b hb;split at h
   ·cases h
   ·rename_i hname;refine⟨fun w=>by simp[callFunc,hfn,hb];simpa using hname,?_⟩;have hsl:FV P C (args++List.replicate (fn.ntmps-args.length) (.val undef)) (Vs++Array.replicate (fn.ntmps-Vs.size) undef):=by
     refine⟨by simp[hv.1],fun i q u h1 h2=>?_⟩;rw[AO]at h1;rw[Array.getElem?_append]at h2;rw[hv.1]at h2;split at h1
     ·rename_i hi;rw[Ak hi]at h2;exact hv.2 i q u h1 h2
     ·rename_i hi;rw[Aq hi]at h2;rw[BH]at h1;rw[Array.getElem?_replicate]at h2;split at h1
      ·rename_i hj;rw[Ak hj]at h2;cases h1;cases h2;exact .val
      ·cases h1
    have body:∀ x S' H'',ex ro k b (args++List.replicate (fn.ntmps-args.length) (.val undef)) C.H=some (x,S',H'')->(x=.normal\/x=.ret)->dj P fn S' H''=some p->H''=H' ->
      Calls P k Vs C.w fun e w'=>∃ V C',e=.returned V/\C'.w=w'/\HE P C C' H' p V:=by
     intro x S' H'' hex hx hres hH;subst hH;refine Rj.1 (callsIn_of_wp_marks (F:=Fr none) (n:=0) hfn hb trivial ?_);refine hX ro k b _ C.H x S' H'' hex ⟨fn,b,hfn,hb,.here⟩ none C _ rfl hro hR hsl (.none _) _ fun a' C' hd hH2 hxt hR' hs'=>?_
     subst hH2;obtain⟨rs,hn,hd1,hd2⟩:=hd;have key:LeavesInM (Fr none) 0 P fn a'.tmps (fun e w'=>∃ V C'',e=.returned V/\C''.w=w'/\HE P C C'' C'.H p V) a'.defers .returning C'.w:=by
      rw[hd1,BL];refine Nz rs C'.w hn (fun r hr=>(hd2 r hr).2) fun w' hq hw=>?_
      obtain⟨V,g1,g2⟩:=YG (fn:=fn) (C:=C'.at w') (hR'.qt hq) (hs'.qt hq) hres;exact⟨V,g1,V,C'.at w',rfl,rfl,rfl,hxt.qt hq fun b hb=>hw b fun hm=>by have:=(hd2 b hm).1;omega,hR'.qt hq,g2⟩
     rcases hx with rfl |rfl
     ·exact key
     ·exact key
    split at h
    ·rename_i S' H'' hex;obtain⟨q,hq,he⟩:=Af.1 h;cases he;exact body _ S' _ hex (.inl rfl) hq rfl
    ·rename_i S' H'' hex;obtain⟨q,hq,he⟩:=Af.1 h;cases he;exact body _ S' _ hex (.inr rfl) hq rfl
    ·cases h
  ·cases h
 ·cases h
theorem Gj{E:Env}(hE:CG P E){ex:Ex}(hX:Ej P E ex){ro:Nat}{k:FuncId}{args:List PV}{p:PV}{H':List Row}(hR:RH P C)(hro:C.ro=ro){Vs:Array Value}(hv:Cs P C args Vs)
  (h:Iu P E ex ro k args C.H=some (p,H')):(∀ w,(callFunc k Vs).run P w=.ok (.enter k Vs) w)/\Calls P k Vs C.w fun e w'=>∃ V C',e=.returned V/\C'.w=w'/\HE P C C' H' p V:=by
 unfold Iu at h;split at h
 ·rename_i r hr;cases h;obtain⟨g1,g2⟩:=hE.Hc _ _ _ _ _ _ hr;exact⟨fun w=>g1 Vs w,g2 C rfl hro hR Vs hv⟩
 ·exact Fi hE hX hR hro hv h
theorem NA{C C':Ctx}(hR:RH P C){H':List Row}{p q:PV}{H2:List Row}{V:Value}(h:HE P C C' H' p V)(hs:settle C.H.length p H'=(q,H2)):∃ C2,C2.w=C'.w/\HE P C C2 H2 q V:=by
 unfold settle at hs;split at hs
 ·rename_i hc;cases hs;simp only[Aa]at hc;have hlen:=h.ext.len;have hH:=h.H;subst hH;refine⟨C'.cut C.H.length False C'.ro,rfl,rfl,h.ext.cut (Al _) hlen hR.ro,h.rh.cut hlen (by rw[h.ext.ro];exact hR.ro) hc.2,h.rv.frz h.rh hlen hc.1⟩
 ·cases hs;exact⟨C',rfl,h⟩
theorem NB{E:Env}(hE:CG P E){k:FuncId}{args:List PV}{r:PV}{H:List Row}(h:GR E k args H=some r):Dd P k:=by
 unfold GR at h;split at h
 ·rename_i r' hr;exact hE.H9 k _ r' hr
 ·cases h
theorem Pp{E:Env}(hE:CG P E){ex:Ex}(hX:Ej P E ex){ro:Nat}{k:FuncId}{args:List PV}{p:PV}{H':List Row}(hR:RH P C)(hro:C.ro=ro){Vs:Array Value}(hv:Cs P C args Vs)
  (h:Rb P E ex ro k args C.H=some (p,H')):
  (∀ w,(callFunc k Vs).run P w=.ok (.enter k Vs) w)/\Calls P k Vs C.w fun e w'=>∃ V C',e=.returned V/\C'.w=w'/\HE P C C' H' p V:=by
 unfold Rb at h;split at h
 ·rename_i r hr;cases h;refine⟨NB hE hr Vs,(Po hE hR hv hr).mono ?_⟩
  rintro e w' ⟨V,rfl,hs,hrv⟩
  exact⟨V,C.at w',rfl,rfl,rfl,hs.ext,hs.rh hR,hrv⟩
 ·split at h
  ·rename_i q H2 hI;obtain⟨g1,g2⟩:=Gj hE hX hR hro hv hI;refine⟨g1,g2.mono ?_⟩
   rintro e w' ⟨V,C',rfl,rfl,hc⟩
   split at h
   ·cases h;exact⟨V,C',rfl,rfl,hc⟩
   ·obtain⟨C2,e1,e2⟩:=NA hR hc (Ah h);exact⟨V,C2,rfl,e1,e2⟩
  ·cases h
theorem Wz{E:Env}(hE:CG P E){ex:Ex}(hX:Ej P E ex){k:FuncId}{args:List PV}{p:PV}{H:List Row}(hR:RH P C)(hHC:C.H.take H.length=H){Vs:Array Value}(hv:Cs P C args Vs)
  (h:Wo P E ex k args H=some p):
  (∀ w,(callFunc k Vs).run P w=.ok (.enter k Vs) w)/\Calls P k Vs C.w fun e w'=>∃ V,e=.returned V/\I8 C.w w'/\RV P (C.at w') p V:=by
 have hle:H.length<=C.H.length:=by
  have:=congrArg List.length hHC;simp only[Az]at this;omega
 unfold Wo at h;split at h
 case isFalse=>cases h
 rename_i hmk;simp only[Aa]at hmk;obtain⟨hm,hok⟩:=hmk;have hRc:RH P (C.cut H.length True H.length):=hR.cut hle (Al _) (by rw[hHC];exact hok);have hvc:Cs P (C.cut H.length True H.length) args Vs:=⟨hv.1,fun j c v h1 h2=>(hv.2 j c v h1 h2).cut hle (Dv hm h1)⟩;have hHe:(C.cut H.length True H.length).H=H:=hHC;split at h
 ·rename_i r hr;cases h;refine⟨NB hE hr Vs,?_⟩;have:=Po hE hRc hvc (by rw[hHe];exact hr);refine this.mono ?_
  rintro e w' ⟨V,rfl,hs,hrv⟩
  refine⟨V,rfl,hs,?_⟩;exact RV.back (Ci:=(C.cut H.length True H.length).at w') hle (I8.ext hs) hrv (Rk (AT _) _ (dk hr))
 ··split at h
   ·rename_i q H2 hI;split at h
    ·rename_i hq;cases h;obtain⟨g1,g2⟩:=Gj hE hX (C:=C.cut H.length True H.length) hRc rfl hvc (by rw[hHe];exact hI);refine⟨g1,g2.mono ?_⟩
     rintro e w' ⟨V,C',rfl,rfl,hc⟩
     refine⟨V,rfl,H7 hc.ext,?_⟩;have hlen:H.length<=C'.H.length:=by have:=hc.ext.len;rw[hHe]at this;exact this
     have hH2:=hc.H;subst hH2;have h1:=hc.rv.frz (ro:=C'.ro) hc.rh hlen hq;have hx2:Ext (C.cut H.length True H.length) (C'.cut H.length False C'.ro):=hc.ext.cut (by rw[hHe];exact Al _) hlen (by rw[hHe];exact Al _);exact RV.back (Ci:=C'.cut H.length False C'.ro) hle hx2 h1 hq
    ·cases h
   ·cases h
theorem NC{S:List PV}{a:Act}{first cap:List PV}{F K:Array Value}{xs:Array Operand}(hF:Cs P C first F)(hK:Cs P C cap K)(hx:∀ x∈xs,RV P C (ev S x) (a.eval x)):
  Cs P C (first++xs.toList.map (ev S)++cap) (F++xs.map a.eval++K):=by
 have hm:=Nh (P:=P) (C:=C) (f:=ev S) (g:=a.eval) hx;have app:∀{l1 l2:List PV} {a1 a2:Array Value},Cs P C l1 a1->Cs P C l2 a2->Cs P C (l1++l2) (a1++a2):=by
  intro l1 l2 a1 a2 h1 h2;refine⟨by simp[h1.1,h2.1],fun j c v g1 g2=>?_⟩;rw[AO]at g1;rw[Array.getElem?_append,h1.1]at g2;split at g1
  ·rename_i hj;rw[Ak hj]at g2;exact h1.2 j c v g1 g2
  ·rename_i hj;rw[Aq hj]at g2;exact h2.2 _ c v g1 g2
 exact app (app hF ⟨hm.1,hm.2⟩) hK
theorem ND{r:Option Nat}{o:Oper}{a:Act}{w:World}{c:Call}{g:Operand}{k:FuncId}{F K:Array Value}{next:Act->World->Prop}{Q:Exit->Act->World->Prop}(ho:o.op=.call c)(hc:c.callee=.value g)(hg:a.eval g=.func (.func k) F K)
  (hent:∀ w,(callFunc k (F++c.args.map a.eval++K)).run P w=.ok (.enter k (F++c.args.map a.eval++K)) w) {R:Ending->World->Prop} (hcall:Calls P k (F++c.args.map a.eval++K) w R)
  (hn:∀ e w',R e w'->∃ V,e=.returned V/\next (a.put o.dst V) w'):o.wpIn (Fr r) 0 P a w next Q:=by
 refine⟨fun _ _=>trivial,?_⟩;have hrun:(execOp a.eval o).run P w=.ok (.enter k (F++c.args.map a.eval++K)) w:=by
  unfold execOp;simp only[ho,resolve,hc,hg,Deferred.ofValue,Sem.run_bind,Sem.run_pure,Result.andThen_ok,invoke,hent]
 rw[Gi hrun (fun _ h=>by cases h),Oper.uponIn_enter];refine⟨fun h=>(by cases h),Rj.2 (hcall.mono fun e w' he=>?_)⟩;obtain⟨V,rfl,h⟩:=hn e w' he;exact h
theorem UK{E:Env}{ex:Ex}(hX:Ej P E ex){ro i b:Nat}{args:List PV}{t:Bool}{H':List Row}(hR:RH P C)(hro:C.ro=ro){Vs:Array Value}(hv:Cs P C args Vs)(hρ:C.ρ i=some b)
  (h:Re ex ro i args C.H=some (t,H')) (r:Option Nat):∃ rec,C.w.heap[b]? = some (.loop rec)/\Vs.size=rec.params.size /\
   RoundIn (Fr r) 0 P b rec.fn ((rec.params.zip Vs).foldl (fun tmps (t,a)=>tmps.setIfInBounds t a) rec.tmps) rec.assign rec.body C.w fun e w'=>∃ C',e=.returned (.bool t)/\C'.w=w'/\HE P C C' H' (.val (.bool t)) (.bool t):=by
 unfold Re at h;split at h
 case h_2=>cases h
 rename_i k hk;split at h
 case isFalse=>cases h
 rename_i hc;simp only[Aa,Ab,Ay]at hc;split at h
 case h_2=>cases h
 rename_i S1 H1 hasg;split at h
 case h_2=>cases h
 rename_i k1 H2 hk1 hH2;obtain⟨r0,z1,z2,z3⟩:=K6 hk;obtain⟨⟨rec,m1,m2,m3,m4,m5,m6⟩,ha,hb⟩:=(hR.Ii i b r0 _ hρ z1 z2 z3).xr rfl;simp only at m2 m3 m4 m5 ha hb;refine⟨rec,m1,by rw[hv.1,hc.2,m2],?_⟩;refine roundIn_of_wpIn (F:=Fr r) (n:=0) trivial ?_;show rec.assign.wpIn (Fr (some b)) 0 P _ _ _
 have hsl:FV P C (Rd k.S0 k.ps.toList args) ((rec.params.zip Vs).foldl (fun tmps (t,a)=>tmps.setIfInBounds t a) rec.tmps):=by
  have h0:=Pk k.ps.toList args Vs.toList k.S0 rec.tmps m5 (by simp[hv.1]) (fun j c v h1 h2=>hv.2 j c v h1 (by simpa using h2));rw[<- Array.foldl_toList,Array.toList_zip,m2];exact h0
 rw[m3];refine hX ro k.f k.HP _ C.H .normal S1 H1 hasg ha (some b) C _ rfl hro hR hsl (fun l hl=>by cases hl;exact⟨rec,m1⟩) _ fun a1 C1 _ hC1 hx1 hR1 hs1=>?_
 subst hC1;have hρ1:C1.ρ i=some b:=(hx1.lp i r0 _ z1 z2 z3).2 b hρ;obtain⟨r1,y1,y2,y3⟩:=K6 hk1;obtain⟨⟨rec1,n1,n2,n3,n4,n5,n6⟩,ha1,hb1⟩:=(hR1.Ii i b r1 _ hρ1 y1 y2 y3).xr rfl;obtain⟨⟨r1',st1,y1',y2',y3'⟩,_⟩:=hx1.lp i r0 _ z1 z2 z3;have e1:k1=k:=by
  rw[y1]at y1';cases y1';rw[y2]at y2';cases y2';rfl
 subst e1;have hro1:C1.ro<=i:=by rw[hx1.ro,hro];exact hc.1
 obtain⟨hx2,hR2⟩:=K7 (st:=.busy) (rec':={ rec1 with state:=.busy }) hR1 hH2 hρ1 hro1 n1 rfl rfl rfl rfl rfl;refine⟨_,run_beginRound n1 n6.1,?_⟩;split at h
 case h_2=>cases h
 rename_i x S3 H3 hbody;rw[m4];refine hX ro k1.f k1.body S1 H2 x S3 H3 hbody hb (some b) (C1.Pj b { rec1 with state:=.busy } H2) _ rfl (by rw[<- hro,<- hx1.ro];rfl) hR2 (hs1.mono hx2) (fun l hl=>by cases hl;exact hx2.loop b rec1 n1) _ fun a3 C3 _ hC3 hx3 hR3 _=>?_
 subst hC3;have hρ3:C3.ρ i=some b:=by
  obtain⟨_,q⟩:=hx1.lp i r0 _ z1 z2 z3;obtain⟨⟨r2',st2,w1,w2,w3⟩,q2⟩:=hx2.lp i r1 _ y1 y2 y3;obtain⟨_,q3⟩:=hx3.lp i r2' _ w1 w2 w3;exact q3 b (q2 b (q b hρ))
 obtain⟨rec3,hrec3⟩:=(hx1.trans (hx2.trans hx3)).loop b rec m1;have hro3:C3.ro<=i:=by rw[hx3.ro,hx2.ro];exact hro1
 have fin:∀(j:Option Code) (H4:List Row) (st:aj) (tb:Bool),tb=j.isNone->IY C3.H i st=some H4->(StB st { rec3 with state:=if j.isNone then .ready else .done,pending:=j }) ->
   ∃ v w',(Instr.endRound b j).run P C3.w=.ok v w'/\∃ C',Ending.returned v=.returned (.bool tb)/\C'.w=w'/\HE P C C' H4 (.val (.bool tb)) (.bool tb):=by
  intro j H4 st tb htb h4 hst;obtain⟨hx4,hR4⟩:=K7 (st:=st) (rec':={ rec3 with state:=if j.isNone then .ready else .done,pending:=j }) hR3 h4 hρ3 hro3 hrec3 rfl rfl rfl rfl hst;exact⟨_,_,run_endRound j hrec3,_,by rw[htb],rfl,rfl,hx1.trans (hx2.trans (hx3.trans hx4)),hR4,.val⟩
 cases x with
 |normal=>
  simp only[MF]at h;obtain⟨H4,h4,he⟩:=Af.1 h;cases he;exact fin none _ .ready _ rfl h4 ⟨rfl,rfl⟩
 |exit id=>
  simp only[MF]at h;obtain⟨H4,h4,he⟩:=Af.1 h;cases he;exact fin (some (.exit id)) _ (.done (.exit id)) _ rfl h4 ⟨rfl,rfl⟩
 |ret=>
  simp only[MF]at h;obtain⟨H4,h4,he⟩:=Af.1 h;cases he;exact fin (some .ret) _ (.done .ret) _ rfl h4 ⟨rfl,rfl⟩
theorem ga{r:Option Nat}{o:Oper}{a:Act}{w:World}{c:Call}{g:Operand}{b:Nat}{rec:Loop}{next:Act->World->Prop}{Q:Exit->Act->World->Prop}(ho:o.op=.call c)(hc:c.callee=.value g)(hg:a.eval g=.func (.yield b) #[] #[])
  (hrec:w.heap[b]? = some (.loop rec)) (hsz:(c.args.map a.eval).size=rec.params.size) {R:Ending->World->Prop} (hcall:RoundIn (Fr r) 0 P b rec.fn ((rec.params.zip (c.args.map a.eval)).foldl (fun tmps (t,a)=>tmps.setIfInBounds t a) rec.tmps) rec.assign rec.body w R)
  (hn:∀ e w',R e w'->∃ V,e=.returned V/\next (a.put o.dst V) w'):o.wpIn (Fr r) 0 P a w next Q:=by
 refine⟨fun _ _=>trivial,?_⟩;have hrun:(execOp a.eval o).run P w=.ok (.round b rec.fn ((rec.params.zip (c.args.map a.eval)).foldl (fun tmps (t,a)=>tmps.setIfInBounds t a) rec.tmps) rec.assign rec.body) w:=by
  unfold execOp;simp only[ho,resolve,hc,hg,Deferred.ofValue,Sem.run_bind,Sem.run_pure,Result.andThen_ok,invoke,Array.empty_append];exact run_yield hrec hsz
 rw[Gi hrun (fun _ h=>by cases h),Oper.uponIn_round];refine⟨fun h=>(by cases h),?_⟩;obtain⟨h1,h2⟩:=hcall;refine⟨h1,fun cc cs hr=>?_⟩;obtain⟨e,w',hR,hco⟩:=h2 cc cs hr;obtain⟨V,rfl,h⟩:=hn e w' hR;exact⟨.returned V,w',h,hco⟩
theorem D9{r:Option Nat}{o:Oper}{a:Act}{w w':World}{v:Value}{next:Act->World->Prop}{Q:Exit->Act->World->Prop}(h:(execOp a.eval o).run P w=.ok (.value v) w')(hn:next (a.put o.dst v) w'):o.wpIn (Fr r) 0 P a w next Q:=by
 refine⟨fun _ _=>trivial,?_⟩;rw[Gi h (fun _ h=>by cases h)];exact hn
theorem LD{r:Option Nat}{o:Oper}{a:Act}{w w':World}{n:Next}{v:Value}{next:Act->World->Prop}{Q:Exit->Act->World->Prop}(h:(execOp a.eval o).run P w=.ok n w')(hv:n=.value v\/(n=.skip/\v=undef))(hn:next (a.put o.dst v) w'):o.wpIn (Fr r) 0 P a w next Q:=by
 rcases hv with rfl |⟨rfl,rfl⟩
 ·exact D9 h hn
 ·refine⟨fun _ _=>trivial,?_⟩;rw[Gi h (fun _ h=>by cases h)];exact hn
theorem sub_self(C:Ctx):Sub C.H C:=fun _ _ h=>h
theorem Jo{H:List Row}{f:Operand->PV}{op:Op}{p:PV}{r:Row}(h:KB P H f op=some (p,r)):r.live=true:=by
 cases op <;> simp only[KB,reduceCtorEq]at h
 case convert src dst x=>
  split at h
  ·split at h
   ·cases h;rfl
   ·cases h
  ·cases h
 case alloc T=>
  split at h
  ·split at h
   ·cases h;rfl
   ·cases h
  ·cases h
 case box T x=>
  split at h
  ·cases h;rfl
  ·cases h
 case buildSlice T len parts=>
  simp only[Af]at h;obtain⟨y,_,h⟩:=h;cases h;rfl
 case makeSlice T l c=>
  split at h
  ·split at h
   ·split at h
    ·cases h;rfl
    ·cases h
   ·cases h
  ·cases h
theorem Pq{r:Option Nat}{E:Env}(hE:CG P E){ex:Ex}(hX:Ej P E ex){ro:Nat}{S:List PV}{o:Oper}{p:PV}{H':List Row}{a:Act}(hR:RH P C)(hro:C.ro=ro)(hs:FV P C S a.tmps)
  (h:Mo P E ex ro S C.H o=some (p,H')) {next:Act->World->Prop} {Q:Exit->Act->World->Prop} (hn:∀ v C',HE P C C' H' p v->next (a.put o.dst v) C'.w):o.wpIn (Fr r) 0 P a C.w next Q:=by
 unfold Mo at h;split at h
 ·rename_i r0 hr0;cases h;subst hro;obtain⟨n,v,C',g1,gv,g2,g3⟩:=(MH hE hr0).1 C a.eval o rfl rfl rfl hR (fun x _=>hs.ev x);exact LD g1 gv (hn v C' ⟨g2.H,g2.ext,g2.rh,g3⟩)
 split at h
 ·rename_i q hq;cases h;obtain⟨v,g1,g2⟩:=JT hR (sub_self C) (fun x _=>hs.ev x) hq;exact D9 g1 (hn v C ⟨rfl,.refl C,hR,g2⟩)
 ·split at h
  ·rename_i q r hq;cases h;have hx1:=E9 hR r;have hR1:=Hb hR r;have hlen:(C.more r).H.length=C.H.length+1:=by simp[Ctx.more]
   have hlive:r.live=true:=Jo hq;have hrow:(C.more r).row? C.H.length=some r:=by
    show rowAt (C.H++[r]) C.H.length=some r
    unfold rowAt;simp[hlive]
   obtain⟨v,C',g1,g2⟩:=Ip (C:=C.more r) (H:=C.H) (f:=ev S) (g:=a.eval) hR1 (by omega) (hR.GC (Al _)) hR.ro hrow (fun x _=>(hs.ev x).mono hx1) hq;exact D9 g1 (hn v C' ⟨by rw[g2.H];rfl,hx1.trans g2.ext,g2.rh,g2.rv⟩)
  ·split at h
   ·-- a store
    rename_i T x y ho;obtain⟨H2,h2,he⟩:=Af.1 h;cases he;subst hro;obtain⟨C',g1,g2,_⟩:=JU hR (hs.ev x) (hs.ev y) h2;have:=hn undef C' ⟨g2.H,g2.ext,g2.rh,.val⟩;refine⟨fun _ _=>trivial,?_⟩;have hrun:(execOp a.eval o).run P C.w=.ok .skip C'.w:=by
     unfold execOp;simp only[ho,Sem.run_bind,g1,Result.andThen_ok,Sem.run_pure]
    rw[Gi hrun (fun _ h=>by cases h)];exact this
   ·-- a call
    rename_i c ho;split at h
    ·rename_i hc;split at h
     ·rename_i x y hargs;subst hro;obtain⟨v,C',g1,g2,g3,_⟩:=F2 hR (hs.ev x) (hs.ev y) h o.type;have hca:c.args = #[x,y]:=by apply BD;simpa using hargs
      refine D9 (v:=v) (w':=C'.w) ?_ (hn v C' ⟨g2.H,g2.ext,g2.rh,g3⟩);unfold execOp;simp only[ho,resolve,hc,hca,Sem.run_bind,Sem.run_pure,Result.andThen_ok,invoke,builtin,BM,AV,Bs,g1]
     ·cases h
    ·rename_i g hc;split at h
     ·rename_i k first cap hg
      have hgv:=hs.ev g;rw[hg]at hgv;generalize hG:a.eval g=G at hgv;cases hgv with
      |fn q1 q2 q3 q4=>
       have hargs:=NC (a:=a) (S:=S) (xs:=c.args) ⟨q1,q3⟩ ⟨q2,q4⟩ (fun x _=>hs.ev x);obtain⟨e1,e2⟩:=Pp hE hX hR hro hargs h;exact ND ho hc hG e1 e2 fun e w' ⟨V,C',he,hw,hct⟩=>⟨V,he,by rw[<- hw];exact hn V C' hct⟩
     ·rename_i i hg;obtain⟨⟨t,H2⟩,h2,he⟩:=Af.1 h;cases he;have hgv:=hs.ev g;rw[hg]at hgv;generalize hG:a.eval g=G at hgv;cases hgv with
      |Ih hi hl hb=>
       have hargs:Cs P C (c.args.toList.map (ev S)) (c.args.map a.eval):=by
        have hm:=Nh (P:=P) (C:=C) (f:=ev S) (g:=a.eval) (xs:=c.args) (fun x _=>hs.ev x);exact⟨hm.1,hm.2⟩
       obtain⟨rec,e1,e2,e3⟩:=UK hX hR hro hargs hb h2 r;exact ga ho hc hG e1 e2 e3 fun e w' ⟨C',he,hw,hct⟩=>⟨_,he,by rw[<- hw];exact hn _ C' hct⟩
     ·cases h
    ·subst hro;obtain⟨n,v,C',g1,gv,g2,g3⟩:=Pm hE (g:=a.eval) hR rfl (fun x _=>hs.ev x) h;exact LD g1 gv (hn v C' ⟨g2.H,g2.ext,g2.rh,g3⟩)
   ·subst hro;obtain⟨n,v,C',g1,gv,g2,g3⟩:=Pm hE (g:=a.eval) hR rfl (fun x _=>hs.ev x) h;exact LD g1 gv (hn v C' ⟨g2.H,g2.ext,g2.rh,g3⟩)
end Go.Hx


