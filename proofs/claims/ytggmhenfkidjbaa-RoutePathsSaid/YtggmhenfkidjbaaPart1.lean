import Derived.WalkKit
import Derived.Orders
import Derived.StillTail
import Derived.DeepKeys
import Derived.WalkLawsBesides
import Derived.Lib.Builder
import Derived.Lib.UnsafeStr
import Derived.Laws.IdiomStrings
theorem Aa:type_of% @Bool.and_eq_true:=@Bool.and_eq_true
theorem Ab:type_of% @decide_eq_true_eq:=@decide_eq_true_eq
theorem Ac:type_of% @decide_eq_true:=@decide_eq_true
theorem Ad:type_of% @List.getElem?_eq_some_iff:=@List.getElem?_eq_some_iff
theorem Ae:type_of% @List.getElem?_eq_getElem:=@List.getElem?_eq_getElem
theorem Af:type_of% @Option.map_eq_some_iff:=@Option.map_eq_some_iff
theorem Ag:type_of% @List.mem_of_getElem?:=@List.mem_of_getElem?
theorem Ah:type_of% @Option.some.inj:=@Option.some.inj
theorem Ai:type_of% @decide_eq_false:=@decide_eq_false
theorem Aj:type_of% @cond_true:=@cond_true
theorem Ak:type_of% @if_pos:=@if_pos
theorem Al:type_of% @Nat.le_refl:=@Nat.le_refl
theorem Am:type_of% @Bool.not_eq_true':=@Bool.not_eq_true'
theorem An:type_of% @List.getElem?_map:=@List.getElem?_map
theorem Ao:type_of% @List.all_eq_true:=@List.all_eq_true
theorem Ap:type_of% @List.length_append:=@List.length_append
theorem Aq:type_of% @if_neg:=@if_neg
theorem Ar:type_of% @cond_false:=@cond_false
theorem As:type_of% @List.length_cons:=@List.length_cons
theorem At:type_of% @Array.getElem?_eq_some_iff:=@Array.getElem?_eq_some_iff
theorem Au:type_of% @List.getElem?_take:=@List.getElem?_take
theorem Av:type_of% @List.getD_eq_getElem?_getD:=@List.getD_eq_getElem?_getD
theorem Aw:type_of% @List.getElem?_append_left:=@List.getElem?_append_left
theorem Ax:type_of% @List.getElem?_set:=@List.getElem?_set
theorem Ay:type_of% @beq_iff_eq:=@beq_iff_eq
theorem Az:type_of% @List.length_take:=@List.length_take
theorem AA:type_of% @Nat.lt_of_lt_of_le:=@Nat.lt_of_lt_of_le
theorem AB:type_of% @List.length_nil:=@List.length_nil
theorem AC:type_of% @List.drop_eq_nil_of_le:=@List.drop_eq_nil_of_le
theorem AD:type_of% @Array.getElem?_eq_getElem:=@Array.getElem?_eq_getElem
theorem AE:type_of% @Option.map_some:=@Option.map_some
theorem AF:type_of% @List.drop_zero:=@List.drop_zero
theorem AG:type_of% @List.getElem?_eq_none:=@List.getElem?_eq_none
theorem AH:type_of% @Option.bind_eq_some_iff:=@Option.bind_eq_some_iff
theorem AI:type_of% @List.mem_singleton:=@List.mem_singleton
theorem AJ:type_of% @List.mem_cons_self:=@List.mem_cons_self
theorem AK:type_of% @List.mem_cons:=@List.mem_cons
theorem AL:type_of% @Array.getElem?_toList:=@Array.getElem?_toList
theorem AM:type_of% @Nat.zero_add:=@Nat.zero_add
theorem AN:type_of% @of_decide_eq_true:=@of_decide_eq_true
theorem AO:type_of% @List.getElem?_append:=@List.getElem?_append
theorem AP:type_of% @List.length_map:=@List.length_map
theorem AQ:type_of% @decide_eq_false_iff_not:=@decide_eq_false_iff_not
theorem AR:type_of% @beq_eq_false_iff_ne:=@beq_eq_false_iff_ne
theorem AS:type_of% @beq_self_eq_true:=@beq_self_eq_true
theorem AT:type_of% @Nat.zero_le:=@Nat.zero_le
theorem AU:type_of% @List.mem_cons_of_mem:=@List.mem_cons_of_mem
theorem AV:type_of% @List.map_cons:=@List.map_cons
theorem AW:type_of% @Array.getElem?_setIfInBounds:=@Array.getElem?_setIfInBounds
theorem AX:type_of% @List.mem_map:=@List.mem_map
theorem AY:type_of% @Go.heap_alloc_old:=@Go.heap_alloc_old
theorem AZ:type_of% @List.getElem?_cons_zero:=@List.getElem?_cons_zero
theorem A0:type_of% @Classical.byContradiction:=@Classical.byContradiction
theorem A1:type_of% @Nat.mul_le_mul_right:=@Nat.mul_le_mul_right
theorem A2:type_of% @Bool.or_eq_true:=@Bool.or_eq_true
theorem A3:type_of% @List.mem_append:=@List.mem_append
theorem A4:type_of% @Bool.false_eq_true:=@Bool.false_eq_true
theorem A5:type_of% @Option.some.injEq:=@Option.some.injEq
theorem A6:type_of% @List.mem_zipIdx_iff_getElem?:=@List.mem_zipIdx_iff_getElem?
theorem A7:type_of% @List.take_of_length_le:=@List.take_of_length_le
theorem A8:type_of% @List.getElem?_drop:=@List.getElem?_drop
theorem A9:type_of% @List.nil_append:=@List.nil_append
theorem A_:type_of% @List.take_length:=@List.take_length
theorem Ba:type_of% @Option.isNone_iff_eq_none:=@Option.isNone_iff_eq_none
theorem Bb:type_of% @Nat.add_mul:=@Nat.add_mul
theorem Bc:type_of% @Nat.le_trans:=@Nat.le_trans
theorem Be:type_of% @List.getElem?_range:=@List.getElem?_range
theorem Bf:type_of% @List.ext_getElem?:=@List.ext_getElem?
theorem Bg:type_of% @Bool.and_self:=@Bool.and_self
theorem Bh:type_of% @List.getElem?_of_mem:=@List.getElem?_of_mem
theorem Bi:type_of% @List.length_set:=@List.length_set
theorem Bj:type_of% @List.mem_filter:=@List.mem_filter
theorem Bk:type_of% @Array.getD_eq_getD_getElem?:=@Array.getD_eq_getD_getElem?
theorem Bl:type_of% @Option.bind_some:=@Option.bind_some
theorem Bm:type_of% @List.map_congr_left:=@List.map_congr_left
theorem Bn:type_of% @List.getElem?_append_right:=@List.getElem?_append_right
theorem Bo:type_of% @List.mem_range:=@List.mem_range
theorem Bp:type_of% @Nat.eq_of_beq_eq_true:=@Nat.eq_of_beq_eq_true
theorem Bq:type_of% @Bool.and_true:=@Bool.and_true
theorem Br:type_of% @List.mem_map_of_mem:=@List.mem_map_of_mem
theorem Bs:type_of% @List.map_nil:=@List.map_nil
theorem Bt:type_of% @Bool.false_or:=@Bool.false_or
theorem Bu:type_of% @List.append_assoc:=@List.append_assoc
theorem Bv:type_of% @Nat.lt_or_ge:=@Nat.lt_or_ge
theorem Bw:type_of% @List.mem_or_eq_of_mem_set:=@List.mem_or_eq_of_mem_set
theorem Bx:type_of% @Option.getD_some:=@Option.getD_some
theorem By:type_of% @List.getElem_mem:=@List.getElem_mem
theorem Bz:type_of% @List.map_append:=@List.map_append
theorem BA:type_of% @Nat.add_zero:=@Nat.add_zero
theorem BB:type_of% @List.getElem?_zipIdx:=@List.getElem?_zipIdx
theorem BC:type_of% @Bool.and_false:=@Bool.and_false
theorem BD:type_of% @Array.ext':=@Array.ext'
theorem BE:type_of% @List.getElem?_toArray:=@List.getElem?_toArray
theorem BG:type_of% @Int.le_refl:=@Int.le_refl
theorem BH:type_of% @List.getElem?_replicate:=@List.getElem?_replicate
theorem BI:type_of% @List.eq_nil_of_length_eq_zero:=@List.eq_nil_of_length_eq_zero
theorem BJ:type_of% @List.contains_eq_mem:=@List.contains_eq_mem
theorem BK:type_of% @Bool.or_eq_false_iff:=@Bool.or_eq_false_iff
theorem BL:type_of% @List.append_nil:=@List.append_nil
theorem BM:type_of% @List.map_toArray:=@List.map_toArray
theorem BN:type_of% @Array.all_eq_true_iff_forall_mem:=@Array.all_eq_true_iff_forall_mem
theorem BO:type_of% @List.getElem?_cons_succ:=@List.getElem?_cons_succ
theorem BP:type_of% @List.mem_of_mem_drop:=@List.mem_of_mem_drop
theorem BQ:type_of% @Nat.one_mul:=@Nat.one_mul
theorem BS:type_of% @Bool.not_false:=@Bool.not_false
theorem BT:type_of% @List.mem_append_left:=@List.mem_append_left
theorem BU:type_of% @List.filter_cons:=@List.filter_cons
theorem BV:type_of% @if_true:=@if_true
theorem BW:type_of% @List.length_singleton:=@List.length_singleton
theorem BX:type_of% @Bool.not_true:=@Bool.not_true
theorem BY:type_of% @Bool.true_and:=@Bool.true_and
theorem BZ:type_of% @List.mem_filterMap:=@List.mem_filterMap
theorem B0:type_of% @List.mem_of_mem_take:=@List.mem_of_mem_take
theorem B1:type_of% @List.getElem?_set_ne:=@List.getElem?_set_ne
theorem B2:type_of% @decide_eq_decide:=@decide_eq_decide
theorem B3:type_of% @Nat.add_assoc:=@Nat.add_assoc
theorem B4:type_of% @List.drop_eq_getElem_cons:=@List.drop_eq_getElem_cons
theorem B5:type_of% @decide_eq_true_iff:=@decide_eq_true_iff
theorem B6:type_of% @Array.getElem?_map:=@Array.getElem?_map
theorem B7:type_of% @List.length_drop:=@List.length_drop
theorem B8:type_of% @List.not_mem_nil:=@List.not_mem_nil
theorem B9:type_of% @Int.emod_lt_of_pos:=@Int.emod_lt_of_pos
theorem B_:type_of% @Option.isSome_iff_exists:=@Option.isSome_iff_exists
theorem Ca:type_of% @List.nodup_cons:=@List.nodup_cons
theorem Cb:type_of% @List.getElem?_set_self:=@List.getElem?_set_self
theorem Cc:type_of% @List.all_cons:=@List.all_cons
theorem Cd:type_of% @if_false:=@if_false
theorem Ce:type_of% @Option.map_map:=@Option.map_map
theorem Cf:type_of% @Bool.false_and:=@Bool.false_and
theorem Cg:type_of% @Option.isSome_some:=@Option.isSome_some
theorem Cj:type_of% @List.length_replicate:=@List.length_replicate
theorem Ck:type_of% @Array.getElem?_modify:=@Array.getElem?_modify
theorem Cm:type_of% @Int.emod_nonneg:=@Int.emod_nonneg
theorem Co:type_of% @Nat.lt_trichotomy:=@Nat.lt_trichotomy
theorem Cp:type_of% @Bool.eq_false_iff:=@Bool.eq_false_iff
theorem Cq:type_of% @List.map_map:=@List.map_map
theorem Cr:type_of% @List.eq_of_mem_replicate:=@List.eq_of_mem_replicate
theorem Ct:type_of% @Array.size_setIfInBounds:=@Array.size_setIfInBounds
theorem Cu:type_of% @or_false:=@or_false
theorem Cw:type_of% @List.nodup_range:=@List.nodup_range
theorem Cx:type_of% @Bool.cond_eq_ite:=@Bool.cond_eq_ite
theorem Cz:type_of% @Nat.eq_zero_or_pos:=@Nat.eq_zero_or_pos
theorem CA:type_of% @Nat.div_lt_iff_lt_mul:=@Nat.div_lt_iff_lt_mul
theorem CB:type_of% @List.countP_le_length:=@List.countP_le_length
theorem CC:type_of% @List.drop_left:=@List.drop_left
theorem CD:type_of% @Nat.le_succ:=@Nat.le_succ
theorem CE:type_of% @Nat.pow_le_pow_right:=@Nat.pow_le_pow_right
theorem CF:type_of% @Nat.le_of_not_lt:=@Nat.le_of_not_lt
theorem CH:type_of% @Array.length_toList:=@Array.length_toList
theorem CI:type_of% @List.countP_pos_iff:=@List.countP_pos_iff
theorem CJ:type_of% @List.take_succ_cons:=@List.take_succ_cons
theorem CK:type_of% @List.filterMap_cons:=@List.filterMap_cons
theorem CL:type_of% @Bool.or_false:=@Bool.or_false
theorem CM:type_of% @Prod.mk.injEq:=@Prod.mk.injEq
theorem CN:type_of% @Eq.trans:=@Eq.trans
theorem CO:type_of% @bne_iff_ne:=@bne_iff_ne
theorem CP:type_of% @Array.toList_range:=@Array.toList_range
theorem CQ:type_of% @Nat.shiftLeft_zero:=@Nat.shiftLeft_zero
theorem CR:type_of% @Nat.mul_one:=@Nat.mul_one
theorem CT:type_of% @decide_true:=@decide_true
theorem CU:type_of% @Nat.mul_comm:=@Nat.mul_comm
theorem CV:type_of% @List.take_zero:=@List.take_zero
theorem CW:type_of% @Nat.zero_mul:=@Nat.zero_mul
theorem CX:type_of% @List.nodup_append:=@List.nodup_append
theorem CZ:type_of% @true_and:=@true_and
theorem C4:type_of% @List.take_left:=@List.take_left
theorem C5:type_of% @bne_self_eq_false:=@bne_self_eq_false
theorem C6:type_of% @List.getElem?_inj:=@List.getElem?_inj
theorem C7:type_of% @Classical.not_not:=@Classical.not_not
theorem C8:type_of% @List.flatMap_cons:=@List.flatMap_cons
theorem Di:type_of% @Nat.lt_irrefl:=@Nat.lt_irrefl
theorem Dm:type_of% @Nat.sub_self:=@Nat.sub_self
theorem Dp:type_of% @and_true:=@and_true
theorem Dw:type_of% @false_or:=@false_or
namespace Go.Hx
variable{P:Program}
inductive PV where
 |val (v:Value)
 |ptr (i n k j:Nat)
 |EF (t:TypeId) (e:PV) (j:Nat)
 |sl (i n k len:Nat)
 |C9 (full:Bool) (t:TypeId) (es:List PV)
 |agg (cs:List PV)
 |El (vs:List PV)
 |fn (f:Fn) (first cap:List PV)
 |Kp (t:TypeId) (v:PV)
 |Ih (i:Nat)
 |mp (i:Nat)
 |gv (g:Nat)
 |bad (g:Nat)
 |Lx (t:TypeId) (es:List PV)
 |any
 deriving Inhabited
def PV.DL:PV->Int |.val (.int _ n)=>n |_=>0
def PV.cQ:PV->Bool |.val (.bool b)=>b |_=>false
def PV.GU:PV->ByteArray |.val (.string s)=>s |_=>.empty
def PV.Tf:PV->List PV |.C9 _ _ es=>es |_=>[]
def PV.cells:PV->List PV
 |.agg cs=>cs
 |.val (.agg a)=>a.toList.map .val
 |v=>[v]
def PV.cellAt(e:PV)(j:Nat):PV:=e.cells.getD j .any
inductive Kind where
 |int (k:IntKind) |bool |str |sl (t:TypeId) |other
 deriving DecidableEq
def DU(P:Program):Nat->TypeId->List Kind
 |0,_=>[.other]
 |d+1,t=>
  match P.underlying t with
  |some (.int k)=>[.int k]
  |some .bool=>[.bool]
  |some .string=>[.str]
  |some (.slice e)=>[.sl e]
  |some (.struct fs)=>fs.toList.flatMap fun f=>DU P d f.type
  |some (.array n e)=>(List.replicate n (DU P d e)).flatten
  |_=>[.other]
def kinds(P:Program)(t:TypeId):List Kind:=DU P 12 t
def KH:Kind->PV->Bool
 |.int k,.val (.int k' _)=>k==k'
 |.bool,.val (.bool _)=>true
 |.str,.val (.string _)=>true
 |.sl t,.C9 _ t' _=>t==t'
 |_,_=>false
def D4:List Kind->List PV->Bool
 | [],[]=>true
 |k::ks,p::ps=>KH k p&&D4 ks ps
 |_,_=>false
def wt(P:Program)(t:TypeId)(e:PV):Bool:=D4 (kinds P t) e.cells&&(kinds P t).length==P.cellsOf t
theorem IT:∀{ks:List Kind} {ps:List PV},D4 ks ps=true->ps.length=ks.length
 | [],[],_=>rfl
 | [],_::_,h=>by simp[D4]at h
 |_::_,[],h=>by simp[D4]at h
 |k::ks,p::ps,h=>by
  simp only[D4,Aa]at h;simp[IT h.2]
theorem VZ:∀{ks:List Kind} {ps:List PV},D4 ks ps=true->∀{j:Nat} {k p},ks[j]? = some k->ps[j]? = some p->KH k p=true
 | [],[],_,j,k,p,h,_=>by simp at h
 | [],_::_,h,_,_,_,_,_=>by simp[D4]at h
 |_::_,[],h,_,_,_,_,_=>by simp[D4]at h
 |k::ks,p::ps,h,j,k',p',h1,h2=>by
  simp only[D4,Aa]at h;cases j with
  |zero=>simp at h1 h2;subst h1;subst h2;exact h.1
  |succ j=>simp at h1 h2;exact VZ h.2 h1 h2
theorem Oj{t:TypeId}{e:PV}(h:wt P t e=true):e.cells.length=P.cellsOf t:=by
 simp only[wt,Aa,Ay]at h;rw[IT h.1,h.2]
structure Gf where
 f:FuncId
 S0:List PV
 ps:Array Tmp
 HP:Code
 body:Code
inductive lQ where
 |fresh (n:Nat) |at (bm s:Nat) (seen:Array Nat) (c:Nat) |some |nil
def fg(k:Gf)(b:Nat):Value:=match k.S0 with | []=>.map (some b) |_=>.pointer (some ⟨b,0,none⟩)
theorem cR(k:Gf)(b:Nat):(fg k b).cells = #[fg k b]:=by unfold fg;split <;> rfl
theorem lR(k:Gf)(b:Nat):(fg k b).oneCell'=true:=by unfold fg;split <;> rfl
inductive aj where
 |ready |busy |done (j:Code) |over |map (K E:TypeId) (D:List (PV×PV)) |Gy (K E:TypeId) (D:List (PV×PV)) |iter (s:lQ)
def aj.isMap:aj->Bool |.map _ _ _=>true |.Gy _ _ _=>true |.iter _=>true |_=>false
structure FD where
 k:Gf
 st:aj
structure Row where
 es:List PV
 s:Nat
 t:TypeId
 bv:Bool
 live:Bool:=true
 nl:Bool:=false
 lp:Option FD:=none
 fz:Bool:=false
 deriving Inhabited
structure Ctx where
 ρ:Nat->Option Nat
 H:List Row
 w:World
 fo:Nat->Prop:=fun _=>False
 ro:Nat:=0
def rowAt(H:List Row)(i:Nat):Option Row:=
 match H[i]? with
 |some r=>if r.live then some r else none
 |none=>none
def Ctx.row?(C:Ctx)(i:Nat):Option Row:=rowAt C.H i
def Ctx.has(C:Ctx)(b:Nat):Prop:=∃ i,C.ρ i=some b
def Ctx.own(C:Ctx)(b:Nat):Prop:=∃ i,C.ro<=i/\C.ρ i=some b
def Ctx.KI(C:Ctx)(b:Nat):Prop:=C.has b\/C.fo b
theorem Ctx.own.has{C:Ctx}{b:Nat}(h:C.own b):C.has b:=let ⟨i,_,hi⟩:=h; ⟨i,hi⟩
theorem EL{H:List Row}{i:Nat}{r:Row}(h:rowAt H i=some r):i<H.length:=by
 unfold rowAt at h;cases hh:H[i]? with
 |none=>simp[hh]at h
 |some x=>exact(Ad.1 hh).1
def E4(C:Ctx)(i:Nat)(r:Row)(k:Nat)(a:Option Addr)(cap:Nat):Prop:=
 if r.nl then a=none/\cap=0
 else ∃ b,C.ρ i=some b/\a=some ⟨b,k*r.s,none⟩/\∃ c e fr,C.w.heap[b]? = some (.cells c e fr)/\(k+cap)*r.s<=c.size/\r.es.length<=k+cap
def fh(P:Program)(C:Ctx)(g:Nat)(V:Value):Prop:=
 ∃ T b s n c v0,V=.iface T (.pointer (some ⟨b,0,none⟩))/\P.typeName? 3 T=some "*errors.joinError" /\ (¬C.KI b/\b<C.w.heap.size/\C.w.cell? ⟨b,0,none⟩=some (.slice (some ⟨s,0,none⟩) (n+1) c)) /\
  (¬C.KI s/\s<C.w.heap.size/\C.w.cell? ⟨s,0,none⟩=some v0)/\(¬C.KI g/\g<C.w.heap.size/\C.w.cell? ⟨g,0,none⟩=some v0)
theorem fh.tr{C C':Ctx}{g:Nat}{V:Value}(hf:∀ x v,¬C.KI x->x<C.w.heap.size->C.w.cell? ⟨x,0,none⟩=some v->¬C'.KI x/\x<C'.w.heap.size/\C'.w.cell? ⟨x,0,none⟩=some v)(h:fh P C g V):fh P C' g V:=by
 obtain⟨T,b,s,n,c,v0,h1,h2,h3,h4,h5⟩:=h;exact⟨T,b,s,n,c,v0,h1,h2,hf _ _ h3.1 h3.2.1 h3.2.2,hf _ _ h4.1 h4.2.1 h4.2.2,hf _ _ h5.1 h5.2.1 h5.2.2⟩
inductive RV(P:Program)(C:Ctx):PV->Value->Prop
 |any {V:Value}:RV P C .any V
 |val {v:Value}:RV P C (.val v) v
 |ptr {i n k j:Nat} {V:Value} (hV:∃ a,V=.pointer a) (hk:k<n) (hi:i<C.H.length) (hn:∀ r,C.row? i=some r->n<=r.es.length)
   (h:∀ r,C.row? i=some r->r.es.length=n->∃ b,C.ρ i=some b/\V=.pointer (some ⟨b,k*r.s+j,none⟩)):RV P C (.ptr i n k j) V
 |EF {t:TypeId} {e:PV} {j:Nat} {b off:Nat} (cv:Nat->Value) (hb:¬C.KI b) (hlt:b<C.w.heap.size)
   (hc:∀(x:Nat) p,e.cells[x]? = some p->C.w.cell? ⟨b,off+x,none⟩=some (cv x))
   (hr:∀(x:Nat) p,e.cells[x]? = some p->RV P C p (cv x)) (ht:wt P t e=true):RV P C (.EF t e j) (.pointer (some ⟨b,off+j,none⟩))
 |sl {i n k len:Nat} {V:Value} (hV:∃ a c,V=.slice a len c) (hi:i<C.H.length) (hn:∀ r,C.row? i=some r->n<=r.es.length)
   (h:∀ r,C.row? i=some r->r.es.length=n->k+len<=n/\∃ a cap,V=.slice a len cap/\len<=cap/\E4 C i r k a cap):RV P C (.sl i n k len) V
 |C9 {full:Bool} {t:TypeId} {es:List PV} {a:Option Addr} {cap:Nat} (b off:Nat) (cv:Nat->Nat->Value) (hcap:es.length<=cap) (hfull:full=true->cap=es.length)
   (ha:0<es.length->a=some ⟨b,off,none⟩/\¬C.KI b/\b<C.w.heap.size)
   (hc:∀(x:Nat) e (j:Nat) p,es[x]? = some e->e.cells[j]? = some p->C.w.cell? ⟨b,off+x*P.cellsOf t+j,none⟩=some (cv x j))
   (hr:∀(x:Nat) e (j:Nat) p,es[x]? = some e->e.cells[j]? = some p->RV P C p (cv x j))
   (ht:∀ e,e∈es->wt P t e=true):RV P C (.C9 full t es) (.slice a es.length cap)
 |agg {cs:List PV} {a:Array Value} (hs:a.size=cs.length) (h:∀(j:Nat) c v,cs[j]? = some c->a[j]? = some v->RV P C c v):RV P C (.agg cs) (.agg a)
 |El {cs:List PV} {a:Array Value} (hs:a.size=cs.length) (h:∀(j:Nat) c v,cs[j]? = some c->a[j]? = some v->RV P C c v):RV P C (.El cs) (.tuple a)
 |fn {f:Fn} {first cap:List PV} {F K:Array Value} (h1:F.size=first.length) (h2:K.size=cap.length)
   (h3:∀(j:Nat) c v,first[j]? = some c->F[j]? = some v->RV P C c v) (h4:∀(j:Nat) c v,cap[j]? = some c->K[j]? = some v->RV P C c v):RV P C (.fn f first cap) (.func f F K)
 |Kp {t:TypeId} {p:PV} {v:Value} (h:RV P C p v):RV P C (.Kp t p) (.iface t v)
 |Ih {i b:Nat} (hi:i<C.H.length) (hl:∃ r info,C.H[i]? = some r/\r.lp=some info/\r.live=false) (hb:C.ρ i=some b):RV P C (.Ih i) (.func (.yield b) #[] #[])
 |mp {i b:Nat} {V:Value} (hi:i<C.H.length) (hl:∃ r info,C.H[i]? = some r/\r.lp=some info/\r.live=false/\V=fg info.k b) (hb:C.ρ i=some b):RV P C (.mp i) V
 |gv {g:Nat} {V:Value} (hb:¬C.KI g) (hlt:g<C.w.heap.size) (hc:C.w.cell? ⟨g,0,none⟩=some V) (hV:∃ t a,V=.iface t (.pointer (some a))):RV P C (.gv g) V
 |bad {g:Nat} {V:Value} (h:fh P C g V):RV P C (.bad g) V
 |Lx {t:TypeId} {es es':List PV} {V:Value} (hp:es'.Perm es) (h:RV P C (.C9 false t es') V):RV P C (.Lx t es) V
structure Ext(C C':Ctx):Prop where
 os:C'.w.os=C.w.os
 tape:C'.w.tape=C.w.tape
 output:C'.w.output=C.w.output
 size:C.w.heap.size<=C'.w.heap.size
 block:∀ b,b<C.w.heap.size->¬C.own b->C'.w.heap[b]? = C.w.heap[b]?
 shape:∀(b:Nat) c e fr,C.w.heap[b]? = some (.cells c e fr)->∃ c' fr',C'.w.heap[b]? = some (.cells c' e fr')/\c'.size=c.size
 len:C.H.length<=C'.H.length
 rows:∀ i r',i<C.H.length->C'.row? i=some r'->∃ r,C.row? i=some r/\r.s=r'.s/\r.t=r'.t/\r.es.length<=r'.es.length/\(r.es.length=r'.es.length->r.nl=r'.nl/\∀ b,C.ρ i=some b->C'.ρ i=some b)
 fresh:∀ b,C'.has b->C.has b\/C.w.heap.size<=b
 D8:∀ b,C'.own b->C.own b\/C.w.heap.size<=b
 fo:C'.fo=C.fo
 ro:C'.ro=C.ro
 low:∀ i,i<C.ro->C'.H[i]? = C.H[i]? /\ C'.ρ i=C.ρ i
 lp:∀(i:Nat) r info,C.H[i]? = some r->r.lp=some info->r.live=false->(∃ r' st,C'.H[i]? = some r'/\r'.lp=some ⟨info.k,st⟩/\r'.live=false)/\∀ b,C.ρ i=some b->C'.ρ i=some b
 loop:∀(b:Nat) rec,C.w.heap[b]? = some (.loop rec)->∃ rec',C'.w.heap[b]? = some (.loop rec')
theorem Ext.refl(C:Ctx):Ext C C:=
 ⟨rfl,rfl,rfl,Al _,fun _ _ _=>rfl,fun _ c _ fr h=>⟨c,fr,h,rfl⟩,Al _,fun _ r' _ h=>⟨r',h,rfl,rfl,Al _,fun _=>⟨rfl,fun _ h=>h⟩⟩,fun _ h=>.inl h,fun _ h=>.inl h,rfl,rfl,fun _ _=>⟨rfl,rfl⟩,
  fun _ r info h1 h2 h3=>⟨⟨r,info.st,h1,h2,h3⟩,fun _ h=>h⟩,fun _ rec h=>⟨rec,h⟩⟩
theorem Ext.trans{A B C:Ctx}(h:Ext A B)(k:Ext B C):Ext A C where
 os:=k.os.trans h.os
 tape:=k.tape.trans h.tape
 output:=k.output.trans h.output
 size:=Bc h.size k.size
 block b hb hn:=by
  rw[k.block b (AA hb h.size) (fun ho=>(h.D8 b ho).elim hn (fun hle=>by omega)),h.block b hb hn]
 shape b c e fr hh:=by
  obtain⟨c1,fr1,h1,s1⟩:=h.shape b c e fr hh;obtain⟨c2,fr2,h2,s2⟩:=k.shape b c1 e fr1 h1;exact⟨c2,fr2,h2,s2.trans s1⟩
 len:=Bc h.len k.len
 rows i r' hi hr:=by
  obtain⟨r1,a1,a2,a3,a4,a5⟩:=k.rows i r' (AA hi h.len) hr;obtain⟨r0,b1,b2,b3,b4,b5⟩:=h.rows i r1 hi a1;exact⟨r0,b1,b2.trans a2,b3.trans a3,Bc b4 a4,fun e=>⟨(b5 (by omega)).1.trans (a5 (by omega)).1,fun b hb=>(a5 (by omega)).2 b ((b5 (by omega)).2 b hb)⟩⟩
 fresh b hb:=by
  rcases k.fresh b hb with h1 |h1
  ·exact h.fresh b h1
  ·exact .inr (Bc h.size h1)
 D8 b hb:=by
  rcases k.D8 b hb with h1 |h1
  ·exact h.D8 b h1
  ·exact .inr (Bc h.size h1)
 fo:=k.fo.trans h.fo
 ro:=k.ro.trans h.ro
 low i hi:=⟨((k.low i (by rw[h.ro];exact hi)).1).trans (h.low i hi).1,((k.low i (by rw[h.ro];exact hi)).2).trans (h.low i hi).2⟩
 lp i r info h1 h2 h3:=by
  obtain⟨⟨r1,st1,a1,a2,a3⟩,a4⟩:=h.lp i r info h1 h2 h3;obtain⟨⟨r2,st2,b1,b2,b3⟩,b4⟩:=k.lp i r1 _ a1 a2 a3;exact⟨⟨r2,st2,b1,b2,b3⟩,fun b hb=>b4 b (a4 b hb)⟩
 loop b rec hh:=by
  obtain⟨rec1,h1⟩:=h.loop b rec hh;exact k.loop b rec1 h1
theorem Ext.QT{C C':Ctx}(h:Ext C C'){b:Nat}(hb:¬C.KI b)(hlt:b<C.w.heap.size):¬C'.KI b:=
 fun ho=>ho.elim (fun ho=>(h.fresh b ho).elim (fun o=>hb (.inl o)) (fun hle=>by omega)) (fun hf=>hb (.inr (by rw[<- h.fo];exact hf)))
theorem Ext.cell{C C':Ctx}(h:Ext C C'){b:Nat}(hb:¬C.KI b)(hlt:b<C.w.heap.size)(x:Nat):C'.w.cell? ⟨b,x,none⟩=C.w.cell? ⟨b,x,none⟩:=by
 simp only[World.cell?,h.block b hlt (fun o=>hb (.inl o.has))]
theorem E4.mono{C C':Ctx}(h:Ext C C'){i k cap:Nat}{r r':Row}{a:Option Addr}(hs:r.s=r'.s)(hel:r.es.length=r'.es.length)(hρ:r.nl=r'.nl/\∀ b,C.ρ i=some b->C'.ρ i=some b)(hh:E4 C i r k a cap):E4 C' i r' k a cap:=by
 unfold E4 at *;rw[<- hρ.1,<- hs];split at hh
 ·rename_i hn;rw[Ak hn];exact hh
 ·rename_i hn;rw[Aq hn];obtain⟨b,h0,h1,c,e,fr,h2,h3⟩:=hh;obtain⟨c',fr',h4,h5⟩:=h.shape _ c e fr h2;exact⟨b,hρ.2 b h0,h1,c',e,fr',h4,by omega,by omega⟩
theorem RV.mono{C C':Ctx}(h:Ext C C'){p:PV}{V:Value}(hv:RV P C p V):RV P C' p V:=by
 induction hv with
 |any=>exact .any
 |val=>exact .val
 |ptr hV hk hi hn hh=>
  refine .ptr hV hk (AA hi h.len) (fun r' hr'=>?_) fun r' hr' hl=>?_
  ·obtain⟨r,a1,a2,_,a4,a5⟩:=h.rows _ r' hi hr';exact Bc (hn r a1) a4
  ·obtain⟨r,a1,a2,_,a4,a5⟩:=h.rows _ r' hi hr';have:=hn r a1;obtain⟨b,hb,hV⟩:=hh r a1 (by omega);exact⟨b,(a5 (by omega)).2 b hb,by rw[hV,a2]⟩
 |EF cv hb hlt hc hr ht ih=>
  exact .EF cv (h.QT hb hlt) (AA hlt h.size) (fun x p hx=>by rw[h.cell hb hlt];exact hc x p hx) ih ht
 |sl hV hi hn hh=>
  refine .sl hV (AA hi h.len) (fun r' hr'=>?_) fun r' hr' hl=>?_
  ·obtain⟨r,a1,a2,_,a4,a5⟩:=h.rows _ r' hi hr';exact Bc (hn r a1) a4
  ·obtain⟨r,a1,a2,_,a4,a5⟩:=h.rows _ r' hi hr';have:=hn r a1;obtain⟨hk,a,cap,hV,hc,hs⟩:=hh r a1 (by omega);exact⟨hk,a,cap,hV,hc,hs.mono h a2 (by omega) (a5 (by omega))⟩
 |C9 b off cv hcap hfull ha hc hr ht ih=>
  refine .C9 b off cv hcap hfull (fun h0=>?_) (fun x e j p hx hj=>?_) ih ht
  ·obtain⟨h1,h2,h3⟩:=ha h0;exact⟨h1,h.QT h2 h3,AA h3 h.size⟩
  ·have hx':x<_:=(Ad.1 hx).1;obtain⟨h1,h2,h3⟩:=ha (by omega);rw[h.cell h2 h3];exact hc x e j p hx hj
 |agg hs _ ih=>exact .agg hs ih
 |El hs _ ih=>exact .El hs ih
 |fn h1 h2 _ _ ih3 ih4=>exact .fn h1 h2 ih3 ih4
 |Kp _ ih=>exact .Kp ih
 |Ih hi hl hb=>
  obtain⟨r,info,h1,h2,h3⟩:=hl;obtain⟨⟨r',st,a1,a2,a3⟩,a4⟩:=h.lp _ r info h1 h2 h3;exact .Ih (AA hi h.len) ⟨r',_,a1,a2,a3⟩ (a4 _ hb)
 |mp hi hl hb=>
  obtain⟨r,info,h1,h2,h3,h5⟩:=hl;obtain⟨⟨r',st,a1,a2,a3⟩,a4⟩:=h.lp _ r info h1 h2 h3;exact .mp (AA hi h.len) ⟨r',_,a1,a2,a3,h5⟩ (a4 _ hb)
 |bad hb=>exact .bad (hb.tr fun x v h1 h2 h3=>⟨h.QT h1 h2,AA h2 h.size,by rw[h.cell h1 h2];exact h3⟩)
 |Lx hp _ ih=>exact .Lx hp ih
 |gv hb hlt hc hV=>exact .gv (h.QT hb hlt) (AA hlt h.size) (by rw[h.cell hb hlt];exact hc) hV
structure RB(P:Program)(C:Ctx)(b:Nat)(r:Row):Prop where
 sz:r.s=P.cellsOf r.t
 mem:∃(c:Array Value) (fr:Nat×Nat) (cv:Nat->Nat->Value),C.w.heap[b]? = some (.cells c r.t fr)/\(r.fz=false->∀ off,off<c.size->(decide (fr.1<=off)&&decide (off<fr.2))=false)/\r.es.length*r.s<=c.size /\
  ∀(k:Nat) e (j:Nat) p,r.es[k]? = some e->e.cells[j]? = some p->c[k*r.s+j]? = some (cv k j)/\RV P C p (cv k j)
 len:∀ e,e∈r.es->e.cells.length=r.s
 typed:r.bv=true->∀ e,e∈r.es->wt P r.t e=true
def FV(P:Program)(C:Ctx)(S:List PV)(t:Array Value):Prop:=
 t.size=S.length/\∀(i:Nat) p v,S[i]? = some p->t[i]? = some v->RV P C p v
theorem FV.mono{C C':Ctx}{S:List PV}{t:Array Value}(h:Ext C C')(hs:FV P C S t):FV P C' S t:=
 ⟨hs.1,fun i p v h1 h2=>(hs.2 i p v h1 h2).mono h⟩
inductive GV(c:Code):Code->Prop where
 |here:GV c c
 |seq1 {a b:Code} (h:GV c a):GV c (.seq a b)
 |V0 {a b:Code} (h:GV c b):GV c (.seq a b)
 |V1 {x:Operand} {a b:Code} (h:GV c a):GV c (.cond x a b)
 |V2 {x:Operand} {a b:Code} (h:GV c b):GV c (.cond x a b)
 |block {i:Nat} {a:Code} (h:GV c a):GV c (.block i a)
 |loop {a:Code} (h:GV c a):GV c (.loop a)
 |scope {a:Code} (h:GV c a):GV c (.scope a)
 |Ol {g:Operand} {ps:Array Tmp} {a b:Code} (h:GV c a):GV c (.rangeFunc g ps a b)
 |Om {g:Operand} {ps:Array Tmp} {a b:Code} (h:GV c b):GV c (.rangeFunc g ps a b)
theorem GV.trans{a b c:Code}(h:GV a b)(k:GV b c):GV a c:=by
 induction k with
 |here=>exact h
 |seq1 _ ih=>exact .seq1 ih
 |V0 _ ih=>exact .V0 ih
 |V1 _ ih=>exact .V1 ih
 |V2 _ ih=>exact .V2 ih
 |block _ ih=>exact .block ih
 |loop _ ih=>exact .loop ih
 |scope _ ih=>exact .scope ih
 |Ol _ ih=>exact .Ol ih
 |Om _ ih=>exact .Om ih
def EB(P:Program)(f:FuncId)(c:Code):Prop:=∃ fn b,P.funcs[f]? = some fn/\fn.body=some b/\GV c b
structure Mi(P:Program)(C:Ctx)(b:Nat)(info:FD):Prop where
 mem:∃ rec:Loop,C.w.heap[b]? = some (.loop rec)/\rec.params=info.k.ps/\rec.assign=info.k.HP/\rec.body=info.k.body/\FV P C info.k.S0 rec.tmps /\
  (match info.st with |.ready=>rec.state=.ready/\rec.pending=none |.busy=>rec.state=.busy |.done j=>rec.state=.done/\rec.pending=some j |_=>True)
 HP:EB P info.k.f info.k.HP
 body:EB P info.k.f info.k.body
def PV.flat:PV->Bool
 |.val _=>true
 |.agg cs=>cs.all fun c=>match c with |.val _=>true |_=>false
 |_=>false
theorem RV.flat{C C':Ctx}{p:PV}{V:Value}(hp:p.flat=true)(h:RV P C p V):RV P C' p V:=by
 cases h with
 |val=>exact .val
 |agg hs hh=>
  refine .agg hs fun j c v h1 h2=>?_
  simp only[PV.flat,Ao]at hp;have:=hp c (Ag h1);split at this
  ·cases hh j _ v h1 h2;exact .val
  ·cases this
 |_=>simp[PV.flat]at hp
def Dh(P:Program)(t:TypeId):Bool:=
 match P.underlying t with
 |some (.struct _) |some (.array _ _)=>true
 |_=>false
def PV.isAgg:PV->Bool
 |.agg _=>true
 |.val (.agg _)=>true
 |_=>false
def FO(P:Program)(T:TypeId)(p:PV):Bool:=p.flat&&wt P T p&&(p.isAgg==Dh P T)
def PV.Tu:PV->Bool
 |.val _=>true
 |.C9 _ _ _=>true
 |.agg cs=>cs.all fun c=>match c with |.val _=>true |.C9 _ _ _=>true |_=>false
 |_=>false
def lV:Kind->PV->Bool
 |.sl _,.val (.slice none 0 0)=>true
 |k,p=>KH k p
def Tv:List Kind->List PV->Bool
 | [],[]=>true
 |k::ks,p::ps=>lV k p&&Tv ks ps
 |_,_=>false
def ak(P:Program)(T:TypeId)(p:PV):Bool:=p.Tu&&(Tv (kinds P T) p.cells&&(kinds P T).length==P.cellsOf T)&&(p.isAgg==Dh P T)
theorem V3{T:TypeId}{p:PV}(h:ak P T p=true):p.Tu=true:=by simp only[ak,Aa]at h;exact h.1.1
structure QU(P:Program)(C:Ctx)(b:Nat)(K E:TypeId)(D:List (PV×PV)):Prop where
 mem:∃(es:Array MapEntry) (clock:Nat),C.w.heap[b]? = some (.map es clock)/\es.size=D.length/\clock=D.length /\
  ∀(i:Nat) k v e,D[i]? = some (k,v)->es[i]? = some e->e.born=i/\RV P C k e.key/\RV P C v e.val
 keys:∀ p,p∈D->FO P K p.1=true
 lW:∀ p,p∈D->ak P E p.2=true
def KJ:Obj->Bool |.map _ _=>true |.mapIter _ _ _ _=>true |_=>false
def QV(P:Program)(C:Ctx)(b:Nat)(info:FD):lQ->Prop
 |.fresh n=>∃ bm,FV P C info.k.S0 #[.map (some bm)]/\C.w.heap[b]? = some (.mapIter (some bm) n #[] n)
 |.at bm s seen c=>C.w.heap[b]? = some (.mapIter (some bm) s seen c)
 |.some=>∃ m s seen c,C.w.heap[b]? = some (.mapIter m s seen c)
 |.nil=>C.w.heap[b]? = some (.mapIter none 0 #[] 0)
theorem QV.via{C C':Ctx}{b:Nat}{info:FD}{s:lQ}(h:QV P C b info s)(fs:∀ t,FV P C info.k.S0 t->FV P C' info.k.S0 t)(hb:∀ o,KJ o=true->C.w.heap[b]? = some o->C'.w.heap[b]? = some o):QV P C' b info s:=by
 cases s with
 |fresh n=>obtain⟨bm,h1,h2⟩:=h;exact⟨bm,fs _ h1,hb _ rfl h2⟩
 | «at» bm s seen c=>exact hb _ rfl h
 |some=>obtain⟨m,s,seen,c,h1⟩:=h;exact⟨m,s,seen,c,hb _ rfl h1⟩
 |nil=>exact hb _ rfl h
theorem QV.obj{C:Ctx}{b:Nat}{info:FD}{s:lQ}(h:QV P C b info s):∃ o,KJ o=true/\C.w.heap[b]? = some o:=by
 cases s with
 |fresh n=>obtain⟨bm,h1,h2⟩:=h;exact⟨_,rfl,h2⟩
 | «at» bm s seen c=>exact⟨_,rfl,h⟩
 |some=>obtain⟨m,s,seen,c,h1⟩:=h;exact⟨_,rfl,h1⟩
 |nil=>exact⟨_,rfl,h⟩
structure FJ(P:Program)(C:Ctx)(b:Nat)(info:FD):Prop where
 xr:info.st.isMap=false->Mi P C b info
 map:∀ K E D,info.st=.map K E D->QU P C b K E D
 mpp:∀ K E D,info.st=.Gy K E D->∃ D',D'.Perm D/\QU P C b K E D'/\D.Pairwise fun x y=>x.1.cells≠y.1.cells
 aq:∀ s,info.st=.iter s->QV P C b info s
theorem Gb{T:TypeId}{p:PV}(h:FO P T p=true):p.flat=true:=by simp only[FO,Aa]at h;exact h.1.1
theorem QU.via{C C':Ctx}{b:Nat}{K E:TypeId}{D:List (PV×PV)}(h:QU P C b K E D)(hrv:∀ p V,p.Tu=true->RV P C p V->RV P C' p V)(hb:∀ es c,C.w.heap[b]? = some (.map es c)->C'.w.heap[b]? = some (.map es c)):QU P C' b K E D:=by
 obtain⟨⟨es,c,h1,h2,h3,h4⟩,hk,hv⟩:=h;exact⟨⟨es,c,hb es c h1,h2,h3,fun i k v e g1 g2=>⟨(h4 i k v e g1 g2).1,(h4 i k v e g1 g2).2.1.flat (Gb (hk _ (Ag g1))),hrv _ _ (V3 (hv _ (Ag g1))) (h4 i k v e g1 g2).2.2⟩⟩,hk,hv⟩
theorem FJ.via{C C':Ctx}{b:Nat}{info:FD}(h:FJ P C b info)(hrv:∀ p V,p.Tu=true->RV P C p V->RV P C' p V)(fs:∀ t,FV P C info.k.S0 t->FV P C' info.k.S0 t)(f:Mi P C b info->Mi P C' b info)(hb:∀ o,KJ o=true->C.w.heap[b]? = some o->C'.w.heap[b]? = some o):FJ P C' b info:=
 ⟨fun hn=>f (h.xr hn),fun K E D he=>(h.map K E D he).via hrv fun _ _ h=>hb _ rfl h,fun K E D he=>let ⟨D',h1,h2,h3⟩:=h.mpp K E D he; ⟨D',h1,h2.via hrv (fun _ _ h=>hb _ rfl h),h3⟩,fun s he=>(h.aq s he).via fs hb⟩
theorem Mi.mono{C C':Ctx}(h:Ext C C'){b:Nat}{info:FD}(hb:C'.w.heap[b]? = C.w.heap[b]?)(hr:Mi P C b info):Mi P C' b info:=by
 obtain⟨⟨rec,h1,h2,h3,h4,h5,h6⟩,ha,hbd⟩:=hr;exact⟨⟨rec,by rw[hb,h1],h2,h3,h4,h5.mono h,h6⟩,ha,hbd⟩
theorem FJ.mono{C C':Ctx}(h:Ext C C'){b:Nat}{info:FD}(hb:C'.w.heap[b]? = C.w.heap[b]?)(hr:FJ P C b info):FJ P C' b info:=
 hr.via (fun _ _ _ hv=>hv.mono h) (fun _ hs=>hs.mono h) (fun h'=>h'.mono h hb) (fun _ _ h'=>by rw[hb,h'])
theorem FJ.po{C:Ctx}{b:Nat}{info:FD}(h:FJ P C b info){rec:Loop}(hh:C.w.heap[b]? = some (.loop rec)):Mi P C b info:=by
 cases hm:info.st with
 |map K E D=>
  obtain⟨es,c,h1,_⟩:=(h.map K E D hm).mem;rw[hh]at h1;cases h1
 |Gy K E D=>
  obtain⟨D',_,h2,_⟩:=h.mpp K E D hm;obtain⟨es,c,h1,_⟩:=h2.mem;rw[hh]at h1;cases h1
 |iter s=>
  obtain⟨o,ho,h1⟩:=(h.aq s hm).obj;rw[hh]at h1;cases h1;cases ho
 |_=>exact h.xr (by rw[hm];rfl)
theorem FJ.obj{C:Ctx}{b:Nat}{info:FD}(h:FJ P C b info):(∃ rec,C.w.heap[b]? = some (.loop rec))\/∃ o,KJ o=true/\C.w.heap[b]? = some o:=by
 cases hm:info.st with
 |map K E D=>obtain⟨es,c,h1,_⟩:=(h.map K E D hm).mem;exact .inr ⟨_,rfl,h1⟩
 |Gy K E D=>obtain⟨D',_,h2,_⟩:=h.mpp K E D hm;obtain⟨es,c,h1,_⟩:=h2.mem;exact .inr ⟨_,rfl,h1⟩
 |iter s=>exact .inr (h.aq s hm).obj
 |_=>obtain⟨rec,h1,_⟩:=(h.xr (by rw[hm];rfl)).mem;exact .inl ⟨rec,h1⟩
def Ut(P:Program)(g:Nat):Bool:=match P.globals[g]? with |some G=>G.name == "hachure/braille.none" |none=>false
def lk(P:Program)(C:Ctx):Prop:=∀ g,Ut P g=true->¬C.KI g/\g<C.w.heap.size/\∃ t a,C.w.cell? ⟨g,0,none⟩=some (.iface t (.pointer (some a)))/\P.typeName? 3 t=some "*errors.errorString"
theorem lk.mono{C C':Ctx}(h:Ext C C')(hg:lk P C):lk P C':=fun g hl=>by
 obtain⟨h1,h2,t,a,h3,h4⟩:=hg g hl;exact⟨h.QT h1 h2,AA h2 h.size,t,a,by rw[h.cell h1 h2];exact h3,h4⟩
structure RH(P:Program)(C:Ctx):Prop where
 inj:∀ i j b,C.ρ i=some b->C.ρ j=some b->i=j
 Ly:∀ i b,C.ρ i=some b->(∃ r,C.row? i=some r)\/∃ r info,C.H[i]? = some r/\r.lp=some info/\r.live=false
 GP:∀ i b r,C.ρ i=some b->C.row? i=some r->RB P C b r
 ro:C.ro<=C.H.length
 IU:∀ i b,C.ρ i=some b->¬C.fo b
 Kq:∀ b,C.fo b->b<C.w.heap.size
 Ii:∀(i b:Nat) r info,C.ρ i=some b->C.H[i]? = some r->r.lp=some info->r.live=false->FJ P C b info
 LQ:lk P C
theorem FJ.lt{C:Ctx}{b:Nat}{info:FD}(h:FJ P C b info):b<C.w.heap.size:=by
 rcases h.obj with ⟨rec,h1⟩ |⟨es,c,h1⟩
 ·exact(At.1 h1).1
 ·exact(At.1 h1).1
theorem RB.lt{C:Ctx}{b:Nat}{r:Row}(h:RB P C b r):b<C.w.heap.size:=by
 obtain⟨c,fr,cv,hh,_⟩:=h.mem;exact(At.1 hh).1
theorem RH.lt{C:Ctx}(h:RH P C){i b:Nat}(hi:C.ρ i=some b):b<C.w.heap.size:=by
 rcases h.Ly i b hi with ⟨r,hr⟩ |⟨r,info,h1,h2,h3⟩
 ·exact(h.GP i b r hi hr).lt
 ·exact(h.Ii i b r info hi h1 h2 h3).lt
def ev(S:List PV):Operand->PV
 |.tmp t=>S.getD t (.val undef)
 |.const v=>.val v
 |.global g=>.val (.pointer (some ⟨g,0,none⟩))
 |.func f=>.fn (.func f) [] []
theorem FV.ev{C:Ctx}{S:List PV}{a:Act}(h:FV P C S a.tmps)(x:Operand):RV P C (ev S x) (a.eval x):=by
 cases x with
 |tmp t=>
  show RV P C (S.getD t (.val undef)) (a.tmps.getD t undef)
  by_cases ht:t<S.length
  ·have h1:S[t]? = some S[t]:=Ae ht;have h2:a.tmps[t]? = some (a.tmps[t]'(by rw[h.1];exact ht)):=AD _;have:=h.2 t _ _ h1 h2;simpa [List.getD,Array.getD,ht,h.1] using this
  ·have h1:S.getD t (.val undef)=.val undef:=by simp[List.getD,List.getElem?_eq_none (Nat.le_of_not_lt ht)]
   have h2:a.tmps.getD t undef=undef:=by simp[Array.getD,h.1,ht]
   rw[h1,h2];exact .val
 |const v=>exact .val
 |global g=>exact .val
 |func f=>exact .fn rfl rfl (fun j c v h=>by simp at h) (fun j c v h=>by simp at h)
theorem FV.put{C:Ctx}{S:List PV}{a:Act}(h:FV P C S a.tmps){d:Option Tmp}{p:PV}{v:Value}(hv:RV P C p v):
  FV P C (match d with |some d=>S.set d p |none=>S) (a.put d v).tmps:=by
 cases d with
 |none=>exact h
 |some d=>
  refine⟨by simp[Act.put,h.1],fun i q u h1 h2=>?_⟩;simp only[Act.put]at h2;by_cases hid:d=i
  ·subst hid;rw[Ax]at h1;rw[AW]at h2;simp only[BV]at h1 h2;split at h1
   ·split at h2
    ·cases h1;cases h2;exact hv
    ·cases h2
   ·cases h1
  ·rw[Ax,Aq hid]at h1;rw[AW,Aq hid]at h2;exact h.2 i q u h1 h2
def Ctx.bind(C:Ctx)(i:Nat)(o:Obj):Ctx:={ ρ:=fun x=>if x=i then some C.w.heap.size else C.ρ x,H:=C.H,w:=C.w.alloc o,fo:=C.fo,ro:=C.ro }
theorem Ctx.Gz{C:Ctx}{i:Nat}(hi:C.ρ i=none)(hro:C.ro<=i)(o:Obj):Ext C (C.bind i o) where
 os:=rfl
 tape:=rfl
 output:=rfl
 size:=by simp[Ctx.bind]
 block b hb _:=AY C.w o hb
 shape b c e fr h:=⟨c,fr,by rw[<- h];exact AY C.w o (At.1 h).1,rfl⟩
 len:=Al _
 rows j r' _ hr:=⟨r',hr,rfl,rfl,Al _,fun _=>⟨rfl,fun b hb=>by
  have hji:j≠i:=fun e=>by rw[e,hi]at hb;cases hb
  simp[Ctx.bind,hji,hb]⟩⟩
 fresh b hb:=by
  obtain⟨j,hj⟩:=hb;simp only[Ctx.bind]at hj;split at hj
  ·cases hj;exact .inr (Al _)
  ·exact .inl ⟨j,hj⟩
 D8 b hb:=by
  obtain⟨j,hjr,hj⟩:=hb;simp only[Ctx.bind]at hj hjr;split at hj
  ·cases hj;exact .inr (Al _)
  ·exact .inl ⟨j,hjr,hj⟩
 fo:=rfl
 ro:=rfl
 low j hj:=⟨rfl,by simp only[Ctx.bind];rw[Aq (by omega)]⟩
 lp j r info h1 h2 h3:=⟨⟨r,info.st,h1,h2,h3⟩,fun b hb=>by
  have hji:j≠i:=fun e=>by rw[e,hi]at hb;cases hb
  simp[Ctx.bind,hji,hb]⟩
 loop b rec h:=⟨rec,by rw[<- h];exact AY C.w o (At.1 h).1⟩
theorem RB.mono{C C':Ctx}(h:Ext C C'){b:Nat}{r:Row}(hb:C'.w.heap[b]? = C.w.heap[b]?)(hr:RB P C b r):RB P C' b r:=by
 obtain⟨c,fr,cv,h1,h2,h3,h4⟩:=hr.mem;exact⟨hr.sz,⟨c,fr,cv,by rw[hb,h1],h2,h3,fun k e j p hk hj=>⟨(h4 k e j p hk hj).1,(h4 k e j p hk hj).2.mono h⟩⟩,hr.len,hr.typed⟩
theorem Ctx.Tw{C:Ctx}(hR:RH P C){i:Nat}(hi:C.ρ i=none)(hro:C.ro<=i){r:Row}(hr:C.row? i=some r)(hsz:r.s=P.cellsOf r.t)
  {c:Array Value} {fr:Nat×Nat} (hfr:r.fz=false->∀ off,off<c.size->(decide (fr.1<=off)&&decide (off<fr.2))=false) (hc:r.es.length*r.s<=c.size)
  (cv:Nat->Nat->Value) (hv:∀(k:Nat) e (j:Nat) p,r.es[k]? = some e->e.cells[j]? = some p->c[k*r.s+j]? = some (cv k j)/\RV P C p (cv k j))
  (hl:∀ e,e∈r.es->e.cells.length=r.s) (ht:r.bv=true->∀ e,e∈r.es->wt P r.t e=true):RH P (C.bind i (.cells c r.t fr)):=by
 have hx:=Ctx.Gz (C:=C) hi hro (.cells c r.t fr);refine⟨fun x y b hx hy=>?_,fun x b hx=>?_,fun x b r' h1 h2=>?_,hR.ro,fun x b hx=>?_,fun b hb=>AA (hR.Kq b hb) hx.size,fun x b r' info h1 h2 h3 h4=>?_,hR.LQ.mono hx⟩
 ·simp only[Ctx.bind]at hx hy;split at hx <;> split at hy
  ·omega
  ·cases hx;have:=hR.lt hy;omega
  ·cases hy;have:=hR.lt hx;omega
  ·exact hR.inj x y b hx hy
 ·simp only[Ctx.bind]at hx;split at hx
  ·rename_i e;subst e;exact .inl ⟨r,hr⟩
  ·exact hR.Ly x b hx
 ·simp only[Ctx.bind]at h1;split at h1
  ·rename_i e;subst e;cases h1;have e2:r'=r:=Ah ((show C.row? x=some r' from h2).symm.trans hr);subst e2;exact⟨hsz,⟨c,fr,cv,heap_alloc_new C.w _,hfr,hc,fun k e j p hk hj=>⟨(hv k e j p hk hj).1,(hv k e j p hk hj).2.mono hx⟩⟩,hl,ht⟩
  ·have hb:=hR.GP x b r' h1 h2;exact hb.mono hx (AY C.w _ hb.lt)
 ·simp only[Ctx.bind]at hx ⊢;split at hx
  ·cases hx;exact fun hf=>Di _ (hR.Kq _ hf)
  ·exact hR.IU x b hx
 ·simp only[Ctx.bind]at h1;split at h1
  ·rename_i e;subst e;have:C.row? x=none:=by unfold Ctx.row? rowAt;rw[show C.H[x]? = some r' from h2];simp[h4]
   rw[this]at hr;cases hr
  ·have hb:=hR.Ii x b r' info h1 h2 h3 h4;exact hb.mono hx (AY C.w _ hb.lt)
noncomputable def GQ(a b:List Row):Bool:=@decide (a=b) (Classical.propDecidable _)
theorem Tx{a b:List Row}:GQ a b=true ↔ a=b:=by unfold GQ;exact @B5 _ (Classical.propDecidable _)
theorem EM(a:List Row):GQ a a=true:=Tx.2 rfl
end Go.Hx

namespace Go.Hx
variable{P:Program}{C:Ctx}
def known(P:Program)(t:TypeId):Bool:=(P.info? t).isSome&&(P.underlying t).isSome
def Yl:Kind->PV->PV
 |.int k,p=>.val (.int k p.DL)
 |.bool,p=>.val (.bool p.cQ)
 |.str,p=>.val (.string p.GU)
 |.sl t,p=>.C9 false t p.Tf
 |.other,p=>p
theorem RV.Yl{k:Kind}{p:PV}{V:Value}(hk:KH k p=true)(h:RV P C p V):RV P C (Yl k p) V:=by
 unfold KH at hk;split at hk
 ·rename_i k k' n;have e:k=k':=by simpa using hk
  subst e;exact h
 ·exact h
 ·exact h
 ·rename_i t full t' es;have e:t=t':=by simpa using hk
  subst e;cases h with
  |C9 b off cv hcap hfull ha hc hr ht=>exact .C9 b off cv hcap (fun h=>by cases h) ha hc hr ht
 ·cases hk
def pick(P:Program)(t:TypeId)(bv:Bool)(e:PV)(x:Nat):PV:=
 if bv then Yl ((kinds P t).getD x .other) (e.cellAt x) else e.cellAt x
def Ym(P:Program)(t:TypeId)(bv:Bool)(s:Nat)(e:PV)(T:TypeId)(j:Nat):Option PV:=
 if known P T then
  if Dh P T then (if j+P.cellsOf T<=s then some (.agg ((List.range (P.cellsOf T)).map fun x=>pick P t bv e (j+x))) else none)
  else (if j<s then some (pick P t bv e j) else none)
 else none
theorem RV.pick{t:TypeId}{bv:Bool}{e:PV}{x:Nat}{V:Value}(ht:bv=true->wt P t e=true)(hx:x<e.cells.length)
  (h:∀ p,e.cells[x]? = some p->RV P C p V):RV P C (pick P t bv e x) V:=by
 have h0:e.cells[x]? = some (e.cellAt x):=by simp[PV.cellAt,List.getD,List.getElem?_eq_getElem hx]
 have h1:=h _ h0;unfold Hx.pick;split
 ·rename_i hb;have hw:=ht hb;simp only[wt,Aa,Ay]at hw;have hl:=IT hw.1;have hk:(kinds P t)[x]? = some ((kinds P t).getD x .other):=by
   have:x<(kinds P t).length:=by omega
   simp[List.getD,List.getElem?_eq_getElem this]
  exact h1.Yl (VZ hw.1 hk h0)
 ·exact h1
section
variable {P:Program} (w:World)
theorem F1{T:TypeId}(h:known P T=true):∃ i d,P.info? T=some i/\P.underlying T=some d/\P.cellsOf T=i.size:=by
 simp only[known,Aa]at h;obtain⟨i,hi⟩:=B_.1 h.1;obtain⟨d,hd⟩:=B_.1 h.2;exact⟨i,d,hi,hd,by simp[Program.cellsOf,hi]⟩
theorem run_sizeOf{T:TypeId}(h:known P T=true):(sizeOf T).run P w=.ok (P.cellsOf T) w:=by
 obtain⟨i,d,hi,hd,hs⟩:=F1 h;simp[sizeOf,typeInfo,hi,hs]
theorem Ty{T:TypeId}(h:known P T=true):(isAgg T).run P w=.ok (Dh P T) w:=by
 obtain⟨i,d,hi,hd,hs⟩:=F1 h;simp only[isAgg,Dh,Sem.run_bind,Go.run_underlying hd,Result.andThen_ok,hd];cases d <;> rfl
theorem KK{T:TypeId}(h:known P T=true)(b off:Nat)(f:Nat->Value)(hc:∀ x,x<(if Dh P T then P.cellsOf T else 1)->w.cell? ⟨b,off+x,none⟩=some (f x)):
  (loadVar T ⟨b,off,none⟩).run P w=.ok (if Dh P T then .agg ((List.range (P.cellsOf T)).map f).toArray else f 0) w:=by
 have hadd:∀ x,(⟨b,off,none⟩:Addr).add x=⟨b,off+x,none⟩:=fun x=>by unfold Addr.add;split <;> simp_all
 unfold loadVar;simp only[Sem.run_bind,Ty w h,Result.andThen_ok];by_cases ha:Dh P T=true
 ·simp only[ha,BV]at hc ⊢;simp only[Sem.run_bind,run_sizeOf w h,Result.andThen_ok];rw[run_loadCells w _ _ f (fun x hx=>by rw[hadd];exact hc x hx)];rfl
 ·simp only[ha]at hc ⊢;have:=hc 0 (by simp);simp only[BA]at this;simp[this]
end
theorem MA{t T:TypeId}{bv:Bool}{s j b off:Nat}{e p:PV}(cv:Nat->Value)(hs:e.cells.length=s)(ht:bv=true->wt P t e=true)
  (hc:∀(x:Nat) q,e.cells[x]? = some q->C.w.cell? ⟨b,off+x,none⟩=some (cv x)/\RV P C q (cv x)) (hg:Ym P t bv s e T j=some p):
  ∃ v,(loadVar T ⟨b,off+j,none⟩).run P C.w=.ok v C.w/\RV P C p v:=by
 unfold Ym at hg;split at hg
 ·rename_i hk;have cell:∀ x,x<s->C.w.cell? ⟨b,off+x,none⟩=some (cv x):=fun x hx=>(hc x _ (Ae (by omega:x<e.cells.length))).1
  split at hg
  ·rename_i ha;split at hg
   ·rename_i hj;cases hg;refine⟨_,KK C.w hk b (off+j) (fun x=>cv (j+x)) (fun x hx=>?_),?_⟩
    ·rw[Ak ha]at hx;rw[B3];exact cell _ (by omega)
    ·rw[Ak ha];refine .agg (by simp) fun x c v h1 h2=>?_
     simp only[An,Af]at h1;obtain⟨y,hy,rfl⟩:=h1;have hyx:=Be (n:=P.cellsOf T) (i:=x) (by
      rcases Bv x (P.cellsOf T) with h |h
      ·exact h
      ·rw[AG (by simpa using h)]at hy;cases hy)
     rw[hyx]at hy;cases hy;have hlt:x<P.cellsOf T:=by
      rcases Bv x (P.cellsOf T) with h |h
      ·exact h
      ·rw[AG (by simpa using h)]at hyx;cases hyx
     have e2:v=cv (j+x):=by simpa [hlt] using h2.symm
     subst e2;exact RV.pick ht (by omega) fun q hq=>(hc _ q hq).2
   ·cases hg
  ·rename_i ha;split at hg
   ·rename_i hj;cases hg;refine⟨_,KK C.w hk b (off+j) (fun x=>cv (j+x)) (fun x hx=>?_),?_⟩
    ·rw[Aq ha]at hx;have:x=0:=by omega
     subst this;exact cell _ hj
    ·rw[Aq ha];exact RV.pick ht (by omega) fun q hq=>(hc _ q hq).2
   ·cases hg
 ·cases hg
def fi(op:BinOp)(k:IntKind)(a b:Int):Option PV:=
 match op with
 |.add=>some (.val (.int k (k.wrap (a+b))))
 |.sub=>some (.val (.int k (k.wrap (a-b))))
 |.mul=>some (.val (.int k (k.wrap (a*b))))
 |.quo=>if b=0 then none else some (.val (.int k (k.wrap (a.tdiv b))))
 |.rem=>if b=0 then none else some (.val (.int k (a.tmod b)))
 |.and=>some (.val (.int k (bits .and k a b)))
 |.or=>some (.val (.int k (bits .or k a b)))
 |.xor=>some (.val (.int k (bits .xor k a b)))
 |.andNot=>some (.val (.int k (bits .andNot k a b)))
 |.eql=>some (.val (.bool (a==b)))
 |.neq=>some (.val (.bool (a != b)))
 |.lss=>some (.val (.bool (decide (a<b))))
 |.leq=>some (.val (.bool (decide (a<=b))))
 |.gtr=>some (.val (.bool (decide (a > b))))
 |.geq=>some (.val (.bool (decide (a ≥ b))))
 |_=>none
def fj(op:BinOp)(x y:ByteArray):Option PV:=
 match op with
 |.add=>if ((x.size+y.size:Nat):Int) > IntKind.i64.max then none else some (.val (.string (x++y)))
 |.eql=>some (.val (.bool (x.toList==y.toList)))
 |.neq=>some (.val (.bool !(x.toList==y.toList)))
 |.lss=>some (.val (.bool (Op.bytesLess x.toList y.toList)))
 |.leq=>some (.val (.bool (Op.bytesLess x.toList y.toList||x.toList==y.toList)))
 |.gtr=>some (.val (.bool !(Op.bytesLess x.toList y.toList||x.toList==y.toList)))
 |.geq=>some (.val (.bool !(Op.bytesLess x.toList y.toList)))
 |_=>none
def MB(P:Program):Nat->TypeId->List PV->List PV->Option Bool
 |0,_,_,_=>none
 |d+1,t,xs,ys=>
  match P.underlying t with
  |some .bool=>match xs,ys with | [.val (.bool a)],[.val (.bool b)]=>some (a==b) |_,_=>none
  |some (.int _)=>match xs,ys with | [.val (.int k a)],[.val (.int k' b)]=>if k=k' then some (a==b) else none |_,_=>none
  |some .string=>match xs,ys with | [.val (.string a)],[.val (.string b)]=>some (a.toList==b.toList) |_,_=>none
  |some (.struct fs)=>if P.stoodInHeld t then none else fields (fun t=>MB P d t) xs ys fs.toList
  |some (.array n e)=>if known P e then items (fun t=>MB P d t) e xs ys (List.range n) else none
  |_=>none
 where
 one (rec:TypeId->List PV->List PV->Option Bool) (t:TypeId) (off:Nat) (xs ys:List PV):Option Bool:=
  if known P t&&((Dh P t)||P.cellsOf t==1)&&decide (off+P.cellsOf t<=xs.length)&&decide (off+P.cellsOf t<=ys.length) then
   rec t ((xs.drop off).take (P.cellsOf t)) ((ys.drop off).take (P.cellsOf t)) else none
 fields (rec:TypeId->List PV->List PV->Option Bool) (xs ys:List PV):List Field->Option Bool
  | []=>some true
  |f::fs=>
   if f.name ≠ "_" then
    match one rec f.type f.offset xs ys,fields rec xs ys fs with
    |some a,some b=>some (a&&b)
    |_,_=>none
   else fields rec xs ys fs
 items (rec:TypeId->List PV->List PV->Option Bool) (e:TypeId) (xs ys:List PV):List Nat->Option Bool
  | []=>some true
  |i::is=>
   match one rec e (i*P.cellsOf e) xs ys,items rec e xs ys is with
   |some a,some b=>some (a&&b)
   |_,_=>none
def cT(P:Program)(t:TypeId)(a:Array Value):Value:=if Dh P t then .agg a else a.getD 0 undef
def Cs(P:Program)(C:Ctx)(xs:List PV)(a:Array Value):Prop:=a.size=xs.length/\∀(j:Nat) c v,xs[j]? = some c->a[j]? = some v->RV P C c v
theorem Cs.sub{xs:List PV}{a:Array Value}(h:Cs P C xs a)(off n:Nat)(hn:off+n<=xs.length):Cs P C ((xs.drop off).take n) (a.extract off (off+n)):=by
 refine⟨by simp[h.1];omega,fun j c v h1 h2=>?_⟩;rw[Au]at h1;split at h1
 ·rw[A8]at h1;rw[Array.getElem?_extract]at h2;split at h2
  ·exact h.2 (off+j) c v h1 h2
  ·cases h2
 ·cases h1
section
variable {P:Program} (w:World)
theorem KL{t:TypeId}(h:known P t=true)(hs:(Dh P t||P.cellsOf t==1)=true)(a:Array Value)(off:Nat)(hn:off+P.cellsOf t<=a.size):
  (part t a off).run P w=.ok (cT P t (a.extract off (off+P.cellsOf t))) w:=by
 unfold part cT;simp only[Sem.run_bind,Ty w h,Result.andThen_ok];by_cases ha:Dh P t=true
 ·simp[ha,run_sizeOf w h]
 ·simp only[ha,Bt,Ay]at hs;simp only[hs]at hn ⊢;have:a[off]? = some (a[off]'(by omega)):=AD (by omega);simp only[ha,A4,Cd,this,Sem.run_pure];congr 1
  have h3:(a.extract off (off+1))[0]? = some (a[off]'(by omega)):=by
   rw[Array.getElem?_extract];rw[Ak (by omega)];simp
  simp only[Bk,h3,Bx]
theorem run_equalIn_array(d:Nat)(t e:TypeId)(n:Nat)(xs ys:Array Value)(ht:P.underlying t=some (.array n e))(hk:known P e=true):
  (Op.equalIn (d+1) t (.agg xs) (.agg ys)).run P w=(Op.eqItems d e (P.cellsOf e) xs ys (List.range n)).run P w:=by
 simp only[Op.equalIn,Sem.run_bind,run_underlying ht,Result.andThen_ok,run_sizeOf w hk];rw[Std.Legacy.Range.forIn_eq_forIn_range'];simp only[Std.Legacy.Range.size,Nat.sub_zero,Nat.add_sub_cancel,Nat.div_one,<- List.range_eq_range'];generalize List.range n=is;induction is generalizing w with
 |nil=>simp[Op.eqItems]
 |cons i is ih=>
  simp only[List.forIn_cons,Op.eqItems,Sem.run_bind];generalize (part e xs (i*P.cellsOf e)).run P w=r1;cases r1 with
  |ok a w1=>
   simp only[Result.andThen_ok];generalize (part e ys (i*P.cellsOf e)).run P w1=r2;cases r2 with
   |ok b w2=>
    simp only[Result.andThen_ok];generalize (Op.equalIn d e a b).run P w2=r3;cases r3 with
    |ok r w3=>
     cases r
     ·simp
     ·simpa using ih w3
    |halt x w3=>simp[Result.andThen]
   |halt x w2=>simp[Result.andThen]
  |halt x w1=>simp[Result.andThen]
end
theorem JQ{P:Program}{C:Ctx}:∀(d:Nat) {t:TypeId} {xs ys:List PV} {r:Bool},MB P d t xs ys=some r->∀(a b:Array Value),Cs P C xs a->Cs P C ys b ->
  ∀(D:Nat) (w:World),d<=D->(Op.equalIn D t (cT P t a) (cT P t b)).run P w=.ok r w
 |0,_,_,_,_,h=>by simp[MB]at h
 |d+1,t,xs,ys,r,h=>by
  intro a b ha hb D w hD;obtain⟨D,rfl⟩:∃ D',D=D'+1:=⟨D-1,by omega⟩;have one:∀{t:TypeId} {off:Nat} {r:Bool},MB.one P (fun t=>MB P d t) t off xs ys=some r->known P t=true /\
    ∃ x y,(∀ w,(part t a off).run P w=.ok x w)/\(∀ w,(part t b off).run P w=.ok y w)/\∀ w,(Op.equalIn D t x y).run P w=.ok r w:=by
   intro t off r h;unfold MB.one at h;split at h
   ·rename_i hc;simp only[Aa,Ab]at hc;obtain⟨⟨⟨h1,h2⟩,h3⟩,h4⟩:=hc;refine⟨h1,_,_,fun w=>KL w h1 h2 a off (by rw[ha.1];exact h3),fun w=>KL w h1 h2 b off (by rw[hb.1];exact h4),fun w=>?_⟩;exact JQ d h _ _ (ha.sub off _ h3) (hb.sub off _ h4) D w (by omega)
   ·cases h
  unfold MB at h;split at h
  ·rename_i hu;split at h
   ·cases h;have:=ha.1;have:=hb.1;obtain⟨x,rfl⟩:∃ x,a = #[x]:=by
     match a,ha.1 with |⟨[x]⟩,_=>exact⟨x,rfl⟩
    obtain⟨y,rfl⟩:∃ x,b = #[x]:=by
     match b,hb.1 with |⟨[x]⟩,_=>exact⟨x,rfl⟩
    cases ha.2 0 _ _ rfl rfl;cases hb.2 0 _ _ rfl rfl;have hag:Dh P t=false:=by simp[Dh,hu]
    simp[cT,hag,Op.equalIn,run_underlying hu]
   ·cases h
  ·rename_i q hu;split at h
   ·split at h
    ·rename_i hk;subst hk;cases h;obtain⟨x,rfl⟩:∃ x,a = #[x]:=by
      match a,ha.1 with |⟨[x]⟩,_=>exact⟨x,rfl⟩
     obtain⟨y,rfl⟩:∃ x,b = #[x]:=by
      match b,hb.1 with |⟨[x]⟩,_=>exact⟨x,rfl⟩
     cases ha.2 0 _ _ rfl rfl;cases hb.2 0 _ _ rfl rfl;have hag:Dh P t=false:=by simp[Dh,hu]
     simp[cT,hag,Op.equalIn,run_underlying hu]
    ·cases h
   ·cases h
  ·rename_i hu;split at h
   ·cases h;obtain⟨x,rfl⟩:∃ x,a = #[x]:=by
     match a,ha.1 with |⟨[x]⟩,_=>exact⟨x,rfl⟩
    obtain⟨y,rfl⟩:∃ x,b = #[x]:=by
     match b,hb.1 with |⟨[x]⟩,_=>exact⟨x,rfl⟩
    cases ha.2 0 _ _ rfl rfl;cases hb.2 0 _ _ rfl rfl;have hag:Dh P t=false:=by simp[Dh,hu]
    simp[cT,hag,Op.equalIn,run_underlying hu,beq_toListBytes]
   ·cases h
  ·rename_i fs hu;split at h
   ·cases h
   ·rename_i hst;have hag:Dh P t=true:=by simp[Dh,hu]
    have hf:P.fieldsOf t=fs:=by simp[Program.fieldsOf,hu]
    simp only[cT,hag,BV];rw[run_equalIn_struct w D t a b (by rw[hf];exact hu) (by simpa using hst),hf]
    revert h
    generalize fs.toList=l;induction l generalizing r w with
    |nil=>intro h;simp only[MB.fields,A5]at h;subst h;simp[Op.eqFields]
    |cons f l ih=>
     intro h;simp only[MB.fields]at h;simp only[Op.eqFields];split at h
     ·rename_i hn;rw[Ak hn];split at h
      ·rename_i p q h1 h2;cases h;obtain⟨_,x,y,e1,e2,e3⟩:=one h1;simp only[Sem.run_bind,e1,e2,e3,Result.andThen_ok];cases p
       ·simp
       ·simpa using ih _ w h2
      ·cases h
     ·rename_i hn;rw[Aq hn];exact ih _ w h
  ·rename_i n e hu;have hag:Dh P t=true:=by simp[Dh,hu]
   simp only[cT,hag,BV];split at h
   ·rename_i hke;rw[run_equalIn_array w D t e n a b hu hke]
    revert h
    generalize List.range n=l;induction l generalizing r w with
    |nil=>intro h;simp only[MB.items,A5]at h;subst h;simp[Op.eqItems]
    |cons i l ih=>
     intro h;simp only[MB.items]at h;simp only[Op.eqItems];split at h
     ·rename_i p q h1 h2;cases h;obtain⟨_,x,y,e1,e2,e3⟩:=one h1;simp only[Sem.run_bind,e1,e2,e3,Result.andThen_ok];cases p
      ·simp
      ·simpa using ih _ w h2
     ·cases h
   ·cases h
  ·cases h
theorem RV.V4{p:PV}{V:Value}(h:RV P C p V)(hp:p.isAgg=true):∃ a,V=.agg a/\Cs P C p.cells a:=by
 cases h <;> simp[PV.isAgg]at hp
 case val=>
  split at hp
  ·rename_i e;cases e
  ·rename_i a' e;cases e;refine⟨_,rfl,by simp[PV.cells],fun j c v h1 h2=>?_⟩;simp only[PV.cells,An,Af]at h1;obtain⟨x,hx,rfl⟩:=h1;have:x=v:=Ah (hx.symm.trans (by rw[AL];exact h2));subst this;exact .val
  ·cases hp
 case agg a hs h=>exact⟨_,rfl,hs,h⟩
def Nc(P:Program)(op:BinOp)(T:TypeId)(x0 y0:Operand)(x y:PV):Option PV:=
 match x,y with
 |.val (.int k a),.val (.int k' b)=>
  match op with
  |.shl=>if b<0 then none else some (.val (.int k (k.wrap (a*2 ^ min b.toNat k.bits))))
  |.shr=>if b<0 then none else some (.val (.int k (a.fdiv (2 ^ min b.toNat k.bits))))
  |op=>if k=k' then fi op k a b else none
 |.val (.string a),.val (.string b)=>fj op a b
 |.val (.bool a),.val (.bool b)=>
  match P.underlying T,op with
  |some .bool,.eql=>some (.val (.bool (a==b)))
  |some .bool,.neq=>some (.val (.bool !(a==b)))
  |_,_=>none
 |.Kp _ _,.val .nilIface |.val .nilIface,.Kp _ _=>
  match P.underlying T,op with
  |some (.interface _),.eql=>some (.val (.bool false))
  |some (.interface _),.neq=>some (.val (.bool true))
  |_,_=>none
 |.val .nilIface,.val .nilIface=>
  match P.underlying T,op,(x0 matches .const _)||(y0 matches .const _) with
  |some (.interface _),.eql,true=>some (.val (.bool true))
  |some (.interface _),.neq,true=>some (.val (.bool false))
  |_,_,_=>none
 |.fn _ _ _,.val .nilFunc |.val .nilFunc,.fn _ _ _=>
  match P.underlying T,op with
  |some (.func _ _ _),.eql=>some (.val (.bool false))
  |some (.func _ _ _),.neq=>some (.val (.bool true))
  |_,_=>none
 |.C9 _ _ es,.val (.slice none 0 0)=>
  match P.underlying T,op with
  |some (.slice _),.eql=>if 0<es.length then some (.val (.bool false)) else none
  |some (.slice _),.neq=>if 0<es.length then some (.val (.bool true)) else none
  |_,_=>none
 |.val (.slice none 0 0),.val (.slice none 0 0)=>
  match P.underlying T,op with
  |some (.slice _),.eql=>some (.val (.bool true))
  |some (.slice _),.neq=>some (.val (.bool false))
  |_,_=>none
 |.val (.slice (some _) 0 _),.val (.slice none 0 0)=>
  match P.underlying T,op with
  |some (.slice _),.eql=>some (.val (.bool false))
  |some (.slice _),.neq=>some (.val (.bool true))
  |_,_=>none
 |.val (.slice none 0 _),.val (.slice none 0 0)=>
  match P.underlying T,op with
  |some (.slice _),.eql=>some (.val (.bool true))
  |some (.slice _),.neq=>some (.val (.bool false))
  |_,_=>none
 |x,y=>
  if x.isAgg&&y.isAgg&&Dh P T && !P.eqGuardType P.depth T then
   match op,MB P 40 T x.cells y.cells with
   |.eql,some b=>some (.val (.bool b))
   |.neq,some b=>some (.val (.bool !b))
   |_,_=>none
  else none
def unV(op:UnOp)(x:PV):Option PV:=
 match op,x with
 |.neg,.val (.int k n)=>some (.val (.int k (k.wrap (0-n))))
 |.xor,.val (.int k n)=>some (.val (.int k (bits .xor k (if k.signed then -1 else k.max) n)))
 |.not,.val (.bool b)=>some (.val (.bool !b))
 |_,_=>none
theorem Yn{op:BinOp}{k:IntKind}{a b:Int}{p:PV}(h:fi op k a b=some p)(T:TypeId)(w:World):
  ∃ v,(binOp op T (.int k a) (.int k b)).run P w=.ok v w/\p=.val v:=by
 cases op <;> simp only[fi,A5,reduceCtorEq]at h
 case quo=>
  split at h
  ·cases h
  ·rename_i hb;cases h;exact⟨_,by simp[binOp,Op.intDiv,hb],rfl⟩
 case rem=>
  split at h
  ·cases h
  ·rename_i hb;cases h;exact⟨_,by simp[binOp,Op.intDiv,hb],rfl⟩
 all_goals (subst h;exact⟨_,by simp[binOp,Op.intArith,Op.intBits,Op.intCmp,bits],rfl⟩)
theorem Yo{op:BinOp}{a b:ByteArray}{p:PV}(h:fj op a b=some p)(T:TypeId)(w:World):
  ∃ v,(binOp op T (.string a) (.string b)).run P w=.ok v w/\p=.val v:=by
 cases op <;> simp only[fj,A5,reduceCtorEq]at h
 case add=>
  split at h
  ·cases h
  ·rename_i hb;cases h;exact⟨_,by simp only[binOp,Op.stringOp];rw[Aq hb];rfl,rfl⟩
 all_goals (subst h;exact⟨_,by simp[binOp,Op.stringOp],rfl⟩)
theorem Nd{op:BinOp}{T:TypeId}{x y:Operand}{a b:Value}(w:World)(h1:a≠.nilIface\/b≠.nilIface)(h2:(∀ c,a≠.agg c)\/(∀ c,b≠.agg c)):
  (eqGuard op T x y a b).run P w=.ok () w:=by
 have key:(match a,b with
   |Value.nilIface,Value.nilIface=>(do
    if (x matches .const _)||(y matches .const _) then return
    if <- Op.eqGuardIn Op.maxDepth T a b then unsupported (.noEntry "binop/eql: two nil values of an interface type with methods, neither of them the literal nil"):Sem Unit)
   |.agg _,.agg _=>(do
    if !(<- program).eqGuardType (<- program).depth T then return
    if <- Op.eqGuardIn Op.maxDepth T a b then unsupported (.noEntry "binop/eql: two nil values of an interface type with methods, in a part of a struct or an array"):Sem Unit)
   |_,_=>pure ()).run P w=.ok () w:=by
  split
  ·rcases h1 with h |h <;> exact absurd rfl h
  ·rcases h2 with h |h <;> exact absurd rfl (h _)
  ·rfl
 cases op <;> first |rfl |exact key
theorem DC{op:BinOp}{T:TypeId}{x y:Operand}{a b:Value}(w:World)(h1:a≠.nilIface\/b≠.nilIface)(h2:(∀ c,a≠.agg c)\/(∀ c,b≠.agg c)):
  (do eqGuard op T x y a b;binOp op T a b:Sem Value).run P w=(binOp op T a b).run P w:=by
 simp[Nd w h1 h2]
section
variable {P:Program} {T:TypeId} {X Y:Value} {r:Bool} (w:World)
theorem Em(hb:binOp .eql T X Y=(do pure (.bool (<- Op.equal T X Y))))(he:∀ d,(Op.equalIn (d+1) T X Y).run P w=.ok r w):(binOp .eql T X Y).run P w=.ok (.bool r) w:=by
 have h2:(Op.equal T X Y).run P w=.ok r w:=he 9999;rw[hb];simp[h2]
theorem En(hb:binOp .neq T X Y=(do pure (.bool (!(<- Op.equal T X Y)))))(he:∀ d,(Op.equalIn (d+1) T X Y).run P w=.ok r w):(binOp .neq T X Y).run P w=.ok (.bool !r) w:=by
 have h2:(Op.equal T X Y).run P w=.ok r w:=he 9999;rw[hb];simp[h2]
end
set_option maxHeartbeats 1000000 in
theorem Yp{P:Program}{C:Ctx}{op:BinOp}{T:TypeId}{x0 y0:Operand}{x y p:PV}{X Y:Value}(hx:RV P C x X)(hy:RV P C y Y)(h:Nc P op T x0 y0 x y=some p)(w:World):
  ∃ v,(do eqGuard op T x0 y0 X Y;binOp op T X Y:Sem Value).run P w=.ok v w/\p=.val v:=by
 unfold Nc at h;split at h
 ·rename_i k a k' b;cases hx;cases hy;rw[DC w (.inl (by simp)) (.inl (by simp))];split at h
  ·split at h
   ·cases h
   ·rename_i hb;cases h;exact⟨_,by simp[binOp,Op.shift,hb],rfl⟩
  ·split at h
   ·cases h
   ·rename_i hb;cases h;exact⟨_,by simp[binOp,Op.shift,hb],rfl⟩
  ·split at h
   ·rename_i hk;subst hk;exact Yn h T w
   ·cases h
 ·cases hx;cases hy;rw[DC w (.inl (by simp)) (.inl (by simp))];exact Yo h T w
 ·cases hx;cases hy;rw[DC w (.inl (by simp)) (.inl (by simp))];split at h
  ·rename_i hu;cases h;exact⟨_,Em w rfl (fun d=>by simp[Op.equalIn,run_underlying hu];try rfl),by simp⟩
  ·rename_i hu;cases h;exact⟨_,En w rfl (fun d=>by simp[Op.equalIn,run_underlying hu];try rfl),by simp⟩
  ·cases h
 ·cases hx;cases hy;rw[DC w (.inl (by simp)) (.inl (by simp))];split at h
  ·rename_i hu;cases h;exact⟨_,Em w rfl (fun d=>by simp[Op.equalIn,run_underlying hu];try rfl),by simp⟩
  ·rename_i hu;cases h;exact⟨_,En w rfl (fun d=>by simp[Op.equalIn,run_underlying hu];try rfl),by simp⟩
  ·cases h
 ·cases hx;cases hy;rw[DC w (.inr (by simp)) (.inl (by simp))];split at h
  ·rename_i hu;cases h;exact⟨_,Em w rfl (fun d=>by simp[Op.equalIn,run_underlying hu];try rfl),by simp⟩
  ·rename_i hu;cases h;exact⟨_,En w rfl (fun d=>by simp[Op.equalIn,run_underlying hu];try rfl),by simp⟩
  ·cases h
 ·cases hx;cases hy;split at h
  ·rename_i hu hc;cases h;exact⟨_,by rw[Sem.run_bind,show(eqGuard .eql T x0 y0 .nilIface .nilIface).run P w=.ok () w by (cases x0 <;> cases y0 <;> first |(simp at hc;done) |simp[eqGuard]),Result.andThen_ok];exact Em w rfl (fun d=>by simp[Op.equalIn,run_underlying hu];try rfl),by simp⟩
  ·rename_i hu hc;cases h;exact⟨_,by rw[Sem.run_bind,show(eqGuard .neq T x0 y0 .nilIface .nilIface).run P w=.ok () w by (cases x0 <;> cases y0 <;> first |(simp at hc;done) |simp[eqGuard]),Result.andThen_ok];exact En w rfl (fun d=>by simp[Op.equalIn,run_underlying hu];try rfl),by simp⟩
  ·cases h
 ·cases hx;cases hy;rw[DC w (.inl (by simp)) (.inl (by simp))];split at h
  ·rename_i hu;cases h;exact⟨_,Em w rfl (fun d=>by simp[Op.equalIn,run_underlying hu];try rfl),by simp⟩
  ·rename_i hu;cases h;exact⟨_,En w rfl (fun d=>by simp[Op.equalIn,run_underlying hu];try rfl),by simp⟩
  ·cases h
 ·cases hx;cases hy;rw[DC w (.inl (by simp)) (.inl (by simp))];split at h
  ·rename_i hu;cases h;exact⟨_,Em w rfl (fun d=>by simp[Op.equalIn,run_underlying hu];try rfl),by simp⟩
  ·rename_i hu;cases h;exact⟨_,En w rfl (fun d=>by simp[Op.equalIn,run_underlying hu];try rfl),by simp⟩
  ·cases h
 ·cases hy;cases hx with
  |C9 b off cv hcap hfull ha hc hr ht=>
  rw[DC w (.inl (by simp)) (.inl (by simp))];split at h
  ·rename_i hu;split at h
   ·rename_i hl;cases h;obtain⟨rfl,_⟩:=ha hl;exact⟨_,Em w rfl (fun d=>by simp[Op.equalIn,run_underlying hu];try rfl),by simp⟩
   ·cases h
  ·rename_i hu;split at h
   ·rename_i hl;cases h;obtain⟨rfl,_⟩:=ha hl;exact⟨_,En w rfl (fun d=>by simp[Op.equalIn,run_underlying hu];try rfl),by simp⟩
   ·cases h
  ·cases h
 ·cases hx;cases hy;rw[DC w (.inl (by simp)) (.inl (by simp))];split at h
  ·rename_i hu;cases h;exact⟨_,Em w rfl (fun d=>by simp[Op.equalIn,run_underlying hu];try rfl),by simp⟩
  ·rename_i hu;cases h;exact⟨_,En w rfl (fun d=>by simp[Op.equalIn,run_underlying hu];try rfl),by simp⟩
  ·cases h
 ·cases hx;cases hy;rw[DC w (.inl (by simp)) (.inl (by simp))];split at h
  ·rename_i hu;cases h;exact⟨_,Em w rfl (fun d=>by simp[Op.equalIn,run_underlying hu];try rfl),by simp⟩
  ·rename_i hu;cases h;exact⟨_,En w rfl (fun d=>by simp[Op.equalIn,run_underlying hu];try rfl),by simp⟩
  ·cases h
 ·cases hx;cases hy;rw[DC w (.inl (by simp)) (.inl (by simp))];split at h
  ·rename_i hu;cases h;exact⟨_,Em w rfl (fun d=>by simp[Op.equalIn,run_underlying hu];try rfl),by simp⟩
  ·rename_i hu;cases h;exact⟨_,En w rfl (fun d=>by simp[Op.equalIn,run_underlying hu];try rfl),by simp⟩
  ·cases h
 ·split at h
  ·rename_i hc;simp only[Aa,Am]at hc;obtain⟨⟨⟨h1,h2⟩,h3⟩,h4⟩:=hc;obtain⟨a,rfl,ha⟩:=hx.V4 h1;obtain⟨b,rfl,hb⟩:=hy.V4 h2;split at h
   ·rename_i r hr;cases h;have he:=JQ 40 hr a b ha hb 10000 w (by omega);simp only[cT,h3,BV]at he;exact⟨_,by simp[run_eqGuard_agg w .eql T x0 y0 a b h4,run_eql_struct w,he],rfl⟩
   ·rename_i r hr;cases h;have he:=JQ 40 hr a b ha hb 10000 w (by omega);simp only[cT,h3,BV]at he;exact⟨_,by simp[run_eqGuard_agg w .neq T x0 y0 a b h4,run_neq_struct w,he],rfl⟩
   ·cases h
  ·cases h
theorem cU{op:UnOp}{x p:PV}{X:Value}(hx:RV P C x X)(h:unV op x=some p)(w:World):
  ∃ v,(Op.unary op X).run P w=.ok v w/\p=.val v:=by
 unfold unV at h;split at h
 ·cases hx;cases h;exact⟨_,by simp[Op.unary,Op.intArith],rfl⟩
 ·cases hx;cases h;exact⟨_,by simp[Op.unary,Op.intBits,bits],rfl⟩
 ·cases hx;cases h;exact⟨_,by simp[Op.unary],rfl⟩
 ·cases h
def V5(P:Program)(src dst:TypeId)(x:PV):Option PV:=
 match P.underlying src,P.underlying dst,x with
 |some _,some (.int k),.val (.int _ n)=>some (.val (.int k (k.wrap n)))
 |some _,some .string,.val (.int _ n)=>some (.val (.string (Utf8.encode n)))
 |some _,some .string,.val (.string s)=>some (.val (.string s))
 |some _,some (.float k),.val (.int _ n)=>some (.val (.float k (k.nearest n)))
 |some _,some (.int k),.val (.float s b)=>
  match (s.decode b).toInt .zero with
  |some n=>if k.min<=n/\n<=k.max then some (.val (.int k n)) else none
  |none=>none
 |_,_,_=>none
theorem Pa{src dst:TypeId}{x p:PV}{X:Value}(hx:RV P C x X)(h:V5 P src dst x=some p)(w:World):
  ∃ v,(convert src dst X).run P w=.ok v w/\p=.val v:=by
 unfold V5 at h;split at h
 ·rename_i h1 h2;cases hx;cases h;exact⟨_,by simp[convert,run_underlying h1,run_underlying h2,Conv.intToInt],rfl⟩
 ·rename_i h1 h2;cases hx;cases h;exact⟨_,by simp[convert,run_underlying h1,run_underlying h2,Conv.intToString],rfl⟩
 ·rename_i h1 h2;cases hx;cases h;exact⟨_,by simp[convert,run_underlying h1,run_underlying h2],rfl⟩
 ·rename_i h1 h2;cases hx;cases h;exact⟨_,by simp[convert,run_underlying h1,run_underlying h2,Conv.intToFloat],rfl⟩
 ·rename_i h1 h2;cases hx;split at h
  ·rename_i n hn;split at h
   ·rename_i hr;cases h;exact⟨_,by simp only[convert,Sem.run_bind,run_underlying h1,run_underlying h2,Result.andThen_ok,Conv.floatToInt,hn];rw[Ak hr];rfl,rfl⟩
   ·cases h
  ·cases h
 ·cases h
def Sub(H:List Row)(C:Ctx):Prop:=∀ i r,rowAt H i=some r->C.row? i=some r
theorem Fs(b off n:Nat):(⟨b,off,none⟩:Addr).add n=⟨b,off+n,none⟩:=by unfold Addr.add;split <;> simp_all
theorem Ij{b:Nat}{c:Array Value}{t:TypeId}{fr:Nat×Nat}(h:C.w.heap[b]? = some (.cells c t fr))(x:Nat):C.w.cell? ⟨b,x,none⟩=c[x]?:=by
 simp[World.cell?,h]
def fm(P:Program)(T:TypeId):Value->Option PV
 |.pointer (some ⟨g,0,none⟩)=>if Ut P g then Ym P T false 1 (.gv g) T 0 else none
 |_=>none
def Tz(P:Program)(H:List Row)(T:TypeId):PV->Option PV
 |.ptr i n k j=>
  match rowAt H i with
  |some r=>if r.es.length=n then Ym P r.t r.bv r.s (r.es.getD k .any) T j else none
  |none=>none
 |.EF t e j=>Ym P t true (P.cellsOf t) e T j
 |.val v=>fm P T v
 |_=>none
theorem getD_some{es:List PV}{k:Nat}(h:k<es.length):es[k]? = some (es.getD k .any):=by simp[List.getD,List.getElem?_eq_getElem h]
theorem RB.elem{b:Nat}{r:Row}(h:RB P C b r){k:Nat}(hk:k<r.es.length):
  ∃ cv:Nat->Value,(r.es.getD k .any).cells.length=r.s/\(r.bv=true->wt P r.t (r.es.getD k .any)=true) /\
   ∀(x:Nat) q,(r.es.getD k .any).cells[x]? = some q->C.w.cell? ⟨b,k*r.s+x,none⟩=some (cv x)/\RV P C q (cv x):=by
 obtain⟨c,fr,cv,h1,_,_,h4⟩:=h.mem;have hm:r.es.getD k .any∈r.es:=Ag (getD_some hk);exact⟨cv k,h.len _ hm,fun hb=>h.typed hb _ hm,fun x q hq=>⟨by rw[Ij h1];exact(h4 k _ x q (getD_some hk) hq).1,(h4 k _ x q (getD_some hk) hq).2⟩⟩
theorem Pb{H:List Row}{T:TypeId}{x p:PV}{X:Value}(hR:RH P C)(hS:Sub H C)(hx:RV P C x X)(h:Tz P H T x=some p):
  ∃ v,(Instr.loadAt T X).run P C.w=.ok v C.w/\RV P C p v:=by
 cases x <;> simp only[Tz,reduceCtorEq]at h
 case val v0=>
  cases hx;unfold fm at h;split at h
  ·rename_i g;split at h
   ·rename_i hg;obtain⟨h1,h2,t,a,h3,_⟩:=hR.LQ g hg;have hgv:RV P C (.gv g) (.iface t (.pointer (some a))):=.gv h1 h2 h3 ⟨t,a,rfl⟩;obtain⟨v,h4,h5⟩:=MA (P:=P) (C:=C) (t:=T) (b:=g) (off:=0) (s:=1) (fun _=>.iface t (.pointer (some a))) rfl (fun hb=>by cases hb) (fun x q hq=>by
     match x with
     |0=>cases hq;exact⟨h3,hgv⟩
     |x+1=>simp[PV.cells]at hq) h
    exact⟨v,by simpa [Instr.loadAt,Instr.sureAddr] using h4,h5⟩
   ·cases h
  ·cases h
 case ptr i n k j=>
  split at h
  ·rename_i r hr;split at h
   ·rename_i hn;cases hx with
    |ptr hV hk hi hle hh=>
     have hr':=hS i r hr;obtain⟨b,hb,rfl⟩:=hh r hr' hn;have hB:=hR.GP i b r hb hr';obtain⟨cv,h1,h2,h3⟩:=hB.elem (k:=k) (by omega);obtain⟨v,h4,h5⟩:=MA cv h1 h2 h3 h;exact⟨v,by simpa [Instr.loadAt,Instr.sureAddr] using h4,h5⟩
   ·cases h
  ·cases h
 case EF t e j=>
  cases hx with
  |EF cv hb hlt hc hr ht=>
   obtain⟨v,h4,h5⟩:=MA (P:=P) (C:=C) cv (Oj ht) (fun _=>ht) (fun x q hq=>⟨hc x q hq,hr x q hq⟩) h;exact⟨v,by simpa [Instr.loadAt,Instr.sureAddr] using h4,h5⟩
def IV(H:List Row):PV->Bool
 |.ptr i n _ _=>match rowAt H i with |some r=>r.es.length==n |none=>false
 |.EF _ _ _=>true
 |_=>false
def QW(d:Nat):PV->PV
 |.ptr i n k j=>.ptr i n k (j+d)
 |.EF t e j=>.EF t e (j+d)
 |p=>p
theorem HQ{H:List Row}(hS:Sub H C){d:Nat}{x:PV}{X:Value}(hx:RV P C x X)(h:IV H x=true):
  ∃ a,X=.pointer (some a)/\RV P C (QW d x) (.pointer (some (a.add d))):=by
 cases x <;> simp only[IV,A4]at h
 case ptr i n k j=>
  split at h
  ·rename_i r hr;cases hx with
   |ptr hV hk hi hle hh=>
    obtain⟨b,h1,rfl⟩:=hh r (hS i r hr) (by simpa using h);refine⟨_,rfl,.ptr ⟨_,rfl⟩ hk hi hle fun r' hr' hn=>?_⟩;have e:r'=r:=Ah (hr'.symm.trans (hS i r hr));subst e;exact⟨b,h1,by rw[Fs,B3]⟩
  ·cases h
 case EF t e j=>
  cases hx with
  |EF cv hb hlt hc hr ht=>
   refine⟨_,rfl,?_⟩;rw[Fs,B3];exact .EF cv hb hlt hc hr ht
def Ik(P:Program)(H:List Row)(T:TypeId)(i:Nat)(x:PV):Option PV:=
 match P.underlying T with
 |some (.struct fs)=>
  match fs[i]? with
  |some fd=>if known P fd.type&&P.cellsOf fd.type != 0&&IV H x then some (QW fd.offset x) else none
  |none=>none
 |_=>none
theorem On{H:List Row}{T:TypeId}{i:Nat}{x p:PV}{X:Value}(hS:Sub H C)(hx:RV P C x X)(h:Ik P H T i x=some p):
  ∃ v,(Instr.fieldAt T X i).run P C.w=.ok v C.w/\RV P C p v:=by
 unfold Ik at h;split at h
 ·rename_i fs hu;split at h
  ·rename_i fd hf;split at h
   ·rename_i hc;simp only[Aa,CO]at hc;obtain⟨⟨h1,h2⟩,h3⟩:=hc;cases h;obtain⟨a,rfl,hv⟩:=HQ (d:=fd.offset) hS hx h3;exact⟨_,by simp[Instr.fieldAt,run_underlying hu,hf,Instr.sureAddr,fieldPlace,run_sizeOf C.w h1,h2],hv⟩
   ·cases h
  ·cases h
 ·cases h
def V6(P:Program)(T:TypeId)(cs:List PV)(off:Nat):Option PV:=
 if known P T&&(Dh P T||P.cellsOf T==1)&&decide (off+P.cellsOf T<=cs.length) then
  some (if Dh P T then .agg ((cs.drop off).take (P.cellsOf T)) else cs.getD off .any) else none
theorem Pc{T:TypeId}{cs:List PV}{a:Array Value}{off:Nat}{p:PV}(ha:Cs P C cs a)(h:V6 P T cs off=some p):
  ∃ v,(part T a off).run P C.w=.ok v C.w/\RV P C p v:=by
 unfold V6 at h;split at h
 ·rename_i hc;simp only[Aa,Ab]at hc;obtain⟨⟨h1,h2⟩,h3⟩:=hc;cases h;refine⟨_,KL C.w h1 h2 a off (by rw[ha.1];exact h3),?_⟩;have hs:=ha.sub off _ h3;unfold cT;split
  ·exact .agg hs.1 hs.2
  ·rename_i hag;simp only[hag,Bt,Ay]at h2;have h4:((cs.drop off).take (P.cellsOf T))[0]? = some (cs.getD off .any):=by
    rw[h2,Au,Ak (by omega),A8];exact getD_some (by omega)
   have h5:0<(a.extract off (off+P.cellsOf T)).size:=by rw[hs.1];simp;omega
   have h6:(a.extract off (off+P.cellsOf T))[0]? = some ((a.extract off (off+P.cellsOf T)).getD 0 undef):=by
    rw[AD h5];unfold Array.getD;rw[dif_pos h5];rfl
   exact hs.2 0 _ _ h4 h6
 ·cases h
def Yq(P:Program)(T:TypeId)(i:Nat)(x:PV):Option PV:=
 match P.underlying T with
 |some (.struct fs)=>
  match fs[i]? with
  |some fd=>if x.isAgg then V6 P fd.type x.cells fd.offset else none
  |none=>none
 |_=>none
theorem Uu{T:TypeId}{i:Nat}{x p:PV}{X:Value}(hx:RV P C x X)(h:Yq P T i x=some p):
  ∃ v,(Instr.field T X i).run P C.w=.ok v C.w/\RV P C p v:=by
 unfold Yq at h;split at h
 ·rename_i fs hu;split at h
  ·rename_i fd hf;split at h
   ·rename_i hc;obtain⟨a,rfl,ha⟩:=hx.V4 hc;obtain⟨v,h1,h2⟩:=Pc ha h;exact⟨v,by simp[Instr.field,run_underlying hu,hf,asAgg,h1],h2⟩
   ·cases h
  ·cases h
 ·cases h
def Yr:PV->Option Int |.val (.int _ z)=>some z |_=>none
def Il(P:Program)(H:List Row)(T:TypeId)(x ix:PV):Option PV:=
 match Yr ix,P.underlying T with
 |some z,some (.array len e)=>
  if known P e&&IV H x then (if 0<=z/\z<len then some (QW (z.toNat*P.cellsOf e) x) else none) else none
 |some z,some (.slice e)=>
  match x with
  |.sl i n k len=>
   match rowAt H i with
   |some r=>if known P e&&r.es.length==n&&r.s==P.cellsOf e then (if 0<=z/\z<len then some (.ptr i n (k+z.toNat) 0) else none) else none
   |none=>none
  |.C9 _ t es=>if known P e&&t==e then (if 0<=z/\z<es.length then some (.EF t (es.getD z.toNat .any) 0) else none) else none
  |_=>none
 |_,_=>none
theorem Im{x:PV}{X:Value}{z:Int}(hx:RV P C x X)(h:Yr x=some z):∃ k,X=.int k z:=by
 unfold Yr at h;split at h
 ·cases hx;cases h;exact⟨_,rfl⟩
 ·cases h
theorem Oo{H:List Row}{T:TypeId}{x ix p:PV}{X I:Value}(hS:Sub H C)(hx:RV P C x X)(hi:RV P C ix I)(h:Il P H T x ix=some p):
  ∃ v,(Instr.indexAt T X I).run P C.w=.ok v C.w/\RV P C p v:=by
 unfold Il at h;split at h
 ·rename_i z len e hz hu;obtain⟨kk,rfl⟩:=Im hi hz;split at h
  ·rename_i hc;simp only[Aa]at hc;split at h
   ·rename_i hb;cases h;obtain⟨a,rfl,hv⟩:=HQ (d:=z.toNat*P.cellsOf e) hS hx hc.2;exact⟨_,by simp[Instr.indexAt,asIntOf,run_underlying hu,Instr.sureAddr,hb,run_sizeOf C.w hc.1],hv⟩
   ·cases h
  ·cases h
 ·rename_i z e hz hu;obtain⟨kk,rfl⟩:=Im hi hz;split at h
  ·rename_i i n k len;split at h
   ·rename_i r hr;split at h
    ·rename_i hc;simp only[Aa,Ay]at hc;obtain⟨⟨h1,h2⟩,h3⟩:=hc;split at h
     ·rename_i hb;cases h;cases hx with
      |sl hV hi' hle hh=>
       obtain⟨hk,a,cap,rfl,hcap,hs⟩:=hh r (hS i r hr) h2;unfold E4 at hs;split at hs
       ·omega
       ·obtain⟨b,g1,rfl,_⟩:=hs;refine⟨_,by simp[Instr.indexAt,asIntOf,run_underlying hu,hb,run_sizeOf C.w h1];rfl,?_⟩;refine .ptr ⟨_,rfl⟩ (by omega) hi' hle fun r' hr' hn=>?_
        have e':r'=r:=Ah (hr'.symm.trans (hS i r hr));subst e';exact⟨b,g1,by rw[Fs,h3,BA,Bb]⟩
     ·cases h
    ·cases h
   ·cases h
  ·rename_i full t es;split at h
   ·rename_i hc;simp only[Aa,Ay]at hc;obtain⟨h1,h2⟩:=hc;subst h2;split at h
    ·rename_i hb;cases h;cases hx with
     |C9 b off cv hcap hfull ha hcc hrr ht=>
      obtain⟨rfl,g2,g3⟩:=ha (by omega);have hlt:z.toNat<es.length:=by omega
      have hm:=getD_some hlt;refine⟨_,by simp[Instr.indexAt,asIntOf,run_underlying hu,hb,run_sizeOf C.w h1];rfl,?_⟩;rw[Fs];exact .EF (off:=off+z.toNat*P.cellsOf t) (j:=0) (cv z.toNat) g2 g3 (fun x q hq=>hcc _ _ x q hm hq) (fun x q hq=>hrr _ _ x q hm hq) (ht _ (Ag hm))
    ·cases h
   ·cases h
  ·cases h
 ·cases h
def QX(P:Program)(T:TypeId)(x ix:PV):Option PV:=
 match Yr ix,P.underlying T with
 |some z,some (.array len e)=>if x.isAgg&&known P e then (if 0<=z/\z<len then V6 P e x.cells (z.toNat*P.cellsOf e) else none) else none
 |some z,some .string=>
  match x with
  |.val (.string s)=>if 0<=z/\z<s.size then some (.val (.int .u8 (s.data.getD z.toNat 0).toNat)) else none
  |_=>none
 |_,_=>none
theorem Uv{T:TypeId}{x ix p:PV}{X I:Value}(hx:RV P C x X)(hi:RV P C ix I)(h:QX P T x ix=some p):
  ∃ v,(Instr.index T X I).run P C.w=.ok v C.w/\RV P C p v:=by
 unfold QX at h;split at h
 ·rename_i z len e hz hu;obtain⟨kk,rfl⟩:=Im hi hz;split at h
  ·rename_i hc;simp only[Aa]at hc;split at h
   ·rename_i hb;obtain⟨a,rfl,ha⟩:=hx.V4 hc.1;obtain⟨v,h1,h2⟩:=Pc ha h;exact⟨v,by simp[Instr.index,asIntOf,run_underlying hu,hb,run_sizeOf C.w hc.2,h1],h2⟩
   ·cases h
  ·cases h
 ·rename_i z hz hu;obtain⟨kk,rfl⟩:=Im hi hz;split at h
  ·rename_i s;split at h
   ·rename_i hb;cases hx;cases h;have hlt:z.toNat<s.size:=by omega
    have hs:s[z.toNat]? = some (s.data.getD z.toNat 0):=by
     have:z.toNat<s.data.size:=hlt;rw[getElem?_pos s z.toNat hlt];congr 1
     show s.data[z.toNat]=_
     unfold Array.getD;rw[dif_pos this];rfl
    exact⟨_,by simp[Instr.index,asIntOf,run_underlying hu,hb.1,hs],.val⟩
   ·cases h
  ·cases h
 ·cases h
def QY(i:Nat):PV->Option PV
 |.El ps=>ps[i]?
 |_=>none
theorem QZ{i:Nat}{x p:PV}{X:Value}(hx:RV P C x X)(h:QY i x=some p):
  ∃ v,(Instr.extract X i).run P C.w=.ok v C.w/\RV P C p v:=by
 unfold QY at h;split at h
 ·cases hx with
  |El hs hh=>
   rename_i ps a;have hlt:i<a.size:=by rw[hs];exact(Ad.1 h).1
   have h2:a[i]? = some a[i]:=AD hlt;exact⟨a[i],by simp[Instr.extract,h2],hh i _ _ h h2⟩
 ·cases h
def Uw:PV->Bool
 |.any=>false
 |.El _=>false
 |.val (.tuple _)=>false
 |_=>true
theorem RV.JR{p:PV}{V:Value}(h:RV P C p V)(hp:Uw p=true):Cs P C p.cells V.cells:=by
 by_cases ha:p.isAgg=true
 ·obtain⟨a,rfl,hc⟩:=h.V4 ha;exact hc
 ·have h1:p.cells=[p]:=by
   unfold PV.cells;split
   ·simp[PV.isAgg]at ha
   ·simp[PV.isAgg]at ha
   ·rfl
  have h2:V.cells = #[V]:=by
   cases h with
   |any=>simp[Uw]at hp
   |val=>
    unfold Value.cells;split
    ·simp[PV.isAgg]at ha
    ·rfl
   |ptr hV=>obtain⟨a,rfl⟩:=hV;rfl
   |sl hV=>obtain⟨a,c,rfl⟩:=hV;rfl
   |El=>simp[Uw]at hp
   |agg=>simp[PV.isAgg]at ha
   |EF=>rfl
   |C9=>rfl
   |fn=>rfl
   |Kp=>rfl
   |Ih=>rfl
   |mp _ hl _=>obtain⟨_,_,_,_,_,rfl⟩:=hl;exact cR _ _
   |gv _ _ _ hV=>obtain⟨t,a,rfl⟩:=hV;rfl
   |bad hV=>obtain⟨T,b,s,n,c,v0,rfl,_⟩:=hV;rfl
   |Lx _ h=>cases h;rfl
  rw[h1,h2];refine⟨rfl,fun j c v g1 g2=>?_⟩
  match j with
  |0=>simp at g1 g2;subst g1;subst g2;exact h
  |j+1=>simp at g1
def Nf(place:Nat->Option (Nat×Nat))(cells:List PV):List (Nat×PV)->Option (List PV)
 | []=>some cells
 |(i,p)::rest=>
  match place i with
  |none=>none
  |some (off,size)=>if Uw p&&p.cells.length==size&&decide (off+size<=cells.length) then Nf place (cells.take off++p.cells++cells.drop (off+size)) rest else none
theorem cV(vs:List Value):∀(k off:Nat) (cs:Array Value),off+k+vs.length<=cs.size ->
  ((vs.zipIdx k).foldl (fun cs (c,j)=>cs.setIfInBounds (off+j) c) cs).toList=cs.toList.take (off+k)++vs++cs.toList.drop (off+k+vs.length):=by
 induction vs with
 |nil=>intro k off cs _;simp
 |cons v vs ih=>
  intro k off cs h;simp only[As]at h;simp only[List.zipIdx_cons,List.foldl_cons];rw[ih (k+1) off _ (by simp;omega)];simp only[Array.toList_setIfInBounds];apply Bf
  intro j;have hl:off+(k+1)<=cs.toList.length:=by simp;omega
  have hl':off+k<=cs.toList.length:=by simp;omega
  simp only[AO,Ap,Az,Bi,Au,A8,Ax,As];rcases Co j (off+k) with hj |hj |hj
  ·have a1:j<min (off+(k+1)) cs.toList.length:=by omega
   have a2:j<min (off+k) cs.toList.length:=by omega
   rw[Ak (by omega),Ak a1,Ak (by omega),Aq (by omega),Ak (by omega),Ak a2,Ak (by omega)]
  ·subst hj;rw[Ak (by omega),Ak (by omega),Ak (by omega),Ak rfl,Ak (by omega),Ak (by omega),Aq (by omega)];rw[show off+k-min (off+k) cs.toList.length=0 by omega];rfl
  ·by_cases h3:j<off+k+1+vs.length
   ·rw[Ak (by omega),Aq (by omega),Ak (by omega),Aq (by omega)];rw[show j-min (off+(k+1)) cs.toList.length=j-(off+k)-1 by omega,show j-min (off+k) cs.toList.length=j-(off+k)-1+1 by omega,BO]
   ·rw[Aq (by omega),Aq (by omega)];rw[Aq (by omega)];congr 1
    omega
theorem KM{P:Program}{C:Ctx}{place:Nat->Option (Nat×Nat)}:∀{parts:List (Nat×PV)} {vs:List (Nat×Value)} {cells out:List PV} {a:Array Value},
  Nf place cells parts=some out->Cs P C cells a->parts.length=vs.length->(∀(j:Nat) p v,parts[j]? = some p->vs[j]? = some v->p.1=v.1/\RV P C p.2 v.2) ->
  ∃ a',Instr.fill place a vs=some a'/\Cs P C out a'
 | [],[],cells,out,a,h,ha,_,_=>by simp only[Nf,A5]at h;subst h;exact⟨a,rfl,ha⟩
 | [],_::_,_,_,_,_,_,hl,_=>by simp at hl
 |_::_,[],_,_,_,_,_,hl,_=>by simp at hl
 |(i,p)::parts,(i',v)::vs,cells,out,a,h,ha,hl,hv=>by
  have h0:=hv 0 _ _ rfl rfl;obtain⟨e,h0⟩:=h0;simp only at e h0;subst e;simp only[Nf]at h;split at h
  ·cases h
  ·rename_i off size hp;split at h
   ·rename_i hc;simp only[Aa,Ay,Ab]at hc;obtain⟨⟨h1,h2⟩,h3⟩:=hc;have hcs:=h0.JR h1;have hvs:v.cells.size=size:=by rw[hcs.1,h2]
    simp only[Instr.fill,hp];rw[Aq (by simp[hvs,ha.1];omega)];have hfold:=cV v.cells.toList 0 off a (by simp[hvs,ha.1];omega);simp only[BA,CH,hvs]at hfold;refine KM h ?_ (by simpa using hl) (fun j p v h1 h2=>hv (j+1) p v h1 h2);have hz:(Array.zipIdx v.cells).foldl (fun cs (c,j)=>cs.setIfInBounds (off+j) c) a=(a.toList.take off++v.cells.toList++a.toList.drop (off+size)).toArray:=by
     apply BD
     rw[List.toList_toArray,<- hfold,<- Array.foldl_toList,Array.toList_zipIdx]
    rw[hz];refine⟨by simp[ha.1,hvs,h2],fun j c u g1 g2=>?_⟩;rw[AO,AO]at g1;simp only[BE]at g2;rw[AO,AO]at g2;simp only[Ap,Az,CH,ha.1,hvs,h2]at g1 g2;split at g1
    ·rename_i k1;rw[Ak k1]at g2;split at g1
     ·rename_i k2;rw[Ak k2]at g2;rw[Au]at g1 g2;split at g1
      ·rename_i k3;rw[Ak k3]at g2;exact ha.2 j c u g1 (by simpa using g2)
      ·cases g1
     ·rename_i k2;rw[Aq k2]at g2;exact hcs.2 _ c u g1 (by simpa using g2)
    ·rename_i k1;rw[Aq k1]at g2;rw[A8]at g1 g2;exact ha.2 _ c u g1 (by simpa using g2)
   ·cases h
def au(P:Program)(T:TypeId):Option (Nat->Option (Nat×Nat)):=
 match P.underlying T with
 |some (.struct fs)=>if fs.all (fun f=>known P f.type) then some (fun i=>(fs[i]?).map fun f=>(f.offset,P.cellsOf f.type)) else none
 |some (.array _ e)=>if known P e then some (fun i=>some (i*P.cellsOf e,P.cellsOf e)) else none
 |_=>none
def E8(P:Program)(T:TypeId):Option Value:=(P.info? T).bind (·.zero)
def Yt(P:Program)(T:TypeId)(parts:List (Nat×PV)):Option PV:=
 match E8 P T,au P T with
 |some z,some place=>(Nf place (z.cells.toList.map .val) parts).map .agg
 |_,_=>none
theorem Fx{T:TypeId}{z:Value}(h:E8 P T=some z)(w:World):(zeroValue T).run P w=.ok z w:=by
 unfold E8 at h;cases hi:P.info? T with
 |none=>simp[hi]at h
 |some i=>
  simp only[hi,Bl]at h;simp[zeroValue,typeInfo,hi,h]
theorem Cs.tW(a:Array Value):Cs P C (a.toList.map .val) a:=by
 refine⟨by simp,fun j c v h1 h2=>?_⟩;simp only[An,Af]at h1;obtain⟨x,hx,rfl⟩:=h1;have:x=v:=Ah (hx.symm.trans (by rw[AL];exact h2));subst this;exact .val
theorem P1(w:World)(fs:Array Field)(h:fs.all (fun f=>known P f.type)=true):
  (fs.mapM fun f=>(do pure (f.offset,<- sizeOf f.type):Sem (Nat×Nat))).run P w=.ok (fs.map fun f=>(f.offset,P.cellsOf f.type)) w:=by
 have key:∀ l:List Field,(∀ f∈l,known P f.type=true) ->
   (l.mapM fun f=>(do pure (f.offset,<- sizeOf f.type):Sem (Nat×Nat))).run P w=.ok (l.map fun f=>(f.offset,P.cellsOf f.type)) w:=by
  intro l;induction l with
  |nil=>intro _;simp
  |cons f l ih=>
   intro hl;rw[List.mapM_cons];simp only[Sem.run_bind,run_sizeOf w (hl f (by simp)),Result.andThen_ok,Sem.run_pure,ih (fun g hg=>hl g (by simp[hg])),AV]
 have h2:=key fs.toList (fun f hf=>by
  have:=BN.1 h f (by simpa using hf);exact this)
 rw[Array.mapM_eq_mapM_toList];simp only[Sem.run_map,h2,Result.andThen_ok];congr 1
 apply BD
 simp
theorem Ux{T:TypeId}{parts:List (Nat×PV)}{vs:List (Nat×Value)}{p:PV}(h:Yt P T parts=some p)(hl:parts.length=vs.length)
  (hv:∀(j:Nat) q v,parts[j]? = some q->vs[j]? = some v->q.1=v.1/\RV P C q.2 v.2):∃ v,(Instr.build T vs.toArray).run P C.w=.ok v C.w/\RV P C p v:=by
 unfold Yt at h;split at h
 ·rename_i z place hz hp;simp only[Af]at h;obtain⟨out,h,rfl⟩:=h;obtain⟨a',g1,g2⟩:=KM h (Cs.tW z.cells) hl hv;refine⟨.agg a',?_,.agg g2.1 g2.2⟩;unfold au at hp;split at hp
  ·rename_i fs hu;split at hp
   ·rename_i hk;cases hp;simp only[Instr.build,Sem.run_bind,Fx hz,Result.andThen_ok,run_underlying hu,P1 C.w fs hk];have e:(fun(x:Nat)=>(fs.map fun f=>(f.offset,P.cellsOf f.type))[x]?)=(fun i=>(fs[i]?).map fun(f:Field)=>(f.offset,P.cellsOf f.type)):=by funext i;simp
    rw[e,g1];simp
   ·cases hp
  ·rename_i n e hu;split at hp
   ·rename_i hk;cases hp;simp only[Instr.build,Sem.run_bind,Fx hz,Result.andThen_ok,run_underlying hu,run_sizeOf C.w hk,g1];simp
   ·cases hp
  ·cases hp
 ·cases h
def Ft(o:Option PV):Option (Option Int):=
 match o with
 |none=>some none
 |some p=>(Yr p).map some
def Io(P:Program)(H:List Row)(T:TypeId)(x:PV)(lo hi mx:Option PV):Option PV:=
 match P.underlying T,x,Ft lo,Ft hi,Ft mx with
 |some .string,.val (.string s),some l,some h,some none=>
  if 0<=l.getD 0/\l.getD 0<=h.getD s.size/\h.getD s.size<=s.size then some (.val (.string (s.extract (l.getD 0).toNat (h.getD s.size).toNat))) else none
 |some (.slice e),.C9 full t es,some l,some h,some none=>
  if known P e&&t==e then
   (if 0<=l.getD 0/\l.getD 0<=h.getD es.length/\h.getD es.length<=es.length then
    some (.C9 (full&&h.isNone) t ((es.take (h.getD es.length).toNat).drop (l.getD 0).toNat)) else none) else none
 |some (.slice e),.C9 _ t es,some l,some (some h),some (some m)=>
  if known P e&&t==e then
   (if 0<=l.getD 0/\l.getD 0<=h/\h<=m/\m<=es.length then
    some (.C9 (h==m) t ((es.take h.toNat).drop (l.getD 0).toNat)) else none) else none
 |some (.slice e),.sl i n k len,some none,some h,some none=>
  match rowAt H i with
  |some r=>if known P e&&r.es.length==n&&r.s==P.cellsOf e then (if 0<=h.getD len/\h.getD len<=len then some (.sl i n k (h.getD len).toNat) else none) else none
  |none=>none
 |some (.slice e),.sl i n k len,some (some l),some h,some none=>
  match rowAt H i with
  |some r=>if known P e&&r.es.length==n&&r.s==P.cellsOf e then
    (if 0<=l/\l<len/\l<=h.getD len/\h.getD len<=len then some (.sl i n (k+l.toNat) (h.getD len-l).toNat) else if l=len/\h.getD len=len then some (.C9 false e []) else none) else none
  |none=>none
 |_,_,_,_,_=>none
def Bd(V:Option Value)(o:Option Int):Prop:=(V=none/\o=none)\/∃ k z,V=some (.int k z)/\o=some z
theorem V7{o:Option PV}{V:Option Value}{r:Option Int}(h:Ft o=some r)(hn:o.isSome=V.isSome)(hv:∀ p v,o=some p->V=some v->RV P C p v):Bd V r:=by
 cases o with
 |none=>
  cases V with
  |none=>simp only[Ft,A5]at h;subst h;exact .inl ⟨rfl,rfl⟩
  |some v=>simp at hn
 |some p=>
  cases V with
  |none=>simp at hn
  |some v=>
   simp only[Ft,Af]at h;obtain⟨z,hz,rfl⟩:=h;obtain⟨k,rfl⟩:=Im (hv p v rfl rfl) hz;exact .inr ⟨k,z,rfl,rfl⟩
section
variable {P:Program} (w:World)
theorem run_sliceBound{k:IntKind}{z:Int}{y:Nat}{c:BoundsCode}(h0:0<=z)(h1:z<=y):(Instr.sliceBound (.int k z) y c).run P w=.ok z.toNat w:=by
 simp[Instr.sliceBound,asIntOf,h0,h1]
theorem Eo{isSlice:Bool}{len cap:Nat}{L Hi:Option Value}{l h:Option Int}(hL:Bd L l)(hH:Bd Hi h)(h0:0<=l.getD 0)(h1:l.getD 0<=h.getD len)(h2:h.getD len<=cap):
  (Instr.sliceBounds isSlice len cap L Hi none).run P w=.ok ((l.getD 0).toNat,(h.getD len).toNat,cap) w:=by
 unfold Instr.sliceBounds;rcases hH with ⟨rfl,rfl⟩ |⟨k,z,rfl,rfl⟩ <;> rcases hL with ⟨rfl,rfl⟩ |⟨k',z',rfl,rfl⟩ <;> simp only[Bx,Option.getD_none]at h0 h1 h2 ⊢
 ·simp
 ·simp[run_sliceBound w h0 (show z'<=(len:Nat) from h1)]
 ·simp[run_sliceBound w (show 0<=z by omega) h2]
 ·have:=run_sliceBound (P:=P) (k:=k') (c:=.sliceB) w h0 (show z'<=((z.toNat:Nat):Int) by omega);simp[run_sliceBound w (show 0<=z by omega) h2,this]
theorem Jh{isSlice:Bool}{len cap:Nat}{L Hi M:Option Value}{l:Option Int}{h m:Int}(hL:Bd L l)(hH:Bd Hi (some h))(hM:Bd M (some m))(h0:0<=l.getD 0)(h1:l.getD 0<=h)(h2:h<=m)(h3:m<=cap):
  (Instr.sliceBounds isSlice len cap L Hi M).run P w=.ok ((l.getD 0).toNat,h.toNat,m.toNat) w:=by
 unfold Instr.sliceBounds;rcases hH with ⟨_,hh⟩ |⟨k,z,rfl,hh⟩
 ·cases hh
 cases hh;rcases hM with ⟨_,hh⟩ |⟨k2,z2,rfl,hh⟩
 ·cases hh
 cases hh;have e1:=run_sliceBound (P:=P) (k:=k2) (c:=if isSlice then .slice3Acap else .slice3Alen) w (show 0<=m by omega) h3;have e2:=run_sliceBound (P:=P) (k:=k) (c:=.slice3B) w (show 0<=h by omega) (show h<=((m.toNat:Nat):Int) by omega);rcases hL with ⟨rfl,rfl⟩ |⟨k',z',rfl,rfl⟩ <;> simp only[Bx,Option.getD_none]at h0 h1 ⊢
 ·simp[e1,e2]
 ·have e3:=run_sliceBound (P:=P) (k:=k') (c:=.slice3C) w h0 (show z'<=((h.toNat:Nat):Int) by omega);simp[e1,e2,e3]
end
theorem Kr{es:List PV}{l h x:Nat}{e:PV}(hx:((es.take h).drop l)[x]? = some e):es[l+x]? = some e/\l+x<h:=by
 rw[A8,Au]at hx;split at hx
 ·exact⟨hx,by assumption⟩
 ·cases hx
theorem RV.fp{full full':Bool}{t:TypeId}{es:List PV}{a a':Option Addr}{cap cap' l h:Nat}(hv:RV P C (.C9 full t es) (.slice a es.length cap))(hl:l<=h)(hh:h<=es.length)
  (ha:l<h->a'=a.map (·.add (l*P.cellsOf t))) (hc:h-l<=cap') (hf:full'=true->cap'=h-l):RV P C (.C9 full' t ((es.take h).drop l)) (.slice a' (h-l) cap'):=by
 have hlen:((es.take h).drop l).length=h-l:=by simp;omega
 cases hv with
 |C9 b off cv hcap hfull hA hC hR ht=>
  rw[<- hlen];refine .C9 b (off+l*P.cellsOf t) (fun x j=>cv (l+x) j) (by omega) (fun hh=>by rw[hlen];exact hf hh) (fun h0=>?_) (fun x e j p hx hj=>?_) (fun x e j p hx hj=>?_) (fun e he=>ht e (B0 (BP he)))
  ·obtain⟨rfl,g2,g3⟩:=hA (by omega);refine⟨?_,g2,g3⟩;rw[ha (by omega)];simp[Fs]
  ·obtain⟨g1,g2⟩:=Kr hx;have:=hC _ e j p g1 hj;rwa [Bb,<- B3]at this
  ·obtain⟨g1,g2⟩:=Kr hx;exact hR _ e j p g1 hj
theorem Uy{H:List Row}{T:TypeId}{x p:PV}{X:Value}{lo hi mx:Option PV}{L Hi M:Option Value}(hS:Sub H C)(hx:RV P C x X)
  (hl:∀ r,Ft lo=some r->Bd L r) (hh:∀ r,Ft hi=some r->Bd Hi r) (hm:∀ r,Ft mx=some r->Bd M r) (h:Io P H T x lo hi mx=some p):
  ∃ v,(Instr.slice T X L Hi M).run P C.w=.ok v C.w/\RV P C p v:=by
 unfold Io at h;split at h
 ·rename_i s l hh' hu e1 e2 e3;split at h
  ·rename_i hc;cases hx;cases h;have hM:M=none:=by rcases hm _ e3 with ⟨rfl,_⟩ |⟨_,_,_,hz⟩;rfl;cases hz
   subst hM;refine⟨_,?_,.val⟩;simp[Instr.slice,run_underlying hu,Eo C.w (isSlice:=false) (hl _ e1) (hh _ e2) hc.1 hc.2.1 hc.2.2]
  ·cases h
 ·rename_i e full t es l hh' hu e1 e2 e3;split at h
  ·rename_i hk;simp only[Aa,Ay]at hk;obtain⟨hk,rfl⟩:=hk;split at h
   ·rename_i hc;cases h;have hM:M=none:=by rcases hm _ e3 with ⟨rfl,_⟩ |⟨_,_,_,hz⟩;rfl;cases hz
    subst hM;cases hx with
    | @C9 _ _ _ a cap b off cv hcap hfull hA hC hR ht=>
     have hb:=Eo (P:=P) (len:=es.length) (cap:=cap) C.w (isSlice:=true) (hl _ e1) (hh _ e2) hc.1 hc.2.1 (by omega);refine⟨_,by simp[Instr.slice,run_underlying hu,hb,run_sizeOf C.w hk];rfl,?_⟩;refine RV.fp (full:=full) (.C9 b off cv hcap hfull hA hC hR ht) (by omega) (by omega) (fun hlt=>?_) (by omega) (fun hf=>?_)
     ·rw[Aq (by omega)]
     ·simp only[Aa,Ba]at hf;obtain⟨hf1,rfl⟩:=hf;have:=hfull hf1;simp only[Option.getD_none];omega
   ·cases h
  ·cases h
 ·rename_i e full t es l hh' m hu e1 e2 e3;split at h
  ·rename_i hk;simp only[Aa,Ay]at hk;obtain⟨hk,rfl⟩:=hk;split at h
   ·rename_i hc;cases h;cases hx with
    | @C9 _ _ _ a cap b off cv hcap hfull hA hC hR ht=>
     have hb:=Jh (P:=P) (len:=es.length) (cap:=cap) C.w (isSlice:=true) (hl _ e1) (hh _ e2) (hm _ e3) hc.1 hc.2.1 hc.2.2.1 (by omega);refine⟨_,by simp[Instr.slice,run_underlying hu,hb,run_sizeOf C.w hk];rfl,?_⟩;refine RV.fp (full:=full) (.C9 b off cv hcap hfull hA hC hR ht) (by omega) (by omega) (fun hlt=>?_) (by omega) (fun hf=>?_)
     ·rw[Aq (by omega)]
     ·simp only[Ay]at hf;omega
   ·cases h
  ·cases h
 ·rename_i e i n k len hh' hu e1 e2 e3;split at h
  ·rename_i r hr;split at h
   ·rename_i hk;simp only[Aa,Ay]at hk;obtain⟨⟨hk,h2⟩,h3⟩:=hk;split at h
    ·rename_i hc;cases h;have hM:M=none:=by rcases hm _ e3 with ⟨rfl,_⟩ |⟨_,_,_,hz⟩;rfl;cases hz
     subst hM;cases hx with
     |sl hV hi' hle hh2=>
      obtain⟨g1,a,cap,rfl,g3,g4⟩:=hh2 r (hS i r hr) h2;have hb:=Eo (P:=P) (len:=len) (cap:=cap) C.w (isSlice:=true) (hl _ e1) (hh _ e2) (by simp) (by simpa using hc.1) (by omega);refine⟨.slice a (hh'.getD len).toNat cap,by simp[Instr.slice,run_underlying hu,hb,run_sizeOf C.w hk];cases a <;> simp[Addr.add],.sl ⟨_,_,rfl⟩ hi' hle fun r' hr' hn=>?_⟩;have e':r'=r:=Ah (hr'.symm.trans (hS i r hr));subst e';exact⟨by omega,a,cap,rfl,by omega,g4⟩
    ·cases h
   ·cases h
  ·cases h
 ·rename_i e i n k len l hh' hu e1 e2 e3;split at h
  ·rename_i r hr;split at h
   ·rename_i hk;simp only[Aa,Ay]at hk;obtain⟨⟨hk,h2⟩,h3⟩:=hk;split at h
    ·rename_i hc;cases h;have hM:M=none:=by rcases hm _ e3 with ⟨rfl,_⟩ |⟨_,_,_,hz⟩;rfl;cases hz
     subst hM;cases hx with
     |sl hV hi' hle hh2=>
      obtain⟨g1,a,cap,rfl,g3,g4⟩:=hh2 r (hS i r hr) h2;have hb:=Eo (P:=P) (len:=len) (cap:=cap) C.w (isSlice:=true) (hl _ e1) (hh _ e2) (by simpa using hc.1) (by simpa using hc.2.2.1) (by omega);unfold E4 at g4;split at g4
      ·omega
      ·rename_i hnl;obtain⟨b,q1,rfl,c,ee,fr,q2,q3,q4⟩:=g4;refine⟨.slice (some ⟨b,(k+l.toNat)*r.s,none⟩) (hh'.getD len-l).toNat (cap-l.toNat),?_,.sl ⟨_,_,rfl⟩ hi' hle fun r' hr' hn=>?_⟩
       ·simp only[Instr.slice,Sem.run_bind,run_underlying hu,Result.andThen_ok,hb,run_sizeOf C.w hk,Bx,Sem.run_pure];rw[Aq (by omega)];simp only[AE,Fs,<- h3,<- Bb];congr 2
        omega
       ·have e':r'=r:=Ah (hr'.symm.trans (hS i r hr));subst e';refine⟨by omega,_,_,rfl,by omega,?_⟩;unfold E4;rw[Aq hnl];refine⟨b,q1,rfl,c,ee,fr,q2,?_,by omega⟩;rw[show k+l.toNat+(cap-l.toNat)=k+cap by omega];exact q3
    ·split at h
     ·rename_i hc;cases h;have hM:M=none:=by rcases hm _ e3 with ⟨rfl,_⟩ |⟨_,_,_,hz⟩;rfl;cases hz
      subst hM;cases hx with
      |sl hV hi' hle hh2=>
       obtain⟨g1,a,cap,rfl,g3,g4⟩:=hh2 r (hS i r hr) h2;have hb:=Eo (P:=P) (len:=len) (cap:=cap) C.w (isSlice:=true) (hl _ e1) (hh _ e2) (by simp;omega) (by simp;omega) (by omega);refine⟨.slice _ ((hh'.getD len).toNat-((some l:Option Int).getD 0).toNat) (cap-((some l:Option Int).getD 0).toNat),by simp only[Instr.slice,Sem.run_bind,run_underlying hu,Result.andThen_ok,hb,run_sizeOf C.w hk,Sem.run_pure];rfl,?_⟩;have e0:(hh'.getD len).toNat-((some l:Option Int).getD 0).toNat=([]:List PV).length:=by simp;omega
       rw[e0];exact .C9 0 0 (fun _ _=>undef) (by simp) (fun hf=>by cases hf) (fun h0=>by simp at h0) (fun x e j p hx=>by simp at hx) (fun x e j p hx=>by simp at hx) (fun e he=>by simp at he)
     ·cases h
   ·cases h
  ·cases h
 ·cases h
def tX(P:Program)(T:TypeId)(x:PV):Option PV:=
 match P.underlying T,x with
 |some .string,.val (.string s)=>some (.val (.int .i64 s.size))
 |some (.array n _),_=>some (.val (.int .i64 n))
 |some (.slice _),.sl _ _ _ len=>some (.val (.int .i64 len))
 |some (.slice _),.C9 _ _ es=>some (.val (.int .i64 es.length))
 |some (.slice _),.val (.slice _ n _)=>some (.val (.int .i64 n))
 |_,_=>none
def fq:PV->PV->Option PV
 |.val (.int k x),.val (.int _ y)=>some (.val (.int k (if y<x then y else x)))
 |_,_=>none
def ft:PV->PV->Option PV
 |.val (.int k x),.val (.int _ y)=>some (.val (.int k (if y > x then y else x)))
 |_,_=>none
def TA(f:PV->PV->Option PV):PV->List PV->Option PV
 |x,[]=>some x
 |x,y::ys=>match f x y with |some z=>TA f z ys |none=>none
def fu(c a b:PV):Option PV:=
 match c with
 |.val (.bool t)=>
  match a,b with
  |.val (.bool x),.val (.bool y)=>some (.val (.bool (bif t then x else y)))
  |a,b=>match t with |true=>some a |false=>some b
 |_=>none
def av(H:List Row):PV->Bool
 |.fn (.func _) _ _=>true
 |.Kp _ _=>true
 |.sl _ _ _ _=>true
 |.C9 _ _ _=>true
 |p=>IV H p
def lZ(name:String)(args:List PV):Option PV:=
 if name = "math.sqrt" then
  match args with
  | [.val (.float .f64 x)]=>(FloatKind.f64.format.sqrt x).map fun r=>.val (.float .f64 r)
  |_=>none
 else if name = "internal/bytealg.IndexByteString" then
  match args with
  | [.val (.string s),.val (.int .u8 b)]=>some (.val (.int .i64 (match (List.range s.size).find? fun i=>s[i]! == b.toNat.toUInt8 with |some i=>(i:Int) |none=>-1)))
  |_=>none
 else if name = "internal/bytealg.abigen_runtime_cmpstring" then
  match args with
  | [.val (.string s),.val (.string t)]=>some (.val (.int .i64 (Extern.BytealgCompare.cmp s t)))
  |_=>none
 else none
def Ng(P:Program)(k:FuncId)(args:List PV):Option PV:=
 match P.funcs[k]? with
 |some fn=>
  match fn.body with
  |some _=>none
  |none=>if fn.name == "runtime.NumGoroutine" then none else if (Extern.findNext fn).isSome then none else lZ fn.name args
 |none=>none
def pq(op:BinOp)(c b:Bool):Option PV:=match c with |true=>(match op with |.eql=>some (.val (.bool b)) |.neq=>some (.val (.bool !b)) |_=>none) |false=>none
def Yu(P:Program)(T:TypeId):Bool:=match P.underlying T with |some (.pointer e)=>(match P.info? e with |some j=>j.size != 0 |none=>false) |_=>false
def fv(P:Program)(T:TypeId):Bool:=match P.underlying T with |some (.interface _)=>true |_=>false
def l5(P:Program)(H:List Row)(op:BinOp)(T:TypeId)(x y:PV):Option PV:=
 match x,y with
 |.ptr i n k j,.val (.pointer none)=>pq op (Yu P T&&IV H (.ptr i n k j)) false
 |.val (.pointer none),.val (.pointer none)=>pq op (Yu P T) true
 |.ptr i n k j,.ptr i' n' k' j'=>pq op (Yu P T&&IV H (.ptr i n k j)&&(i==i'&&n==n'&&k==k'&&j==j')) true
 |.gv _,.val .nilIface=>pq op (fv P T) false
 |.bad _,.val .nilIface=>pq op (fv P T) false
 |.val .nilIface,.gv _=>pq op (fv P T) false
 |_,_=>none
def TB(P:Program)(H:List Row)(op:BinOp)(T:TypeId)(x0 y0:Operand)(x y:PV):Option PV:=
 match x,y with
 |.sl i n _ _,.val (.slice none 0 0)=>
  match rowAt H i,P.underlying T,op with
  |some r,some (.slice _),.eql=>if r.es.length=n then some (.val (.bool r.nl)) else none
  |some r,some (.slice _),.neq=>if r.es.length=n then some (.val (.bool !r.nl)) else none
  |_,_,_=>none
 |x,y=>Nc P op T x0 y0 x y
def cW(P:Program)(H:List Row)(op:BinOp)(T:TypeId)(x0 y0:Operand)(x y:PV):Option PV:=
 match l5 P H op T x y with
 |some p=>some p
 |none=>TB P H op T x0 y0 x y
def V8(es:List PV):ByteArray:=strOfNums (es.map fun p=>(p.cellAt 0).DL)
def Mj(P:Program)(e:TypeId):Bool:=(match P.underlying e with |some (.int .u8)=>true |_=>false)&&P.cellsOf e==1&&(match kinds P e with | [.int .u8]=>true |_=>false)
def Q0(P:Program)(H:List Row)(src dst:TypeId)(x:PV):Option PV:=
 match x with
 |.sl i n k len=>
  match rowAt H i,P.underlying src,P.underlying dst with
  |some r,some (.slice e),some .string=>if Mj P e&&r.t==e&&(r.es.length==n)&&r.bv then some (.val (.string (V8 ((r.es.drop k).take len)))) else none
  |_,_,_=>none
 |.C9 _ t es=>
  match P.underlying src,P.underlying dst with
  |some (.slice e),some .string=>if Mj P e&&t==e then some (.val (.string (V8 es))) else none
  |_,_=>none
 |.val (.slice none 0 0)=>
  match P.underlying src,P.underlying dst with
  |some (.slice e),some .string=>if Mj P e then some (.val (.string .empty)) else none
  |_,_=>none
 |x=>V5 P src dst x
def aw(P:Program)(H:List Row)(src dst:TypeId)(x:PV):Option PV:=
 match x with
 |.ptr i n k j=>
  match rowAt H i with
  |some r=>
   match P.underlying src,P.underlying dst with
   |some (.pointer t),some .unsafePointer=>match Yu P src&&(r.es.length==n)&&decide (j<r.s)&&known P t with |true=>some (.ptr i n k j) |false=>none
   |some .unsafePointer,some (.pointer u)=>match Yu P dst&&(r.es.length==n)&&r.t==u&&decide (j=0) with |true=>some (.ptr i n k j) |false=>none
   |_,_=>none
  |none=>none
 |_=>none
def Q1(P:Program)(k:FuncId)(args:List PV):Option PV:=
 match P.funcs[k]? with
 |some fn=>match fn.body,fn.name == "internal/abi.NoEscape",fn.name == "runtime.NumGoroutine",(Extern.findNext fn).isSome,args with
  |none,true,false,false,[x]=>some x
  |_,_,_,_,_=>none
 |none=>none
def xt(H:List Row)(x:PV):Option PV:=
 match x with
 |.val (.slice none 0 0)=>some (.val (.pointer none))
 |.sl i n k len=>
  match rowAt H i with
  |some r=>match r.nl with
   |true=>if r.es.length=n then some (.val (.pointer none)) else none
   |false=>if r.es.length=n/\0<len then some (.ptr i n k 0) else none
  |none=>none
 |_=>none
def az(P:Program)(H:List Row)(f:Operand->PV)(c:Call):Option PV:=
 match c.callee with
 |.value g=>match f g with |.fn (.func k) [] []=>(match Q1 P k (c.args.toList.map f) with |some p=>some p |none=>Ng P k (c.args.toList.map f)) |_=>none
 |.builtin .len=>match c.args.toList,c.argTypes[0]? with | [x],some T=>tX P T (f x) |_,_=>none
 |.builtin .min=>match c.args.toList with |x::xs=>TA fq (f x) (xs.map f) | []=>none
 |.builtin .max=>match c.args.toList with |x::xs=>TA ft (f x) (xs.map f) | []=>none
 |.builtin .unsafeSliceData=>match c.args.toList with | [x]=>xt H (f x) |_=>none
 |_=>none
def pr(sz:Nat)(cs:List PV)(n:Nat):List PV:=(List.range n).map fun i=>.agg ((cs.drop (i*sz)).take sz)
def l6(P:Program)(n:Nat)(e:TypeId)(x:PV)(lo hi mx:Option PV):Option PV:=
 match x,Ft lo,Ft hi,Ft mx with
 |.EF _ c 0,some l,some h,some none=>
  match known P e&&Dh P e&&decide (c.cells.length=n*P.cellsOf e)&&(pr (P.cellsOf e) c.cells n).all (wt P e)&&decide (0<=l.getD 0)&&decide (l.getD 0<=h.getD n)&&decide (h.getD n<=n) with
  |true=>some (.C9 false e (((pr (P.cellsOf e) c.cells n).take (h.getD n).toNat).drop (l.getD 0).toNat))
  |false=>none
 |_,_,_,_=>none
def GW(P:Program)(H:List Row)(f:Operand->PV):Op->Option PV
 |.move x |.assign x=>some (f x)
 |.pick c a b=>fu (f c) (f a) (f b)
 |.build t parts=>Yt P t (parts.toList.map fun x=>(x.1,f x.2))
 |.load t a=>Tz P H t (f a)
 |.nilCheck x=>if av H (f x) then some (f x) else none
 |.binOp op t x y _=>cW P H op t x y (f x) (f y)
 |.unOp op _ x=>unV op (f x)
 |.convert s d x=>match aw P H s d (f x) with |some p=>some p |none=>Q0 P H s d (f x)
 |.makeInterface t x=>match P.underlying t with |some (.interface _) |none=>none |some _=>some (.Kp t (f x))
 |.makeFunc fn a b=>some (.fn fn (a.toList.map f) (b.toList.map f))
 |.slice t x lo hi mx=>match P.underlying t with |some (.array n e)=>l6 P n e (f x) (lo.map f) (hi.map f) (mx.map f) |_=>Io P H t (f x) (lo.map f) (hi.map f) (mx.map f)
 |.fieldAddr t x i=>Ik P H t i (f x)
 |.field t x i=>Yq P t i (f x)
 |.indexAddr t x ix=>Il P H t (f x) (f ix)
 |.index t x ix=>QX P t (f x) (f ix)
 |.extract t i=>QY i (f t)
 |.call c=>az P H f c
 |_=>none
section
variable {P:Program} {C:Ctx}
theorem Yv{T:TypeId}{x p:PV}{X:Value}(hx:RV P C x X)(h:tX P T x=some p)(ts:Array TypeId)(ht:ts[0]? = some T)(ty:TypeId):
  ∃ v,(Builtin.len_ ts ty #[X]).run P C.w=.ok v C.w/\RV P C p v:=by
 unfold tX at h;split at h
 ·rename_i hu;cases hx;cases h;exact⟨_,by simp[Builtin.len_,ht,run_underlying hu,goInt],.val⟩
 ·rename_i hu;cases h;exact⟨_,by simp[Builtin.len_,ht,run_underlying hu,goInt],.val⟩
 ·rename_i hu;cases h;cases hx with
  |sl hV=>obtain⟨a,c,rfl⟩:=hV;exact⟨_,by simp[Builtin.len_,ht,run_underlying hu,goInt],.val⟩
 ·rename_i hu;cases h;cases hx with
  |C9=>exact⟨_,by simp[Builtin.len_,ht,run_underlying hu,goInt],.val⟩
 ·rename_i hu;cases hx;cases h;exact⟨_,by simp[Builtin.len_,ht,run_underlying hu,goInt],.val⟩
 ·cases h
theorem KN{f:PV->PV->Option PV}{g:Value->Value->Sem Value}(hf:∀{x y z:PV} {X Y:Value},RV P C x X->RV P C y Y->f x y=some z->∃ Z,(g X Y).run P C.w=.ok Z C.w/\RV P C z Z):
  ∀{xs:List PV} {x z:PV} {X:Value} {Xs:List Value},RV P C x X->xs.length=Xs.length->(∀(j:Nat) p v,xs[j]? = some p->Xs[j]? = some v->RV P C p v)->TA f x xs=some z ->
   ∃ Z,(Xs.foldlM g X).run P C.w=.ok Z C.w/\RV P C z Z
 | [],x,z,X,[],hx,_,_,h=>by simp only[TA,A5]at h;subst h;exact⟨X,by simp,hx⟩
 | [],_,_,_,_::_,_,hl,_,_=>by simp at hl
 |_::_,_,_,_,[],_,hl,_,_=>by simp at hl
 |y::ys,x,z,X,Y::Ys,hx,hl,hall,h=>by
  simp only[TA]at h;split at h
  ·rename_i q hq;obtain⟨Z,h1,h2⟩:=hf hx (hall 0 y Y rfl rfl) hq;obtain⟨Z',h3,h4⟩:=KN hf h2 (by simpa using hl) (fun j p v g1 g2=>hall (j+1) p v g1 g2) h;exact⟨Z',by simp[List.foldlM_cons,h1,h3],h4⟩
  ·cases h
theorem V9{x y z:PV}{X Y:Value}(hx:RV P C x X)(hy:RV P C y Y)(h:fq x y=some z):∃ Z,(Builtin.min2 X Y).run P C.w=.ok Z C.w/\RV P C z Z:=by
 unfold fq at h;split at h
 ·cases hx;cases hy;cases h;exact⟨_,by simp[Builtin.min2],.val⟩
 ·cases h
theorem Wa{x y z:PV}{X Y:Value}(hx:RV P C x X)(hy:RV P C y Y)(h:ft x y=some z):∃ Z,(Builtin.max2 X Y).run P C.w=.ok Z C.w/\RV P C z Z:=by
 unfold ft at h;split at h
 ·cases hx;cases hy;cases h;exact⟨_,by simp[Builtin.max2],.val⟩
 ·cases h
theorem Wb{c a b p:PV}{Cv A B:Value}(hc:RV P C c Cv)(ha:RV P C a A)(hb:RV P C b B)(h:fu c a b=some p):∃ t,Cv=.bool t/\RV P C p (if t then A else B):=by
 unfold fu at h;split at h
 ·rename_i t;cases hc;refine⟨t,rfl,?_⟩;split at h
  ·cases ha;cases hb;cases h;cases t <;> exact .val
  ·split at h
   ·cases h;simpa using ha
   ·cases h;simpa using hb
 ·cases h
theorem Wc{H:List Row}(hS:Sub H C){p:PV}{V:Value}(hv:RV P C p V)(h:av H p=true):
  V≠.pointer none/\V≠.nilIface/\V≠.nilFunc/\(∀ n a b,V≠.func (.method n) a b):=by
 unfold av at h;split at h
 ·cases hv;simp
 ·cases hv;simp
 ·cases hv with |sl hV=>obtain⟨a,c,rfl⟩:=hV;simp
 ·cases hv;simp
 ·obtain⟨a,rfl,_⟩:=HQ (d:=0) hS hv h;simp
theorem Nh{f:Operand->PV}{g:Operand->Value}{xs:Array Operand}(h:∀ x∈xs,RV P C (f x) (g x)):
  (xs.map g).size=(xs.toList.map f).length/\∀(j:Nat) c v,(xs.toList.map f)[j]? = some c->(xs.map g)[j]? = some v->RV P C c v:=by
 refine⟨by simp,fun j c v h1 h2=>?_⟩;simp only[An,Af]at h1;simp only[B6,Af]at h2;obtain⟨x,hx,rfl⟩:=h1;obtain⟨y,hy,rfl⟩:=h2;rw[AL]at hx;have:x=y:=Ah (hx.symm.trans hy);subst this;exact h x (Array.mem_of_getElem? hx)
theorem Yw{fn:Func}{args:List PV}{Vs:Array Value}{p:PV}(hv:Cs P C args Vs)(h:lZ fn.name args=some p):
  ∃ e v,Extern.find fn=some e/\(∀ w,(e Vs).run P w=.ok v w)/\p=.val v:=by
 unfold lZ at h;split at h
 ·rename_i hn;split at h
  ·rename_i x;have hf:Extern.find fn=some Extern.MathSqrt.sqrt:=by
    unfold Extern.find;simp only[hn];rw[show Extern.allGenericRows.lookup "math.sqrt" = none from Ba.1 (by kernel_rfl),show Extern.allTypedRows.lookup "math.sqrt" = none from Ba.1 (by kernel_rfl),
     show Extern.allRows.lookup "math.sqrt" = some Extern.MathSqrt.sqrt by kernel_rfl]
    rfl
   obtain⟨r,hr,rfl⟩:=Af.1 h;obtain⟨V,rfl⟩:∃ V,Vs = #[V]:=by match Vs,hv.1 with |⟨[V]⟩,_=>exact⟨V,rfl⟩
   cases hv.2 0 _ _ rfl rfl;refine⟨_,.float .f64 r,hf,fun w=>?_,rfl⟩;have e:Extern.MathSqrt.sqrt #[.float .f64 x]=(match FloatKind.f64.format.sqrt x with |some r=>pure (.float .f64 r) |none=>do pure (.float .f64 (<- choose (.nanBits .f64 x x)))):=rfl;rw[e,hr];rfl
  ·cases h
 ·split at h
  ·rename_i hn;split at h
   ·rename_i s b;have hf:Extern.find fn=some Extern.BytealgIndexByte.indexByte:=by
     unfold Extern.find;simp only[hn];rw[show Extern.allGenericRows.lookup "internal/bytealg.IndexByteString" = none from Ba.1 (by kernel_rfl),show Extern.allTypedRows.lookup "internal/bytealg.IndexByteString" = none from Ba.1 (by kernel_rfl),
      show Extern.allRows.lookup "internal/bytealg.IndexByteString" = some Extern.BytealgIndexByte.indexByte by kernel_rfl]
     rfl
    cases h;obtain⟨V,U,rfl⟩:∃ V U,Vs = #[V,U]:=by match Vs,hv.1 with |⟨[V,U]⟩,_=>exact⟨V,U,rfl⟩
    cases hv.2 0 _ _ rfl rfl;cases hv.2 1 _ _ rfl rfl;refine⟨_,_,hf,fun w=>?_,rfl⟩;have e:Extern.BytealgIndexByte.indexByte #[.string s,.int .u8 b]=(do
      let b' <- Extern.Bytes.bytesOf (.string s)
      let c <- Extern.Bytes.asByte (.int .u8 b)
      match (List.range b'.size).find? fun i=>b'[i]! == c with
      |some i=>pure (goInt i)
      |none=>pure (goInt (-1))):=rfl
    rw[e];simp only[Extern.Bytes.bytesOf,Extern.Bytes.asByte,Sem.run_bind,Sem.run_pure,Result.andThen_ok];cases(List.range s.size).find? fun i=>s[i]! == b.toNat.toUInt8 <;> rfl
   ·cases h
  ·split at h
   ·rename_i hn;split at h
    ·rename_i s u;have hf:Extern.find fn=some Extern.BytealgCompare.compare:=by
      unfold Extern.find;simp only[hn];rw[show Extern.allGenericRows.lookup "internal/bytealg.abigen_runtime_cmpstring" = none from Ba.1 (by kernel_rfl),show Extern.allTypedRows.lookup "internal/bytealg.abigen_runtime_cmpstring" = none from Ba.1 (by kernel_rfl),
       show Extern.allRows.lookup "internal/bytealg.abigen_runtime_cmpstring" = some Extern.BytealgCompare.compare by kernel_rfl]
      rfl
     cases h;obtain⟨V,U,rfl⟩:∃ V U,Vs = #[V,U]:=by match Vs,hv.1 with |⟨[V,U]⟩,_=>exact⟨V,U,rfl⟩
     cases hv.2 0 _ _ rfl rfl;cases hv.2 1 _ _ rfl rfl;refine⟨_,_,hf,fun w=>?_,rfl⟩;have e:Extern.BytealgCompare.compare #[.string s,.string u]=(do pure (goInt (Extern.BytealgCompare.cmp (<- Extern.Bytes.bytesOf (.string s)) (<- Extern.Bytes.bytesOf (.string u))))):=rfl;rw[e];simp only[Extern.Bytes.bytesOf,Sem.run_bind,Sem.run_pure,Result.andThen_ok];rfl
    ·cases h
   ·cases h
theorem run_mark'(m:Mark)(w:World):(mark m).run P w=.ok () w:=rfl
theorem Tg{k:FuncId}{args:List PV}{Vs:Array Value}{p:PV}(hv:Cs P C args Vs)(h:Ng P k args=some p):
  ∃ v,(∀ w,(callFunc k Vs).run P w=.ok (.value v) w)/\p=.val v:=by
 unfold Ng at h;split at h
 ·rename_i fn hfn;split at h
  ·cases h
  ·rename_i hb;split at h
   ·cases h
   ·rename_i hn;split at h
    ·cases h
    ·rename_i hx;obtain⟨e,v,h1,h2,rfl⟩:=Yw hv h;refine⟨v,fun w=>?_,rfl⟩;have hx':Extern.findNext fn=none:=by simpa using hx
     simp only[callFunc,Sem.run_bind,Go.run_program,Result.andThen_ok,hfn,hb,hn,A4,Cd,Option.isNone_none,BV,run_mark',hx',h1,h2,Sem.run_pure]
 ·cases h
theorem GA{T:TypeId}(h:Yu P T=true):∃ e j,P.underlying T=some (.pointer e)/\P.info? e=some j/\j.size≠0:=by
 unfold Yu at h;split at h
 ·rename_i e hu;split at h
  ·rename_i j hj;exact⟨e,j,hu,hj,by simpa using h⟩
  ·cases h
 ·cases h
theorem MC{T:TypeId}(h:fv P T=true):∃ ms,P.underlying T=some (.interface ms):=by
 unfold fv at h;split at h
 ·exact⟨_,by assumption⟩
 ·cases h
theorem Ni{H:List Row}(hS:Sub H C){i n k j:Nat}{X:Value}(hx:RV P C (.ptr i n k j) X)(h:IV H (.ptr i n k j)=true):
  ∃ r b,rowAt H i=some r/\C.row? i=some r/\r.es.length=n/\C.ρ i=some b/\X=.pointer (some ⟨b,k*r.s+j,none⟩):=by
 unfold IV at h;dsimp only at h;split at h
 ·rename_i r hr;cases hx with
  |ptr hV hk hi hn hh=>
   have hl:r.es.length=n:=by simpa using h
   obtain⟨b,h1,h2⟩:=hh r (hS _ _ hr) hl;exact⟨r,b,hr,hS _ _ hr,hl,h1,h2⟩
 ·cases h
theorem Ji{op:BinOp}{c b:Bool}{p:PV}(h:pq op c b=some p):c=true/\((op=.eql/\p=.val (.bool b))\/(op=.neq/\p=.val (.bool !b))):=by
 unfold pq at h;cases c with
 |false=>cases h
 |true=>
  refine⟨rfl,?_⟩;dsimp only at h;split at h
  ·cases h;exact .inl ⟨rfl,rfl⟩
  ·cases h;exact .inr ⟨rfl,rfl⟩
  ·cases h
theorem Lz{op:BinOp}{T:TypeId}{x0 y0:Operand}{b:Bool}{p:PV}{X Y:Value}(w:World)(h1:X≠.nilIface\/Y≠.nilIface)(h2:(∀ c,X≠.agg c)\/(∀ c,Y≠.agg c))
  (hb1:binOp .eql T X Y=(do pure (.bool (<- Op.equal T X Y)))) (hb2:binOp .neq T X Y=(do pure (.bool (!(<- Op.equal T X Y))))) (he:∀ d,(Op.equalIn (d+1) T X Y).run P w=.ok b w)
  (h:(op=.eql/\p=.val (.bool b))\/(op=.neq/\p=.val (.bool !b))):∃ v,(do eqGuard op T x0 y0 X Y;binOp op T X Y:Sem Value).run P w=.ok v w/\p=.val v:=by
 rcases h with ⟨rfl,rfl⟩ |⟨rfl,rfl⟩
 ·exact⟨_,by rw[DC w h1 h2];exact Em w hb1 he,rfl⟩
 ·exact⟨_,by rw[DC w h1 h2];exact En w hb2 he,rfl⟩
theorem Yx{H:List Row}(hS:Sub H C){op:BinOp}{T:TypeId}{x0 y0:Operand}{x y p:PV}{X Y:Value}(hx:RV P C x X)(hy:RV P C y Y)(h:l5 P H op T x y=some p):
  ∃ v,(do eqGuard op T x0 y0 X Y;binOp op T X Y:Sem Value).run P C.w=.ok v C.w/\p=.val v:=by
 unfold l5 at h;split at h
 ·obtain⟨h1,h2⟩:=Ji h;rw[Aa]at h1;obtain⟨e,j,hu,_,_⟩:=GA h1.1;obtain⟨r,b,_,_,_,_,rfl⟩:=Ni hS hx h1.2;cases hy;exact Lz C.w (.inl (by simp)) (.inl (by simp)) rfl rfl (fun d=>by simp[Op.equalIn,run_underlying hu]) h2
 ·obtain⟨h1,h2⟩:=Ji h;obtain⟨e,j,hu,_,_⟩:=GA h1;cases hx;cases hy;exact Lz C.w (.inl (by simp)) (.inl (by simp)) rfl rfl (fun d=>by simp[Op.equalIn,run_underlying hu]) h2
 ·obtain⟨h1,h2⟩:=Ji h;simp only[Aa,Ay]at h1;obtain⟨⟨h3,h4⟩,⟨⟨rfl,rfl⟩,rfl⟩,rfl⟩:=h1;obtain⟨e,j,hu,hj,hz⟩:=GA h3;obtain⟨r,b,_,_,_,hb,rfl⟩:=Ni hS hx h4;obtain⟨r',b',hr',_,_,hb',rfl⟩:=Ni hS hy h4;rename_i hr0 _ _;have hbb:b'=b:=Ah (hb'.symm.trans hb);have hrr:r'=r:=Ah (hr'.symm.trans (by assumption));subst hbb;subst hrr;exact Lz C.w (.inl (by simp)) (.inl (by simp)) rfl rfl (fun d=>by simp[Op.equalIn,run_underlying hu,sizeOf,typeInfo,hj,run_sameAddr_same]) h2
 ·obtain⟨h1,h2⟩:=Ji h;obtain⟨ms,hu⟩:=MC h1;cases hy;cases hx with
  |gv _ _ _ hV=>obtain⟨t,a,rfl⟩:=hV;exact Lz C.w (.inl (by simp)) (.inl (by simp)) rfl rfl (fun d=>by simp[Op.equalIn,run_underlying hu]) h2
 ·obtain⟨h1,h2⟩:=Ji h;obtain⟨ms,hu⟩:=MC h1;cases hy;cases hx with
  |bad hV=>obtain⟨T,b,s,n,c,v0,rfl,_⟩:=hV;exact Lz C.w (.inl (by simp)) (.inl (by simp)) rfl rfl (fun d=>by simp[Op.equalIn,run_underlying hu]) h2
 ·obtain⟨h1,h2⟩:=Ji h;obtain⟨ms,hu⟩:=MC h1;cases hx;cases hy with
  |gv _ _ _ hV=>obtain⟨t,a,rfl⟩:=hV;exact Lz C.w (.inr (by simp)) (.inr (by simp)) rfl rfl (fun d=>by simp[Op.equalIn,run_underlying hu]) h2
 ·cases h
theorem cX{e:TypeId}(hs:P.cellsOf e≠0)(count k:Nat)(hk:k<count):liesAt P P.depth e count (k*P.cellsOf e) e 1=true:=by
 have hd:P.depth=(2*(P.types.size+Made.depth)+1)+1:=rfl;rw[hd];simp only[liesAt,A2];left
 rw[hd];simp only[Go.rowAt,hs,Cd,A2,Aa,Ab,Ay];left
 refine⟨⟨Nat.mul_mod_left _ _,?_⟩,?_⟩
 ·rw[Nat.mul_div_cancel _ (Nat.pos_of_ne_zero hs)];omega
 ·simp[sameLayout]
theorem Wd{H:List Row}(hR:RH P C)(hS:Sub H C){src dst:TypeId}{x p:PV}{X:Value}(hx:RV P C x X)(h:aw P H src dst x=some p):∃ v,(convert src dst X).run P C.w=.ok v C.w/\RV P C p v:=by
 unfold aw at h;split at h
 ·rename_i i n k j;split at h
  ·rename_i r hr;have base:(r.es.length==n)=true->∃ b c fr,C.ρ i=some b/\X=.pointer (some ⟨b,k*r.s+j,none⟩)/\C.w.heap[b]? = some (.cells c r.t fr)/\r.es.length*r.s<=c.size/\k<r.es.length/\r.s=P.cellsOf r.t:=by
    intro hn;obtain⟨r',b,h1,h2,h3,h4,h5⟩:=Ni hS hx (by simp only[IV,hr];exact hn);have:r'=r:=Ah (h1.symm.trans hr);subst this;have hB:=hR.GP i b r' h4 h2;obtain⟨c,fr,cv,m1,m2,m3,m4⟩:=hB.mem;cases hx with
    |ptr hV hk hi hle hh=>exact⟨b,c,fr,h4,h5,m1,m3,by omega,hB.sz⟩
   split at h
   ·rename_i t hs hd;split at h
    ·rename_i hc;simp only[Aa,Ab]at hc;obtain⟨⟨⟨h1,h2⟩,h3⟩,h4⟩:=hc;cases h;obtain⟨b,c,fr,hb,rfl,hh,hsz,hk,hsr⟩:=base h2;obtain⟨e,jj,hu,hj,hz⟩:=GA h1;rw[hs]at hu;cases hu;refine⟨_,Go.Lib.run_to_unsafe (w:=C.w) (e:=r.t) (cells:=c.size) ⟨b,k*r.s+j,none⟩ hs hd hj hz (by simp[World.shape?,hh]) ?_,hx⟩;have:(k+1)*r.s<=r.es.length*r.s:=A1 _ hk;rw[Bb,BQ]at this;show k*r.s+j<c.size
     omega
    ·cases h
   ·rename_i u hs hd;split at h
    ·rename_i hc;simp only[Aa,Ab,Ay]at hc;obtain⟨⟨⟨h1,h2⟩,h3⟩,rfl⟩:=hc;cases h;obtain⟨b,c,fr,hb,rfl,hh,hsz,hk,hsr⟩:=base (by simpa using h2);obtain⟨e,jj,hu,hj,hz⟩:=GA h1;rw[hd]at hu;cases hu;subst h3;have hne:P.cellsOf r.t≠0:=by simp[Program.cellsOf,hj];exact hz
     refine⟨_,Go.Lib.run_from_unsafe (w:=C.w) (e:=r.t) (cells:=c.size) ⟨b,k*r.s+0,none⟩ hs hd hj (by simp[World.shape?,hh]) ?_,hx⟩;show liesAt P P.depth r.t (c.size / P.cellsOf r.t) (k*r.s+0) r.t 1=true
     rw[BA,hsr];refine cX hne _ _ ?_;rw[hsr]at hsz;exact AA hk ((Nat.le_div_iff_mul_le (Nat.pos_of_ne_zero hne)).2 hsz)
    ·cases h
   ·cases h
  ·cases h
 ·cases h
theorem Uz{k:FuncId}{args:List PV}{Vs:Array Value}{p:PV}(hv:Cs P C args Vs)(h:Q1 P k args=some p):∃ v,(∀ w,(callFunc k Vs).run P w=.ok (.value v) w)/\RV P C p v:=by
 unfold Q1 at h;split at h
 ·rename_i fn hfn;split at h
  ·rename_i x hb hn hg hx;cases h;obtain⟨V,rfl⟩:∃ V,Vs = #[V]:=by match Vs,hv.1 with |⟨[V]⟩,_=>exact⟨V,rfl⟩
   refine⟨V,fun w=>?_,hv.2 0 _ _ rfl rfl⟩;have hn':fn.name = "internal/abi.NoEscape":=by simpa using hn
   have hf:Extern.find fn=some Extern.AbiNoEscape.same:=by
    unfold Extern.find;simp only[hn'];rw[show Extern.allGenericRows.lookup "internal/abi.NoEscape" = none from Ba.1 (by kernel_rfl),show Extern.allTypedRows.lookup "internal/abi.NoEscape" = none from Ba.1 (by kernel_rfl),
     show Extern.allRows.lookup "internal/abi.NoEscape" = some Extern.AbiNoEscape.same by kernel_rfl]
    rfl
   have hx':Extern.findNext fn=none:=by simpa using hx
   simp only[callFunc,Sem.run_bind,Go.run_program,Result.andThen_ok,hfn,hb,hg,A4,Cd,Option.isNone_none,BV,run_mark',hx',hf,Go.Lib.run_noEscape,Sem.run_pure]
  ·cases h
 ·cases h
theorem cY{H:List Row}(hS:Sub H C){x p:PV}{X:Value}(hx:RV P C x X)(h:xt H x=some p)(ts:Array TypeId)(ty:TypeId):∃ v,(Builtin.unsafeSliceData_ ts ty #[X]).run P C.w=.ok v C.w/\RV P C p v:=by
 unfold xt at h;split at h
 ·cases h;cases hx;exact⟨_,Go.Lib.run_unsafeSliceData_nil C.w ts ty 0 0,.val⟩
 ·rename_i i n k len;split at h
  ·rename_i r hr;cases hx with
   |sl hV hi hle hh=>
    split at h
    ·rename_i hnl;split at h
     ·rename_i hn;cases h;obtain⟨_,a,cap,rfl,_,hsl⟩:=hh r (hS _ _ hr) hn;unfold E4 at hsl;rw[Ak hnl]at hsl;rw[hsl.1];exact⟨_,Go.Lib.run_unsafeSliceData_nil C.w ts ty _ _,.val⟩
     ·cases h
    ·rename_i hnl;split at h
     ·rename_i hn;cases h;obtain⟨hk,a,cap,rfl,hlc,hsl⟩:=hh r (hS _ _ hr) hn.1;unfold E4 at hsl;rw[Aq (by simp[hnl])]at hsl;obtain⟨b,hb,rfl,_⟩:=hsl;refine⟨_,Go.Lib.run_unsafeSliceData_row C.w ts ty _ _ _ (by omega),.ptr ⟨_,rfl⟩ (by omega) hi hle fun r' hr' _=>?_⟩;have:r'=r:=Ah (hr'.symm.trans (hS _ _ hr));subst this;exact⟨b,hb,rfl⟩
     ·cases h
  ·cases h
 ·cases h
theorem Yy{H:List Row}(hS:Sub H C){op:BinOp}{T:TypeId}{x0 y0:Operand}{x y p:PV}{X Y:Value}(hx:RV P C x X)(hy:RV P C y Y)(h:cW P H op T x0 y0 x y=some p):
  ∃ v,(do eqGuard op T x0 y0 X Y;binOp op T X Y:Sem Value).run P C.w=.ok v C.w/\p=.val v:=by
 unfold cW at h;split at h
 ·rename_i q hq;cases h;exact Yx hS hx hy hq
 rename_i hnone;clear hnone;unfold TB at h;split at h
 ·rename_i i n k len;cases hy;cases hx with
  |sl hV hi hn hh=>
  have key:∀ r,rowAt H i=some r->r.es.length=n->∃ a l cap,X=.slice a l cap/\(a.isNone=r.nl):=by
   intro r h1 h2;obtain⟨_,a,cap,rfl,_,hs⟩:=hh r (hS _ _ h1) h2;refine⟨a,_,cap,rfl,?_⟩;unfold E4 at hs;split at hs
   ·rename_i hnl;rw[hs.1,hnl];rfl
   ·rename_i hnl;obtain⟨b,_,hb,_⟩:=hs;rw[hb];simp at hnl;rw[hnl];rfl
  split at h
  ·rename_i r _ hr hu;split at h
   ·rename_i hl;cases h;obtain⟨a,l,cap,rfl,e⟩:=key r hr hl;rw[DC C.w (.inl (by simp)) (.inl (by simp))];cases a with
    |none=>exact⟨_,Em C.w rfl (fun d=>by simp[Op.equalIn,run_underlying hu];try rfl),by rw[<- e];rfl⟩
    |some a=>exact⟨_,Em C.w rfl (fun d=>by simp[Op.equalIn,run_underlying hu];try rfl),by rw[<- e];rfl⟩
   ·cases h
  ·rename_i r _ hr hu;split at h
   ·rename_i hl;cases h;obtain⟨a,l,cap,rfl,e⟩:=key r hr hl;rw[DC C.w (.inl (by simp)) (.inl (by simp))];cases a with
    |none=>exact⟨_,En C.w rfl (fun d=>by simp[Op.equalIn,run_underlying hu];try rfl),by rw[<- e];rfl⟩
    |some a=>exact⟨_,En C.w rfl (fun d=>by simp[Op.equalIn,run_underlying hu];try rfl),by rw[<- e];rfl⟩
   ·cases h
  ·cases h
 ·exact Yp hx hy h C.w
theorem Ez{e:TypeId}(h:Mj P e=true):P.underlying e=some (.int .u8)/\P.cellsOf e=1/\kinds P e=[.int .u8]:=by
 unfold Mj at h;simp only[Aa,Ay]at h;obtain⟨⟨h1,h2⟩,h3⟩:=h;refine⟨?_,h2,?_⟩
 ·split at h1
  ·assumption
  ·cases h1
 ·split at h3
  ·assumption
  ·cases h3
theorem JS{e:TypeId}(h:Mj P e=true){p:PV}(hw:wt P e p=true):p.cells[0]? = some (.val (.int .u8 (p.cellAt 0).DL)):=by
 obtain⟨_,_,h3⟩:=Ez h;unfold wt at hw;rw[h3]at hw;simp only[Aa]at hw;have hw1:=hw.1;unfold PV.cellAt
 match hc:p.cells,hw1 with
 | [.val (.int .u8 n)],_=>rfl
theorem TC{src dst e:TypeId}(hb:Mj P e=true)(hs:P.underlying src=some (.slice e))(hd:P.underlying dst=some .string){b off:Nat}{len cap:Nat}{es:List PV}(hl:es.length=len)
  (hc:∀(x:Nat) p,es[x]? = some p->C.w.cell? ⟨b,off+x,none⟩=some (.int .u8 (p.cellAt 0).DL)):(convert src dst (.slice (some ⟨b,off,none⟩) len cap)).run P C.w=.ok (.string (V8 es)) C.w:=by
 refine run_convert_bytes_arg C.w src e hs (Ez hb).1 b off len cap (es.map fun p=>(p.cellAt 0).DL) (by simpa using hl) (fun i hi=>?_) dst hd;have hx:es[i]? = some (es[i]'(by omega)):=Ae _;rw[hc i _ hx,Av,An,hx];rfl
theorem We{H:List Row}(hR:RH P C)(hS:Sub H C){src dst:TypeId}{x p:PV}{X:Value}(hx:RV P C x X)(h:Q0 P H src dst x=some p):∃ v,(convert src dst X).run P C.w=.ok v C.w/\p=.val v:=by
 unfold Q0 at h;split at h
 ·rename_i i n k len;split at h
  ·rename_i r e hr hs hd;split at h
   ·rename_i hc;simp only[Aa,Ay]at hc;obtain⟨⟨⟨hb,ht⟩,hn⟩,hbv⟩:=hc;cases h;cases hx with
    |sl hV hi hle hh=>
     obtain⟨hk,a,cap,rfl,hlc,hsl⟩:=hh r (hS _ _ hr) hn;refine⟨_,?_,rfl⟩;have hlen:((r.es.drop k).take len).length=len:=by simp;omega
     unfold E4 at hsl;split at hsl
     ·rename_i hnl;obtain⟨rfl,rfl⟩:=hsl;obtain rfl:len=0:=by omega
      rw[run_convert_bytes_nil C.w src e hs (Ez hb).1 0 0 dst hd];rfl
     ·obtain⟨b,hρ,rfl,c,ee,fr,hheap,hcs⟩:=hsl;have hB:=hR.GP i b r hρ (hS _ _ hr);obtain⟨c',fr',cv,m1,m2,m3,m4⟩:=hB.mem;have hsz:r.s=1:=by rw[hB.sz,ht];exact(Ez hb).2.1
      rw[hsz,CR];refine TC hb hs hd hlen fun x p hp=>?_
      rw[Au]at hp;split at hp
      ·rw[A8]at hp;have hw:=hB.typed hbv p (Ag hp);rw[ht]at hw;obtain⟨g1,g2⟩:=m4 (k+x) p 0 _ hp (JS hb hw);rw[hsz,CR,BA]at g1;rw[Ij m1,g1];generalize hcv:cv (k+x) 0=v at g2;cases g2;rfl
      ·cases hp
   ·cases h
  ·cases h
 ·rename_i full t es;split at h
  ·rename_i e hs hd;split at h
   ·rename_i hc;simp only[Aa,Ay]at hc;obtain⟨hb,rfl⟩:=hc;cases h;cases hx with
    |C9 b off cv hcap hfull ha hc hr ht=>
     refine⟨_,?_,rfl⟩;by_cases h0:0<es.length
     ·obtain⟨rfl,hban,hlt⟩:=ha h0;refine TC hb hs hd rfl fun x p hp=>?_
      have hw:=ht p (Ag hp);have g1:=hc x p 0 _ hp (JS hb hw);have g2:=hr x p 0 _ hp (JS hb hw);rw[(Ez hb).2.1,CR,BA]at g1;rw[g1];generalize hcv:cv x 0=v at g2;cases g2;rfl
     ·have he:es=[]:=BI (by omega);subst he;rename_i a cap;cases a with
      |none=>rw[run_convert_bytes_nil C.w src _ hs (Ez hb).1 _ _ dst hd];rfl
      |some a=>
       obtain⟨ab,ao,ags⟩:=a;rw[run_convert_bytes_string C.w src dst _ _ _ _ hs (Ez hb).1 hd,AB,run_bytesToString C.w _ 0 cap [] (by simp[loadCells,loadCellsFrom])];rfl
   ·cases h
  ·cases h
 ·split at h
  ·rename_i e hs hd;split at h
   ·rename_i hb;cases h;cases hx;exact⟨_,by rw[run_convert_bytes_nil C.w src _ hs (Ez hb).1 _ _ dst hd],rfl⟩
   ·cases h
  ·cases h
 ·exact Pa hx h C.w
theorem l7{sz:Nat}{cs:List PV}{n i:Nat}{e:PV}(h:(pr sz cs n)[i]? = some e):i<n/\e=.agg ((cs.drop (i*sz)).take sz):=by
 unfold pr at h;rw[An]at h;obtain⟨k,hk,rfl⟩:=Af.1 h;rcases Bv i n with hi |hi
 ·rw[Be hi]at hk;cases hk;exact⟨hi,rfl⟩
 ·rw[AG (by simpa using hi)]at hk;cases hk
theorem Yz{T e:TypeId}{n:Nat}{x p:PV}{X:Value}{lo hi mx:Option PV}{L Hi M:Option Value}(hu:P.underlying T=some (.array n e))(hx:RV P C x X)
  (hl:∀ r,Ft lo=some r->Bd L r) (hh:∀ r,Ft hi=some r->Bd Hi r) (hm:∀ r,Ft mx=some r->Bd M r) (h:l6 P n e x lo hi mx=some p):
  ∃ v,(Instr.sliceAt T X L Hi M).run P C.w=.ok v C.w/\RV P C p v:=by
 unfold l6 at h;split at h
 ·rename_i t c l hh' e1 e2 e3;split at h
  ·rename_i hc;simp only[Aa,Ab]at hc;obtain⟨⟨⟨⟨⟨⟨k1,k2⟩,k3⟩,k4⟩,k5⟩,k6⟩,k7⟩:=hc;cases h;have hM:M=none:=by rcases hm _ e3 with ⟨rfl,_⟩ |⟨_,_,_,hz⟩;rfl;cases hz
   subst hM;cases hx with
   | @EF _ _ _ b off cv hb hlt hcell hr ht=>
    have hbd:=Eo (P:=P) (len:=n) (cap:=n) C.w (isSlice:=false) (hl _ e1) (hh _ e2) k5 k6 k7;refine⟨_,by simp[Instr.sliceAt,run_underlying hu,Instr.sureAddr,hbd,run_sizeOf C.w k1];rfl,?_⟩;generalize hlz:(l.getD 0).toNat=lz;generalize hhz:(hh'.getD (n:Int)).toNat=hz;have b1:lz<=hz:=by omega
    have b2:hz<=n:=by omega
    have hlen:(((pr (P.cellsOf e) c.cells n).take hz).drop lz).length=hz-lz:=by
     unfold pr;simp;omega
    rw[<- hlen];have el:∀(i:Nat) (q:PV),(((pr (P.cellsOf e) c.cells n).take hz).drop lz)[i]? = some q->lz+i<hz/\q=.agg ((c.cells.drop ((lz+i)*P.cellsOf e)).take (P.cellsOf e)):=by
     intro i q hq;rw[A8,Au]at hq;split at hq
     ·rename_i hi;exact⟨hi,(l7 hq).2⟩
     ·cases hq
    have cl:∀(i j:Nat) (q p:PV),(((pr (P.cellsOf e) c.cells n).take hz).drop lz)[i]? = some q->q.cells[j]? = some p->c.cells[(lz+i)*P.cellsOf e+j]? = some p:=by
     intro i j q p hq hp;obtain⟨_,rfl⟩:=el i q hq;have hp':((c.cells.drop ((lz+i)*P.cellsOf e)).take (P.cellsOf e))[j]? = some p:=hp;rw[Au]at hp';split at hp'
     ·rwa [A8]at hp'
     ·cases hp'
    refine .C9 b (off+lz*P.cellsOf e) (fun i j=>cv ((lz+i)*P.cellsOf e+j)) (by rw[hlen];omega) (fun h=>by cases h) (fun h0=>?_) (fun i q j p hq hp=>?_) (fun i q j p hq hp=>hr _ p (cl i j q p hq hp)) (fun q hq=>?_)
    ·rw[hlen]at h0;refine⟨?_,hb,hlt⟩;rw[Aq (by omega)];unfold Addr.add;split <;> simp_all
    ·have:=hcell _ p (cl i j q p hq hp);rw[<- this];congr 2
     rw[Bb];omega
    ·have:=BP hq;exact Ao.1 k4 q (B0 this)
  ·cases h
 ·cases h
theorem JT{H:List Row}{f:Operand->PV}{g:Operand->Value}{o:Oper}{p:PV}(hR:RH P C)(hS:Sub H C)(hv:∀ x∈o.op.operands,RV P C (f x) (g x))(h:GW P H f o.op=some p):
  ∃ v,(execOp g o).run P C.w=.ok (.value v) C.w/\RV P C p v:=by
 obtain⟨dst,op,type,pos,after,guard⟩:=o;simp only at h hv;cases op <;> simp only[GW,reduceCtorEq,A5]at h <;> simp only[Op.operands]at hv
 case move x=>subst h;exact⟨_,by simp[execOp],hv x (by simp)⟩
 case assign x=>subst h;exact⟨_,by simp[execOp],hv x (by simp)⟩
 case pick c a b=>
  obtain⟨t,h1,h2⟩:=Wb (hv c (by simp)) (hv a (by simp)) (hv b (by simp)) h;refine⟨_,?_,h2⟩;simp[execOp,h1,asBool]
 case build t parts=>
  obtain⟨v,h1,h2⟩:=Ux (C:=C) (vs:=parts.toList.map fun x=>(x.1,g x.2)) h (by simp) (fun j q v g1 g2=>by
   simp only[An,Af]at g1 g2;obtain⟨x,hx,rfl⟩:=g1;obtain⟨y,hy,rfl⟩:=g2;have:x=y:=Ah (hx.symm.trans hy);subst this;exact⟨rfl,hv _ (by simp only[List.mem_toArray,AX];exact⟨x,Ag hx,rfl⟩)⟩)
  refine⟨v,?_,h2⟩;have e:(parts.map fun(i,x)=>(i,g x))=(parts.toList.map fun x=>(x.1,g x.2)).toArray:=by apply BD;simp
  simp only[execOp,e,Sem.run_bind,h1,Result.andThen_ok,Sem.run_pure]
 case load t a=>
  obtain⟨v,h1,h2⟩:=Pb hR hS (hv a (by simp)) h;exact⟨v,by simp[execOp,h1],h2⟩
 case nilCheck x=>
  split at h
  ·rename_i hn;cases h;obtain⟨h1,h2,h3,h4⟩:=Wc hS (hv x (by simp)) hn;refine⟨g x,?_,hv x (by simp)⟩;simp only[execOp];rfl
  ·cases h
 case binOp op t x y yt=>
  obtain⟨v,h1,rfl⟩:=Yy hS (hv x (by simp)) (hv y (by simp)) h;exact⟨v,by simp only[execOp,Sem.run_bind]at h1 ⊢;rw[h1];rfl,.val⟩
 case unOp op t x=>
  obtain⟨v,h1,rfl⟩:=cU (hv x (by simp)) h C.w;exact⟨v,by simp[execOp,h1],.val⟩
 case convert s d x=>
  split at h
  ·rename_i q hq;cases h;obtain⟨v,h1,h2⟩:=Wd hR hS (hv x (by simp)) hq;exact⟨v,by simp[execOp,h1],h2⟩
  ·obtain⟨v,h1,rfl⟩:=We hR hS (hv x (by simp)) h;exact⟨v,by simp[execOp,h1],.val⟩
 case makeInterface t x=>
  split at h
  ·cases h
  ·cases h
  ·rename_i d hu hd;cases h;refine⟨_,?_,.Kp (hv x (by simp))⟩;simp only[execOp,Instr.makeInterface,Sem.run_bind,run_underlying hd,Result.andThen_ok];cases d <;> first |rfl |exact absurd hd (hu _)
 case makeFunc fn a b=>
  subst h;have h1:=Nh (P:=P) (C:=C) (f:=f) (g:=g) (xs:=a) (fun x hx=>hv x (by simp[hx]));have h2:=Nh (P:=P) (C:=C) (f:=f) (g:=g) (xs:=b) (fun x hx=>hv x (by simp[hx]));exact⟨_,by simp[execOp,Instr.makeFunc],.fn h1.1 h2.1 h1.2 h2.2⟩
 case slice t x lo hi mx=>
  have bd:∀(o:Option Operand),(∀ y∈o,RV P C (f y) (g y))->∀ r,Ft (o.map f)=some r->Bd (o.map g) r:=fun o ho r hr=>
   V7 (P:=P) (C:=C) hr (by cases o <;> rfl) (fun p v g1 g2=>by cases o with |none=>cases g1 |some y=>cases g1;cases g2;exact ho y rfl)
  have bl:=bd lo (fun y hy=>hv y (by cases hy;simp));have bh:=bd hi (fun y hy=>hv y (by cases hy;simp));have bm:=bd mx (fun y hy=>hv y (by cases hy;simp));split at h
  ·rename_i n e hu;obtain⟨v,h1,h2⟩:=Yz hu (hv x (by simp)) bl bh bm h;exact⟨v,by simp[execOp,h1],h2⟩
  ·rename_i hna;obtain⟨v,h1,h2⟩:=Uy hS (hv x (by simp)) bl bh bm h;refine⟨v,?_,h2⟩;have hu:∃ d,P.underlying t=some d:=by
    cases hd:P.underlying t with
    |some d=>exact⟨d,rfl⟩
    |none=>simp[Io,hd]at h
   obtain⟨d,hd⟩:=hu;simp only[execOp,Instr.sliceAt,Sem.run_bind,run_underlying hd,Result.andThen_ok];cases d <;> first |exact absurd hd (hna _ _) |simp[h1]
 case fieldAddr t x i=>
  obtain⟨v,h1,h2⟩:=On hS (hv x (by simp)) h;exact⟨v,by simp[execOp,h1],h2⟩
 case field t x i=>
  obtain⟨v,h1,h2⟩:=Uu (hv x (by simp)) h;exact⟨v,by simp[execOp,h1],h2⟩
 case indexAddr t x ix=>
  obtain⟨v,h1,h2⟩:=Oo hS (hv x (by simp)) (hv ix (by simp)) h;exact⟨v,by simp[execOp,h1],h2⟩
 case index t x ix=>
  obtain⟨v,h1,h2⟩:=Uv (hv x (by simp)) (hv ix (by simp)) h;exact⟨v,by simp[execOp,h1],h2⟩
 case extract t i=>
  obtain⟨v,h1,h2⟩:=QZ (hv t (by simp)) h;exact⟨v,by simp[execOp,h1],h2⟩
 case call c=>
  obtain⟨callee,args,argTypes⟩:=c;simp only[az]at h;simp only[Call.operands]at hv;split at h
  ·rename_i gg;split at h
   ·rename_i k hk;have hF:=hv gg (by simp);rw[hk]at hF;generalize hG:g gg=G at hF;cases hF with
    | @fn _ _ _ F K h1 h2 h3 h4=>
    obtain rfl:F = #[]:=by apply Array.eq_empty_of_size_eq_zero;simpa using h1
    obtain rfl:K = #[]:=by apply Array.eq_empty_of_size_eq_zero;simpa using h2
    have hcs:Cs P C (args.toList.map f) (args.map g):=by
     refine⟨by simp,fun j c v g1 g2=>?_⟩;simp only[An,Af]at g1;simp only[B6,Af]at g2;obtain⟨a,ha,rfl⟩:=g1;obtain⟨b,hb,rfl⟩:=g2;have:a=b:=Ah ((by simpa using ha:args[j]? = some a).symm.trans hb);subst this;exact hv _ (by simp;exact .inr (Array.mem_of_getElem? hb))
    have key:∃ v,(∀ w,(callFunc k (args.map g)).run P w=.ok (.value v) w)/\RV P C p v:=by
     split at h
     ·rename_i q hq;cases h;exact Uz hcs hq
     ·obtain⟨v,q1,rfl⟩:=Tg hcs h;exact⟨v,q1,.val⟩
    obtain⟨v,q1,q2⟩:=key;refine⟨v,?_,q2⟩;simp only[execOp,resolve,Deferred.ofValue,hG,Sem.run_bind,Sem.run_pure,Result.andThen_ok,invoke,Array.empty_append,Array.append_empty,q1]
   ·cases h
  ·split at h
   ·rename_i _ x T hx hT;have hargs:args = #[x]:=by apply BD;simpa using hx
    subst hargs;obtain⟨v,h1,h2⟩:=Yv (hv x (by simp)) h argTypes hT type;exact⟨v,by simp[execOp,resolve,invoke,builtin,h1],h2⟩
   ·cases h
  ·split at h
   ·rename_i _ x xs hx;have hargs:args=(x::xs).toArray:=by apply BD;simpa using hx
    subst hargs;obtain⟨Z,h1,h2⟩:=KN (Xs:=xs.map g) V9 (hv x (by simp)) (by simp) (fun j p v g1 g2=>by
     simp only[An,Af]at g1 g2;obtain⟨a,ha,rfl⟩:=g1;obtain⟨b,hb,rfl⟩:=g2;have:a=b:=Ah (ha.symm.trans hb);subst this;exact hv _ (by simp;exact .inr (Ag ha))) h
    exact⟨Z,by simp[execOp,resolve,invoke,builtin,Builtin.min_,h1],h2⟩
   ·cases h
  ·split at h
   ·rename_i _ x xs hx;have hargs:args=(x::xs).toArray:=by apply BD;simpa using hx
    subst hargs;obtain⟨Z,h1,h2⟩:=KN (Xs:=xs.map g) Wa (hv x (by simp)) (by simp) (fun j p v g1 g2=>by
     simp only[An,Af]at g1 g2;obtain⟨a,ha,rfl⟩:=g1;obtain⟨b,hb,rfl⟩:=g2;have:a=b:=Ah (ha.symm.trans hb);subst this;exact hv _ (by simp;exact .inr (Ag ha))) h
    exact⟨Z,by simp[execOp,resolve,invoke,builtin,Builtin.max_,h1],h2⟩
   ·cases h
  ·split at h
   ·rename_i _ x hx;have hargs:args = #[x]:=by apply BD;simpa using hx
    subst hargs;obtain⟨v,h1,h2⟩:=cY hS (hv x (by simp)) h argTypes type;exact⟨v,by simp[execOp,resolve,invoke,builtin,h1],h2⟩
   ·cases h
  ·cases h
end
def chunk(ag:Bool)(s:Nat)(out:List PV):Nat->List PV
 |0=>[]
 |n+1=>(if ag then .agg (out.take s) else out.headD .any)::chunk ag s (out.drop s) n
theorem TD{ag:Bool}{s:Nat}(hs:ag=true\/s=1):∀{n:Nat} {out:List PV} (_:out.length=n*s) (_:ag=false->∀ p∈out,p.isAgg=false) {k:Nat} {e:PV},(chunk ag s out n)[k]? = some e ->
  e.cells.length=s/\∀(j:Nat) p,e.cells[j]? = some p->j<s/\out[k*s+j]? = some p
 |0,_,_,_,k,e,h=>by simp[chunk]at h
 |n+1,out,hl,ho,0,e,h=>by
  simp only[chunk,AZ,A5]at h;subst h;rw[Bb,BQ]at hl;cases ag with
  |true=>
   simp only[BV,PV.cells];refine⟨by simp;omega,fun j p hj=>?_⟩;rw[Au]at hj;split at hj
   ·rename_i hj';exact⟨hj',by simpa using hj⟩
   ·cases hj
  |false=>
   have hs1:s=1:=by simpa using hs
   subst hs1;obtain⟨x,rest,rfl⟩:∃ x rest,out=x::rest:=by
    cases out with
    |nil=>simp at hl
    |cons x rest=>exact⟨x,rest,rfl⟩
   have hx:=ho rfl x (by simp);have hc:x.cells=[x]:=by
    unfold PV.cells;split
    ·simp[PV.isAgg]at hx
    ·simp[PV.isAgg]at hx
    ·rfl
   simp only[A4,Cd,List.headD_cons,hc];refine⟨rfl,fun j p hj=>?_⟩
   match j with
   |0=>simp at hj;subst hj;simp
   |j+1=>simp at hj
 |n+1,out,hl,ho,k+1,e,h=>by
  rw[Bb,BQ]at hl;simp only[chunk,BO]at h;obtain⟨h1,h2⟩:=TD hs (n:=n) (out:=out.drop s) (by simp;omega) (fun ha p hp=>ho ha p (BP hp)) h;refine⟨h1,fun j p hj=>?_⟩;obtain⟨g1,g2⟩:=h2 j p hj;refine⟨g1,?_⟩;rw[A8]at g2;rw[<- g2];congr 1
  rw[Bb,BQ];omega
theorem HR(ag:Bool)(s:Nat):∀(n:Nat) (out:List PV),(chunk ag s out n).length=n
 |0,_=>rfl
 |n+1,out=>by simp[chunk,HR ag s n]
def tY(k:Kind)(p:PV):PV:=
 match k with
 |.sl t=>(match p with |.val (.slice none 0 0)=>.C9 true t [] |p=>p)
 |_=>p
def KO:List Kind->List PV->List PV
 |k::ks,p::ps=>tY k p::KO ks ps
 |_,ps=>ps
def cZ(P:Program)(t:TypeId):PV->PV
 |.agg cs=>.agg (KO (kinds P t) cs)
 |p=>p
theorem l8{k:Kind}{p:PV}{V:Value}(h:RV P C p V):RV P C (tY k p) V:=by
 unfold tY;split
 ·split
  ·cases h;exact .C9 0 0 (fun _ _=>undef) (Al _) (fun _=>rfl) (fun h=>by simp at h) (fun x e j p h1 _=>by simp at h1) (fun x e j p h1 _=>by simp at h1) (fun e h1=>by cases h1)
  ·exact h
 ·exact h
theorem Nj:∀(ks:List Kind) (ps:List PV),(KO ks ps).length=ps.length
 | [],ps=>by simp[KO]
 |_::_,[]=>by simp[KO]
 |k::ks,p::ps=>by simp[KO,Nj ks ps]
theorem TE:∀{ks:List Kind} {ps:List PV} {j:Nat} {p:PV},(KO ks ps)[j]? = some p->∃ p0,ps[j]? = some p0/\∀(P:Program) (C:Ctx) V,RV P C p0 V->RV P C p V
 | [],ps,j,p,h=>⟨p,by simpa [KO] using h,fun _ _ _ h=>h⟩
 |_::_,[],j,p,h=>by simp[KO]at h
 |k::ks,q::ps,0,p,h=>by
  simp only[KO,AZ,A5]at h;subst h;exact⟨q,rfl,fun _ _ _ h=>l8 h⟩
 |k::ks,q::ps,j+1,p,h=>by
  simp only[KO,BO]at h;obtain⟨p0,h1,h2⟩:=TE h;exact⟨p0,by simpa using h1,h2⟩
theorem Wf(P:Program)(t:TypeId)(e:PV):(cZ P t e).cells.length=e.cells.length:=by
 unfold cZ;split
 ·simp[PV.cells,Nj]
 ·rfl
theorem fx{t:TypeId}{e:PV}{j:Nat}{p:PV}(h:(cZ P t e).cells[j]? = some p):∃ p0,e.cells[j]? = some p0/\∀(P:Program) (C:Ctx) V,RV P C p0 V->RV P C p V:=by
 unfold cZ at h;split at h
 ·exact TE (by simpa [PV.cells] using h)
 ·exact⟨p,h,fun _ _ _ h=>h⟩
def DX(P:Program)(t:TypeId)(es:List PV):Row:={ es,s:=P.cellsOf t,t,bv:=es.all (wt P t) }
def IW(P:Program)(T:TypeId)(len:Nat)(parts:List (Nat×PV)):Option (TypeId×List PV):=
 match P.underlying T with
 |some (.slice e)=>
  match E8 P e with
  |some z=>
   let s:=P.cellsOf e
   if known P e&&decide (len*s<=2 ^ 24)&&z.cells.size==s&&(Dh P e||s==1)&&decide (0<s) then
    match Nf (fun i=>some (i*s,s)) ((List.range (len*s)).map fun x=>.val z.cells[x % s]!) parts with
    |some out=>if Dh P e||out.all (fun p=>!p.isAgg) then some (e,chunk (Dh P e) s out len) else none
    |none=>none
   else none
  |none=>none
 |_=>none
def UA(b:UInt8):PV:=.val (.int .u8 (b.toNat:Int))
def FA(s:ByteArray):List PV:=s.data.toList.map UA
def TF(P:Program)(e:TypeId):Bool:=(match P.underlying e with |some (.int .u8)=>true |_=>false)&&P.cellsOf e==1&&wt P e (.val (.int .u8 0))
theorem KP{e:TypeId}(h:TF P e=true):P.underlying e=some (.int .u8)/\P.cellsOf e=1/\wt P e (.val (.int .u8 0))=true:=by
 unfold TF at h;simp only[Aa,Ay]at h;refine⟨?_,h.1.2,h.2⟩;have h1:=h.1.1;split at h1
 ·assumption
 ·cases h1
theorem Wg{e:TypeId}(h:wt P e (.val (.int .u8 0))=true)(n:Int):wt P e (.val (.int .u8 n))=true:=by
 unfold wt at h ⊢
 revert h
 cases kinds P e with
 |nil=>simp[D4,PV.cells]
 |cons k ks=>cases k <;> simp[D4,PV.cells,KH]
def KB(P:Program)(H:List Row)(f:Operand->PV):Op->Option (PV×Row)
 |.convert src dst x=>
  match P.underlying src,P.underlying dst,f x with
  |some .string,some (.slice e),.val (.string s)=>if TF P e then some (.sl H.length s.size 0 s.size,{ es:=FA s,s:=P.cellsOf e,t:=e,bv:=true }) else none
  |_,_,_=>none
 |.alloc T=>
  match E8 P T with
  |some z=>if Uw (.val z)&&z.cells.size==P.cellsOf T then some (.ptr H.length 1 0 0,DX P T [.val z]) else none
  |none=>none
 |.box T x=>if Uw (f x)&&(f x).cells.length==P.cellsOf T then some (.ptr H.length 1 0 0,DX P T [f x]) else none
 |.buildSlice T len parts=>(IW P T len (parts.toList.map fun x=>(x.1,f x.2))).map fun x=>(.sl H.length len 0 len,DX P x.1 (x.2.map (cZ P x.1)))
 |.makeSlice T l c=>
  match P.underlying T,f l,f c with
  |some (.slice e),.val (.int _ n),.val (.int _ m)=>
   match E8 P e with
   |some z=>
    if Uw (.val z)&&known P e&&z.cells.size==P.cellsOf e&&decide (0<P.cellsOf e)&&decide (0<=n)&&decide (n<=m)&&decide (m<=2 ^ 40)&&decide (P.bytesOf e<=256) then
     some (.sl H.length n.toNat 0 n.toNat,DX P e (List.replicate n.toNat (.val z))) else none
   |none=>none
  |_,_,_=>none
 |_=>none
theorem Q2(hR:RH P C){i:Nat}{t:TypeId}{es:List PV}(hρ:C.ρ i=none)(hro:C.ro<=i)(hr:C.row? i=some (DX P t es)){c:Array Value}
  (hc:es.length*P.cellsOf t<=c.size) (hv:∀(k:Nat) e (j:Nat) p,es[k]? = some e->e.cells[j]? = some p->∃ v,c[k*P.cellsOf t+j]? = some v/\RV P C p v)
  (hl:∀ e,e∈es->e.cells.length=P.cellsOf t):RH P (C.bind i (.cells c t)):=by
 refine Ctx.Tw (C:=C) hR hρ hro hr rfl (c:=c) (fr:=(0,0)) (fun off _=>by simp) hc (fun k j=>c.getD (k*P.cellsOf t+j) undef) (fun k e j p h1 h2=>?_) hl (fun hb e he=>?_)
 ·obtain⟨v,g1,g2⟩:=hv k e j p h1 h2;have e2:c.getD (k*P.cellsOf t+j) undef=v:=by rw[Bk,g1];rfl
  exact⟨by rw[e2];exact g1,by rw[e2];exact g2⟩
 ·have:=Ao.1 hb e he;exact this
theorem fy{i:Nat}{t:TypeId}{e:PV}{o:Obj}(hi:i<C.H.length)(hr:C.row? i=some (DX P t [e])):
  RV P (C.bind i o) (.ptr i 1 0 0) (.pointer (some ⟨C.w.heap.size,0,none⟩)):=by
 refine .ptr ⟨_,rfl⟩ (by omega) hi (fun r hr'=>?_) fun r hr' _=>⟨C.w.heap.size,by simp[Ctx.bind],by simp⟩
 have:r=DX P t [e]:=Ah ((show C.row? i=some r from hr').symm.trans hr);subst this;simp[DX]
structure TG(P:Program)(C C':Ctx)(h:Nat)(p:PV)(v:Value):Prop where
 H:C'.H=C.H
 ext:Ext C C'
 rh:RH P C'
 rv:RV P C' p v
 ρ:∀ i,i≠h->C'.ρ i=C.ρ i
 Pd:∀ b,b<C.w.heap.size->C'.w.heap[b]? = C.w.heap[b]?
theorem Nk{i:Nat}{o:Obj}:∀ b,b<C.w.heap.size->(C.bind i o).w.heap[b]? = C.w.heap[b]?:=fun _ hb=>AY C.w _ hb
theorem Qw{i:Nat}{o:Obj}:∀ x,x≠i->(C.bind i o).ρ x=C.ρ x:=fun x hx=>by simp[Ctx.bind,hx]
theorem aA(hR:RH P C){i:Nat}{T:TypeId}{p:PV}{V:Value}(hi:i<C.H.length)(hρ:C.ρ i=none)(hro:C.ro<=i)(hr:C.row? i=some (DX P T [p]))(hv:RV P C p V)(ho:Uw p=true)
  (hl:p.cells.length=P.cellsOf T):TG P C (C.bind i (.cells V.cells T)) i (.ptr i 1 0 0) (.pointer (some ⟨C.w.heap.size,0,none⟩)):=by
 have hcs:=hv.JR ho;refine⟨rfl,Ctx.Gz hρ hro _,Q2 hR hρ hro hr (by simp[hcs.1,hl]) (fun k e j q h1 h2=>?_) (fun e he=>by simp at he;subst he;exact hl),fy hi hr,Qw,Nk⟩
 match k with
 |0=>
  simp at h1;subst h1;have hlt:j<V.cells.size:=by rw[hcs.1];exact(Ad.1 h2).1
  have g:V.cells[j]? = some V.cells[j]:=AD hlt;exact⟨V.cells[j],by simp[g],hcs.2 j q _ h2 g⟩
 |k+1=>simp at h1
theorem Nl{place:Nat->Option (Nat×Nat)}:∀{parts:List (Nat×PV)} {cells out:List PV},Nf place cells parts=some out->out.length=cells.length
 | [],cells,out,h=>by simp only[Nf,A5]at h;subst h;rfl
 |(i,p)::parts,cells,out,h=>by
  simp only[Nf]at h;split at h
  ·cases h
  ·split at h
   ·rename_i hc;simp only[Aa,Ay,Ab]at hc;rw[Nl h];simp only[Ap,Az,B7,hc.1.2];omega
   ·cases h
def Ctx.dr(C:Ctx):Ctx:={ C with w:=C.w.drew }
theorem FW(C:Ctx):Ext C C.dr:=
 ⟨rfl,rfl,rfl,Al _,fun _ _ _=>rfl,fun _ c _ fr h=>⟨c,fr,h,rfl⟩,Al _,fun _ r' _ h=>⟨r',h,rfl,rfl,Al _,fun _=>⟨rfl,fun _ h=>h⟩⟩,fun _ h=>.inl h,fun _ h=>.inl h,rfl,rfl,fun _ _=>⟨rfl,rfl⟩,fun _ r info h1 h2 h3=>⟨⟨r,info.st,h1,h2,h3⟩,fun _ h=>h⟩,fun _ rec h=>⟨rec,h⟩⟩
theorem Mk(h:RH P C):RH P C.dr:=
 ⟨h.inj,h.Ly,fun i b r h1 h2=>(h.GP i b r h1 h2).mono (FW C) rfl,h.ro,h.IU,h.Kq,fun i b r info h1 h2 h3 h4=>(h.Ii i b r info h1 h2 h3 h4).mono (FW C) rfl,h.LQ.mono (FW C)⟩
theorem da(hR:RH P C){i:Nat}{e:TypeId}(he:TF P e=true)(s:ByteArray)(cap:Nat)(hcap:s.size<=cap)(hi:i<C.H.length)(hρ:C.ρ i=none)(hro:C.ro<=i)(hr:C.row? i=some { es:=FA s,s:=P.cellsOf e,t:=e,bv:=true }):
  TG P C (C.dr.bind i (.cells (bytesRow s cap) e ((bytesRow s cap).size,(bytesRow s cap).size+1))) i (.sl i s.size 0 s.size) (.slice (some ⟨C.w.heap.size,0,none⟩) s.size cap):=by
 obtain⟨h1,h2,h3⟩:=KP he;have hss:s.size=s.data.size:=rfl;have hlen:(FA s).length=s.size:=by simp only[FA,AP,CH];exact hss.symm
 have hsz:(bytesRow s cap).size=cap:=by simp only[bytesRow,Array.size_append,Array.size_map,Array.size_replicate];omega
 refine⟨rfl,(FW C).trans (Ctx.Gz (C:=C.dr) hρ hro _),?_,?_,Qw (C:=C.dr),Nk (C:=C.dr)⟩
 ·refine Ctx.Tw (C:=C.dr) (r:={ es:=FA s,s:=P.cellsOf e,t:=e,bv:=true }) (Mk hR) hρ hro hr rfl (fr:=((bytesRow s cap).size,(bytesRow s cap).size+1)) (fun off ho=>by simp;omega) ?_ (fun k _=>.int .u8 ((s.data.toList.getD k 0).toNat:Int)) (fun k p j q g1 g2=>?_) (fun p hp=>?_) (fun _ p hp=>?_)
  ·show(FA s).length*P.cellsOf e<=_
   rw[hlen,h2,hsz];omega
  ·dsimp only at g1 ⊢;unfold FA at g1;rw[An]at g1;obtain⟨b,hb,rfl⟩:=Af.1 g1;have hk:k<s.data.toList.length:=(Ad.1 hb).1;have hj:j=0/\q=UA b:=by
    unfold UA PV.cells at g2
    match j with
    |0=>exact⟨rfl,(Ah g2).symm⟩
    |j+1=>simp at g2
   obtain⟨rfl,rfl⟩:=hj;have hgd:s.data.toList.getD k 0=b:=by rw[Av,hb];rfl
   rw[hgd,h2,CR,BA];refine⟨?_,.val⟩;unfold bytesRow;rw[Array.getElem?_append_left (by simpa using hk),B6,<- AL,hb];rfl
  ·dsimp only at hp ⊢;unfold FA at hp;obtain⟨b,_,rfl⟩:=AX.1 hp;rw[h2];rfl
  ·dsimp only at hp ⊢;unfold FA at hp;obtain⟨b,_,rfl⟩:=AX.1 hp;exact Wg h3 _
 ·refine .sl ⟨_,_,rfl⟩ hi (fun r hr'=>?_) fun r hr' _=>?_
  ·have:r={ es:=FA s,s:=P.cellsOf e,t:=e,bv:=true }:=Ah ((show C.row? _=some r from hr').symm.trans hr);subst this;dsimp only;omega
  ·have:r={ es:=FA s,s:=P.cellsOf e,t:=e,bv:=true }:=Ah ((show C.row? _=some r from hr').symm.trans hr);subst this;refine⟨by omega,_,_,rfl,hcap,?_⟩;unfold E4;rw[Aq (by simp)];refine⟨C.w.heap.size,by simp[Ctx.bind,Ctx.dr],by simp,bytesRow s cap,e,_,heap_alloc_new C.w.drew _,?_,by dsimp only;omega⟩;dsimp only;rw[h2,hsz];omega
theorem Pe{i0:Nat}{f:Operand->PV}{g:Operand->Value}{o:Oper}{T:TypeId}{len:Nat}{parts:Array (Nat×Operand)}{e:TypeId}{es:List PV}(ho:o.op=.buildSlice T len parts)(hR:RH P C)(hi:i0<C.H.length)(hρ:C.ρ i0=none)(hro:C.ro<=i0)
  (F:PV->PV) (hF1:∀ x,(F x).cells.length=x.cells.length) (hF2:∀ x (j:Nat) p,(F x).cells[j]? = some p->∃ p0,x.cells[j]? = some p0/\∀(P:Program) (C:Ctx) V,RV P C p0 V->RV P C p V)
  (hr:C.row? i0=some (DX P e (es.map F))) (hv:∀ x∈(Op.buildSlice T len parts).operands,RV P C (f x) (g x)) (h:IW P T len (parts.toList.map fun x=>(x.1,f x.2))=some (e,es)):
  ∃ v C',(execOp g o).run P C.w=.ok (.value v) C'.w/\TG P C C' i0 (.sl i0 len 0 len) v:=by
 obtain⟨dst,op,type,pos,after,guard⟩:=o;simp only at ho;subst ho;simp only[Op.operands]at hv
 ·unfold IW at h;split at h
  ·rename_i e' hu;split at h
   ·rename_i z hz;simp only at h;split at h
    ·rename_i hc;simp only[Aa,Ay,Ab,A2]at hc;obtain⟨⟨⟨⟨hk,hle⟩,hzs⟩,hag⟩,hs0⟩:=hc;split at h
     ·rename_i out hf;split at h
      ·rename_i hoa;simp only[A2]at hoa;cases h;have h0:Cs P C ((List.range (len*P.cellsOf e)).map fun x=>PV.val z.cells[x % P.cellsOf e]!) ((Array.range (len*P.cellsOf e)).map (z.cells[· % P.cellsOf e]!)):=by
        refine⟨by simp,fun j c v h1 h2=>?_⟩;simp only[An,Af]at h1;obtain⟨x,hx,rfl⟩:=h1;simp only[B6,Af]at h2;obtain⟨y,hy,rfl⟩:=h2;have:x=y:=by
         have h3:(Array.range (len*P.cellsOf e))[j]? = (List.range (len*P.cellsOf e))[j]?:=by
          rw[<- AL,CP]
         rw[h3]at hy;exact Ah (hx.symm.trans hy)
        subst this;exact .val
       obtain⟨a',g1,g2⟩:=KM (vs:=parts.toList.map fun x=>(x.1,g x.2)) hf h0 (by simp) (fun j q v g1 g2=>by
        simp only[An,Af]at g1 g2;obtain⟨x,hx,rfl⟩:=g1;obtain⟨y,hy,rfl⟩:=g2;have:x=y:=Ah (hx.symm.trans hy);subst this;exact⟨rfl,hv _ (by simp only[List.mem_toArray,AX];exact⟨x,Ag hx,rfl⟩)⟩)
       have hol:out.length=len*P.cellsOf e:=by
        have:=Nl hf;simpa using this
       have hget:=fun(k:Nat) (e1:PV) (h1:(chunk (Dh P e) (P.cellsOf e) out len)[k]? = some e1)=>
        TD (ag:=Dh P e) (s:=P.cellsOf e) (by rcases hag with h |h;exact .inl h;exact .inr h) hol (fun ha p hp=>by
         rcases hoa with h |h
         ·rw[ha]at h;cases h
         ·have:=Ao.1 h p hp;simpa using this) h1
       have hex:=Ctx.Gz (C:=C) hρ hro (.cells a' e);have hN:TG P C (C.bind i0 (.cells a' e)) i0 (.sl i0 len 0 len) (.slice (some ⟨C.w.heap.size,0,none⟩) len len):=by
        refine⟨rfl,hex,Q2 hR hρ hro hr (by rw[AP,HR,g2.1,hol];exact Al _) (fun k e1 j p h1 h2=>?_) (fun e1 he=>?_),?_,Qw,Nk⟩
        ·rw[An,Af]at h1;obtain⟨e0,h1,rfl⟩:=h1;obtain⟨p0,h2,hp0⟩:=hF2 _ _ _ h2;obtain⟨_,q2⟩:=hget k e0 h1;obtain⟨q3,q4⟩:=q2 j p0 h2;have hlt:k*P.cellsOf e+j<a'.size:=by rw[g2.1];exact(Ad.1 q4).1
         have g:a'[k*P.cellsOf e+j]? = some (a'[k*P.cellsOf e+j]):=AD hlt;exact⟨_,g,hp0 _ _ _ (g2.2 _ p0 _ q4 g)⟩
        ·rw[AX]at he;obtain⟨e0,he,rfl⟩:=he;obtain⟨k,hk1⟩:=Bh he;rw[hF1];exact(hget k e0 hk1).1
        ·refine .sl ⟨_,_,rfl⟩ hi (fun r hr'=>?_) fun r hr' _=>?_
         ·have:r=DX P e ((chunk (Dh P e) (P.cellsOf e) out len).map F):=Ah ((show C.row? _=some r from hr').symm.trans hr);subst this;simp[DX,HR]
         ·have:r=DX P e ((chunk (Dh P e) (P.cellsOf e) out len).map F):=Ah ((show C.row? _=some r from hr').symm.trans hr);subst this;refine⟨by omega,_,_,rfl,Al _,?_⟩;unfold E4;rw[Aq (by simp[DX])];refine⟨C.w.heap.size,by simp[Ctx.bind],by simp,a',e,(0,0),heap_alloc_new C.w _,?_,by simp[DX,HR]⟩;simp only[DX,AM,g2.1,hol];exact Al _
       refine⟨_,_,?_,hN⟩;have ez:(parts.map fun(i,x)=>(i,g x))=(parts.toList.map fun x=>(x.1,g x.2)).toArray:=by apply BD;simp
       simp only[execOp,Instr.buildSlice,Sem.run_bind,run_underlying hu,Result.andThen_ok,run_sizeOf C.w hk,ez];rw[Aq (by omega)];by_cases hl0:len*P.cellsOf e=0
       ·have g1':Instr.fill (fun i=>some (i*P.cellsOf e,P.cellsOf e)) ((Array.range (len*P.cellsOf e)).map (fun x=>(#[]:Array Value)[x % (#[]:Array Value).size]!)) (parts.toList.map fun x=>(x.1,g x.2))=some a':=by
         rw[<- g1,hl0,show Array.range 0 = #[] from rfl,Array.map_empty,Array.map_empty]
        rw[Ak hl0];simp only[Sem.run_bind,Sem.run_pure,Result.andThen_ok];rw[g1'];simp only[newRow,Sem.run_bind,run_newObj,Result.andThen_ok,Sem.run_pure];rfl
       ·rw[Aq hl0];simp only[Sem.run_bind,Fx hz,Sem.run_pure,Result.andThen_ok,hzs];rw[g1];simp only[newRow,Sem.run_bind,run_newObj,Result.andThen_ok,Sem.run_pure];rfl
      ·cases h
     ·cases h
    ·cases h
   ·cases h
  ·cases h
theorem Ip{H:List Row}{f:Operand->PV}{g:Operand->Value}{o:Oper}{p:PV}{r:Row}(hR:RH P C)(hi:H.length<C.H.length)(hρ:C.ρ H.length=none)(hro:C.ro<=H.length)
  (hr:C.row? H.length=some r) (hv:∀ x∈o.op.operands,RV P C (f x) (g x)) (h:KB P H f o.op=some (p,r)):
  ∃ v C',(execOp g o).run P C.w=.ok (.value v) C'.w/\TG P C C' H.length p v:=by
 obtain⟨dst,op,type,pos,after,guard⟩:=o;simp only at h hv;cases op <;> simp only[KB,reduceCtorEq]at h <;> simp only[Op.operands]at hv
 case convert src dst x=>
  split at h
  ·rename_i e s hs hd hx;split at h
   ·rename_i he;cases h;have hv':=hv x (by simp);rw[hx]at hv';generalize hG:g x=G at hv';cases hv';have hb:=KP he;have hcap:s.size<=grownCap C.w s.size 0 e:=grownCap_ge C.w s.size 0 e;refine⟨_,_,?_,da hR he s (grownCap C.w s.size 0 e) hcap hi hρ hro hr⟩;simp only[execOp,Sem.run_bind,hG];rw[run_bytes_of_string C.w src dst e s hs hd hb.1];rfl
   ·cases h
  ·cases h
 case alloc T=>
  split at h
  ·rename_i z hz;split at h
   ·rename_i hc;simp only[Aa,Ay]at hc;obtain⟨ho,hc⟩:=hc;cases h
    ·have hb:=aA hR hi hρ hro hr (V:=z) .val ho (by
      have:=(RV.JR (P:=P) (C:=C) (V:=z) .val ho).1;omega)
     refine⟨_,_,?_,hb⟩;simp only[execOp,Instr.alloc,Sem.run_bind,Fx hz,Result.andThen_ok];rfl
   ·cases h
  ·cases h
 case box T x=>
  split at h
  ·rename_i hc;simp only[Aa,Ay]at hc;cases h;refine⟨_,_,?_,aA hR hi hρ hro hr (hv x (by simp)) hc.1 hc.2⟩;simp only[execOp,Instr.box,Sem.run_bind];rfl
  ·cases h
 case buildSlice T len parts=>
  simp only[Af]at h;obtain⟨⟨e,es⟩,h,heq⟩:=h;cases heq;exact Pe rfl hR hi hρ hro (cZ P e) (fun x=>Wf P e x) (fun x j p hp=>fx hp) hr hv h
 case makeSlice T l c=>
  split at h
  ·rename_i e k1 n k2 m hu h1 h2;split at h
   ·rename_i z hz;split at h
    ·rename_i hc;simp only[Aa,Ay,Ab]at hc;obtain⟨⟨⟨⟨⟨⟨⟨hc0,hk⟩,hzs⟩,hs0⟩,hn0⟩,hnm⟩,hm⟩,hb⟩:=hc;cases h;have hl:=hv l (by simp);have hcc:=hv c (by simp);rw[h1]at hl;rw[h2]at hcc;generalize hL:g l=L at hl;generalize hC:g c=K at hcc;cases hl;cases hcc;have wn:IntKind.i64.wrap n=n:=by simp[IntKind.wrap,IntKind.bits,IntKind.signed];omega
     have wm:IntKind.i64.wrap m=m:=by simp[IntKind.wrap,IntKind.bits,IntKind.signed];omega
     obtain⟨i,d,hinfo,hd,hsz⟩:=F1 hk;have hby:P.bytesOf e=i.bytes:=by simp[Program.bytesOf,hinfo]
     have hcells:((Array.range (m.toNat*P.cellsOf e)).map (z.cells[· % z.cells.size]!)).size=m.toNat*P.cellsOf e:=by simp
     have hN:TG P C (C.bind H.length (.cells ((Array.range (m.toNat*P.cellsOf e)).map (z.cells[· % z.cells.size]!)) e)) H.length (.sl H.length n.toNat 0 n.toNat) (.slice (some ⟨C.w.heap.size,0,none⟩) n.toNat m.toNat):=by
      have hle:n.toNat*P.cellsOf e<=m.toNat*P.cellsOf e:=A1 _ (by omega);refine⟨rfl,Ctx.Gz hρ hro _,Q2 hR hρ hro hr (by rw[hcells,Cj];exact hle) (fun k e1 j p h1 h2=>?_) (fun e1 he=>?_),?_,Qw,Nk⟩
      ·rw[BH]at h1;split at h1
       ·rename_i hkn;cases h1;have hj:j<z.cells.size:=by
         have:=(Ad.1 h2).1;rwa [(RV.JR (P:=P) (C:=C) (V:=z) .val hc0).1.symm]at this
        have hlt:k*P.cellsOf e+j<m.toNat*P.cellsOf e:=by
         have h5:(k+1)*P.cellsOf e<=m.toNat*P.cellsOf e:=A1 _ (by omega);rw[Bb,BQ]at h5;omega
        have hz2:z.cells[j]? = some z.cells[j]:=AD hj;refine⟨z.cells[j],?_,(RV.JR (P:=P) (C:=C) (V:=z) .val hc0).2 j p _ h2 hz2⟩;rw[B6,<- AL,CP,Be hlt];simp only[AE,A5,hzs];rw[CU,Nat.mul_add_mod,Nat.mod_eq_of_lt (by omega)];simp[hj]
       ·cases h1
      ·have:=Cr he;subst this;have h6:=(RV.JR (P:=P) (C:=C) (V:=z) .val hc0).1;omega
      ·refine .sl ⟨_,_,rfl⟩ hi (fun r hr'=>?_) fun r hr' _=>?_
       ·have:r=DX P e (List.replicate n.toNat (.val z)):=Ah ((show C.row? _=some r from hr').symm.trans hr);subst this;simp[DX]
       ·have:r=DX P e (List.replicate n.toNat (.val z)):=Ah ((show C.row? _=some r from hr').symm.trans hr);subst this;refine⟨by omega,_,_,rfl,by omega,?_⟩;unfold E4;rw[Aq (by simp[DX])];refine⟨C.w.heap.size,by simp[Ctx.bind],by simp,_,e,(0,0),heap_alloc_new C.w _,?_,by simp[DX];omega⟩;simp only[DX,AM,hcells];exact Al _
     refine⟨_,_,?_,hN⟩;have hbig:((i.bytes:Int)*m)<=256*2 ^ 40:=by
      have h7:(i.bytes:Int)<=256:=by omega
      calc (i.bytes:Int)*m<=256*m:=Int.mul_le_mul_of_nonneg_right h7 (by omega)
       _<=256*2 ^ 40:=by omega
     have hbig':((i.bytes:Int)*n)<=256*2 ^ 40:=by
      have h7:(i.bytes:Int)<=256:=by omega
      calc (i.bytes:Int)*n<=256*n:=Int.mul_le_mul_of_nonneg_right h7 (by omega)
       _<=256*2 ^ 40:=by omega
     simp only[execOp,hL,hC,Instr.makeSlice,Sem.run_bind,run_underlying hu,Result.andThen_ok,asInt,asIntOf,Sem.run_pure,wn,wm,typeInfo,run_program,hinfo];rw[Aq (by
      simp only[A2,Ab,not_or,Int.not_lt];refine⟨⟨⟨by omega,?_⟩,by omega⟩,by omega⟩;omega)]
     simp only[Sem.run_bind,run_askRoom,Result.andThen_ok,run_sizeOf C.w hk];by_cases h0:m.toNat*P.cellsOf e=0
     ·rw[Ak h0];simp only[Sem.run_pure,Result.andThen_ok,newRow,Sem.run_bind,run_newObj];have e0:((Array.range (m.toNat*P.cellsOf e)).map fun x=>(#[]:Array Value)[x % (#[]:Array Value).size]!)=((Array.range (m.toNat*P.cellsOf e)).map fun x=>z.cells[x % z.cells.size]!):=by rw[h0,show Array.range 0 = #[] from rfl,Array.map_empty,Array.map_empty]
      rw[e0];rfl
     ·rw[Aq h0];simp only[Sem.run_bind,Fx hz,Sem.run_pure,Result.andThen_ok,newRow,run_newObj];rfl
    ·cases h
   ·cases h
  ·cases h
def GB:PV->Bool
 |.val v=>v.oneCell'
 |.any=>false
 |.agg _=>false
 |.El _=>false
 |_=>true
theorem RV.Qx{p:PV}{V:Value}(h:RV P C p V)(hc:GB p=true):V.oneCell'=true:=by
 cases h with
 |any=>simp[GB]at hc
 |val=>exact hc
 |ptr hV=>obtain⟨a,rfl⟩:=hV;rfl
 |sl hV=>obtain⟨a,c,rfl⟩:=hV;rfl
 |EF=>rfl
 |C9=>rfl
 |agg=>simp[GB]at hc
 |El=>simp[GB]at hc
 |fn=>rfl
 |Kp=>rfl
 |Ih=>rfl
 |mp _ hl _=>obtain⟨_,_,_,_,_,rfl⟩:=hl;exact lR _ _
 |gv _ _ _ hV=>obtain⟨t,a,rfl⟩:=hV;rfl
 |bad hV=>obtain⟨T,b,s,n,c,v0,rfl,_⟩:=hV;rfl
 |Lx _ h=>cases h;rfl
structure yu(w w':World)(b:Nat)(c c':Array Value)(t:TypeId)(fr:Nat×Nat):Prop where
 os:w'.os=w.os
 tape:w'.tape=w.tape
 output:w'.output=w.output
 size:w'.heap.size=w.heap.size
 other:∀ x,x≠b->w'.heap[x]? = w.heap[x]?
 at_:w'.heap[b]? = some (.cells c' t fr)
 Ml:c'.size=c.size
theorem P2{w:World}{b x:Nat}{c:Array Value}{t:TypeId}{fr:Nat×Nat}(h:w.heap[b]? = some (.cells c t fr))(v:Value):
  (w.setCell ⟨b,x,none⟩ v).heap[b]? = some (.cells (c.setIfInBounds x v) t fr):=by
 simp[World.setCell,Array.getElem?_modify,h]
theorem Fk{P:Program}{b off:Nat}{t:TypeId}{fr:Nat×Nat}:∀(vs:List Value) (i:Nat) (w:World) (c:Array Value),w.heap[b]? = some (.cells c t fr) ->
  (∀ x,x<c.size->(decide (fr.1<=x)&&decide (x<fr.2))=false)->off+i+vs.length<=c.size->(∀ v∈vs,v.oneCell'=true) ->
  ∃ w' c',(storeCells ⟨b,off,none⟩ vs i).run P w=.ok () w'/\yu w w' b c c' t fr /\
   ∀ x,c'[x]? = if off+i<=x/\x<off+i+vs.length then vs[x-(off+i)]? else c[x]?
 | [],i,w,c,h,_,_,_=>⟨w,c,by simp[storeCells],⟨rfl,rfl,rfl,rfl,fun _ _=>rfl,h,rfl⟩,fun x=>by rw[Aq (by simp only[AB];omega)]⟩
 |v::vs,i,w,c,h,hf,hl,h1=>by
  simp only[As]at hl;have hc:w.cell? ⟨b,off+i,none⟩=some (c[off+i]'(by omega)):=by
   simp only[World.cell?,h];simp[show off+i<c.size by omega]
  have hfr:w.frozen? ⟨b,off+i,none⟩=false:=by
   simp only[World.frozen?,h];exact hf _ (by omega)
  obtain⟨w',c',g1,g2,g3⟩:=Fk (P:=P) (b:=b) (off:=off) vs (i+1) (w.setCell ⟨b,off+i,none⟩ v) (c.setIfInBounds (off+i) v) (P2 h v)
   (fun x hx=>hf x (by simpa using hx)) (by simp;omega) (fun v hv=>h1 v (by simp[hv]))
  refine⟨w',c',?_,?_,fun x=>?_⟩
  ·simp only[storeCells,Sem.run_bind,Fs];rw[run_store P w _ v .plain (h1 v (by simp))];simp only[hc,hfr,A4,Cd,Result.andThen_ok];exact g1
  ·refine⟨g2.os,g2.tape,g2.output,by rw[g2.size];simp,fun x hx=>?_,g2.at_,by rw[g2.Ml];simp⟩;rw[g2.other x hx];simp only[World.setCell,Ck];rw[Aq (by omega)]
  ·rw[g3 x];simp only[As];by_cases hx:off+(i+1)<=x/\x<off+(i+1)+vs.length
   ·rw[Ak hx,Ak (by omega),show x-(off+i)=x-(off+(i+1))+1 by omega,BO]
   ·rw[Aq hx];by_cases hx2:x=off+i
    ·subst hx2;rw[Ak (by omega)];simp[show off+i<c.size by omega]
    ·rw[Aq (by omega),AW,Aq (by omega)]
def Ctx.H6(C:Ctx)(i b':Nat)(r2:Row)(w':World):Ctx:={ ρ:=fun x=>if x=i then some b' else C.ρ x,H:=C.H.set i r2,w:=w',fo:=C.fo,ro:=C.ro }
theorem Ep{H:List Row}{i:Nat}{r2:Row}(hi:i<H.length)(hl:r2.live=true)(x:Nat):rowAt (H.set i r2) x=if x=i then some r2 else rowAt H x:=by
 unfold rowAt;rw[Ax];by_cases h:i=x
 ·subst h;simp[hi,hl]
 ·rw[Aq h,Aq (fun e=>h e.symm)]
theorem Nm{i b':Nat}{r r2:Row}{w':World}(hi:i<C.H.length)(hro:C.ro<=i)(hr:C.row? i=some r)(hl2:r2.live=true)(hs:r.s=r2.s)(ht:r.t=r2.t)(hlen:r.es.length<=r2.es.length)
  (hsame:r.es.length=r2.es.length->r.nl=r2.nl/\∀ b,C.ρ i=some b->b'=b)
  (hos:w'.os=C.w.os) (htp:w'.tape=C.w.tape) (hout:w'.output=C.w.output) (hsz:C.w.heap.size<=w'.heap.size)
  (hblk:∀ b,b<C.w.heap.size->¬C.own b->w'.heap[b]? = C.w.heap[b]?)
  (hshape:∀(b:Nat) c e fr,C.w.heap[b]? = some (.cells c e fr)->∃ c' fr',w'.heap[b]? = some (.cells c' e fr')/\c'.size=c.size)
  (hloop:∀(b:Nat) rec,C.w.heap[b]? = some (.loop rec)->w'.heap[b]? = some (.loop rec))
  (hfresh:C.ρ i=some b'\/C.w.heap.size<=b'):Ext C (C.H6 i b' r2 w') where
 os:=hos
 tape:=htp
 output:=hout
 size:=hsz
 block:=hblk
 shape:=hshape
 len:=by simp[Ctx.H6]
 rows x r' hx hr':=by
  have h1:rowAt (C.H.set i r2) x=some r':=hr';rw[Ep hi hl2]at h1;split at h1
  ·rename_i e;subst e;cases h1;refine⟨r,hr,hs,ht,hlen,fun he=>⟨(hsame he).1,fun b hb=>?_⟩⟩;simp only[Ctx.H6,BV];rw[(hsame he).2 b hb]
  ·rename_i e;exact⟨r',h1,rfl,rfl,Al _,fun _=>⟨rfl,fun b hb=>by simp[Ctx.H6,e,hb]⟩⟩
 fresh b hb:=by
  obtain⟨x,hx⟩:=hb;simp only[Ctx.H6]at hx;split at hx
  ·cases hx;rcases hfresh with h |h
   ·exact .inl ⟨i,h⟩
   ·exact .inr h
  ·exact .inl ⟨x,hx⟩
 D8 b hb:=by
  obtain⟨x,hxr,hx⟩:=hb;simp only[Ctx.H6]at hx hxr;split at hx
  ·cases hx;rcases hfresh with h |h
   ·exact .inl ⟨i,hro,h⟩
   ·exact .inr h
  ·exact .inl ⟨x,hxr,hx⟩
 fo:=rfl
 ro:=rfl
 low x hx:=⟨by simp only[Ctx.H6];rw[Ax,Aq (by omega)],by simp only[Ctx.H6];rw[Aq (by omega)]⟩
 lp x r' info h1 h2 h3:=by
  have hxi:x≠i:=fun e=>by
   subst e;have:C.row? x=none:=by unfold Ctx.row? rowAt;rw[h1];simp[h3]
   rw[this]at hr;cases hr
  exact⟨⟨r',info.st,by simp only[Ctx.H6];rw[Ax,Aq (fun e=>hxi e.symm)];exact h1,h2,h3⟩,fun b hb=>by simp[Ctx.H6,hxi,hb]⟩
 loop b rec h:=⟨rec,hloop b rec h⟩
theorem Q3{i b':Nat}{r2:Row}{w':World}(hR:RH P C)(hx:Ext C (C.H6 i b' r2 w'))(hi:i<C.H.length)(hl2:r2.live=true)
  (hoth:∀ b,b<C.w.heap.size->C.ρ i≠some b->w'.heap[b]? = C.w.heap[b]?) (hfresh:C.ρ i=some b'\/C.w.heap.size<=b') (hB:RB P (C.H6 i b' r2 w') b' r2):RH P (C.H6 i b' r2 w'):=by
 refine⟨fun x y b h1 h2=>?_,fun x b h1=>?_,fun x b r' h1 h2=>?_,by simpa [Ctx.H6] using hR.ro,fun x b h1=>?_,fun b hb=>AA (hR.Kq b hb) hx.size,fun x b r' info h1 h2 h3 h4=>?_,hR.LQ.mono hx⟩
 ·simp only[Ctx.H6]at h1 h2;split at h1 <;> split at h2
  ·omega
  ·rename_i e1 e2;cases h1;rcases hfresh with h |h
   ·rw[<- e1]at h;exact hR.inj _ _ _ h h2
   ·have:=hR.lt h2;omega
  ·rename_i e1 e2;cases h2;rcases hfresh with h |h
   ·rw[<- e2]at h;exact hR.inj _ _ _ h1 h
   ·have:=hR.lt h1;omega
  ·exact hR.inj _ _ _ h1 h2
 ·simp only[Ctx.H6]at h1;have hrow:(C.H6 i b' r2 w').row? x=if x=i then some r2 else C.row? x:=Ep hi hl2 x
  rw[hrow];split at h1
  ·rename_i e;rw[Ak e];exact .inl ⟨_,rfl⟩
  ·rename_i e;rw[Aq e];refine(hR.Ly x b h1).imp id ?_
   rintro⟨r,info,g1,g2,g3⟩
   exact⟨r,info,by simp only[Ctx.H6];rw[Ax,Aq (fun h=>e h.symm)];exact g1,g2,g3⟩
 ·have hrow:(C.H6 i b' r2 w').row? x=if x=i then some r2 else C.row? x:=Ep hi hl2 x
  rw[hrow]at h2;simp only[Ctx.H6]at h1;split at h1
  ·rename_i e;rw[Ak e]at h2;cases h1;cases h2;exact hB
  ·rename_i e;rw[Aq e]at h2;have hb:=hR.GP x b r' h1 h2;refine hb.mono hx (hoth b hb.lt fun h=>e (hR.inj _ _ _ h1 h))
 ·simp only[Ctx.H6]at h1 ⊢;split at h1
  ·cases h1;rcases hfresh with h |h
   ·exact hR.IU _ _ h
   ·exact fun hf=>by have:=hR.Kq _ hf;omega
  ·exact hR.IU x b h1
 ·have hxi:x≠i:=fun e=>by
   subst e;simp only[Ctx.H6]at h2;rw[Ax,Ak rfl,Ak hi]at h2;cases h2;rw[hl2]at h4;cases h4
  simp only[Ctx.H6]at h1 h2;rw[Aq hxi]at h1;rw[Ax,Aq (fun e=>hxi e.symm)]at h2;have hb:=hR.Ii x b r' info h1 h2 h3 h4;exact hb.mono hx (hoth b hb.lt fun h=>hxi (hR.inj _ _ _ h1 h))
def Jj(P:Program)(r:Row)(k:Nat):List PV:=(List.range r.s).map fun x=>pick P r.t r.bv (r.es.getD k .any) x
def KQ(P:Program)(r:Row)(k j:Nat)(cs:List PV):List PV:=
 if j=0/\cs.length=r.s then cs else (Jj P r k).take j++cs++(Jj P r k).drop (j+cs.length)
def Nn(P:Program)(t:TypeId)(cells:List PV):PV:=if Dh P t then .agg cells else cells.headD .any
def setCells(P:Program)(r:Row)(k j:Nat)(cs:List PV):Option Row:=
 if !r.fz&&(Dh P r.t||(r.s==1 && !(Nn P r.t (KQ P r k j cs)).isAgg)) then
  some { r with es:=r.es.set k (Nn P r.t (KQ P r k j cs)),bv:=r.bv&&wt P r.t (Nn P r.t (KQ P r k j cs)) } else none
def HA(P:Program)(ro:Nat)(H:List Row)(T:TypeId)(a x:PV):Option (List Row):=
 match a with
 |.ptr i n k j=>
  match rowAt H i with
  |some r=>
   if decide (ro<=i)&&Uw x&&x.cells.all GB&&r.es.length==n&&x.cells.length==P.cellsOf T&&known P T&&decide (j+x.cells.length<=r.s) then
    match setCells P r k j x.cells with
    |some r2=>some (H.set i r2)
    |none=>none
   else none
  |none=>none
 |_=>none
structure I7(P:Program)(C C':Ctx)(H':List Row):Prop where
 H:C'.H=H'
 ext:Ext C C'
 rh:RH P C'
theorem JU{T:TypeId}{a x:PV}{A X:Value}{H':List Row}(hR:RH P C)(ha:RV P C a A)(hx:RV P C x X)(h:HA P C.ro C.H T a x=some H'):
  ∃ C',(Instr.storeAt T A X).run P C.w=.ok () C'.w/\I7 P C C' H'/\∀ x,C'.ρ x=C.ρ x:=by
 unfold HA at h;split at h
 ·rename_i i n k j;split at h
  ·rename_i r hr;split at h
   ·rename_i hc;simp only[Aa,Ay,Ab]at hc;obtain⟨⟨⟨⟨⟨⟨hro,ho⟩,hall⟩,hn⟩,hl⟩,hk⟩,hj⟩:=hc;split at h
    ·rename_i r2 hr2;cases h;cases ha with
     |ptr hV hkn hi hle hh=>
      obtain⟨b,hb,rfl⟩:=hh r hr hn;have hB:=hR.GP i b r hb hr;obtain⟨c,fr,cv,m1,m2,m3,m4⟩:=hB.mem;have hcs:=hx.JR ho;have hke:k<r.es.length:=by omega
      have hbound:k*r.s+r.s<=c.size:=by
       have h5:(k+1)*r.s<=r.es.length*r.s:=A1 _ hke;rw[Bb,BQ]at h5;omega
      have hone:∀ v∈X.cells.toList,v.oneCell'=true:=fun v hv=>by
       obtain⟨y,hy⟩:=Bh hv;have hylt:y<X.cells.size:=by simpa using (Ad.1 hy).1
       have hp:x.cells[y]? = some (x.cells[y]'(by rw[<- hcs.1];exact hylt)):=Ae _;have:=hcs.2 y _ v hp (by rw[<- AL];exact hy);exact this.Qx (Ao.1 hall _ (Ag hp))
      obtain⟨w',c',g1,g2,g3⟩:=Fk (P:=P) (b:=b) (off:=k*r.s+j) X.cells.toList 0 C.w c m1 (m2 (by
        unfold setCells at hr2;split at hr2
        ·rename_i hag;rw[Aa,Am]at hag;exact hag.1
        ·cases hr2)) (by simp[hcs.1];omega) hone
      have hXl:X.cells.toList.length=x.cells.length:=by simpa using hcs.1
      unfold setCells at hr2;split at hr2
      ·rename_i hag0;have hag:=(Aa _ _▸hag0).2;cases hr2;have hel:(r.es.getD k .any).cells.length=r.s:=hB.len _ (Ag (getD_some hke));have hol:(Jj P r k).length=r.s:=by simp[Jj]
       generalize hcells:KQ P r k j x.cells=cells' at *;unfold KQ at hcells;have hcl:cells'.length=r.s:=by
        rw[<- hcells];split
        ·omega
        ·simp only[Ap,Az,B7,hol];omega
       have hcg:∀ y,cells'[y]? = if j<=y/\y<j+x.cells.length then x.cells[y-j]? else (Jj P r k)[y]?:=by
        intro y;rw[<- hcells];split
        ·rename_i hh2;obtain⟨rfl,hh2⟩:=hh2;by_cases hy:y<x.cells.length
         ·rw[Ak (by omega)];simp
         ·rw[Aq (by omega),AG (by omega),AG (by omega)]
        ·simp only[AO,Ap,Az,Au,A8,hol];by_cases h1:y<j
         ·rw[Ak (show y<min j r.s+x.cells.length by omega),Ak (show y<min j r.s by omega),Ak h1,Aq (show ¬(j<=y/\y<j+x.cells.length) by omega)]
         ·by_cases h2:y<j+x.cells.length
          ·rw[Ak (show y<min j r.s+x.cells.length by omega),Aq (show ¬y<min j r.s by omega),Ak (show j<=y/\y<j+x.cells.length by omega)];congr 1;omega
          ·rw[Aq (show ¬y<min j r.s+x.cells.length by omega),Aq (show ¬(j<=y/\y<j+x.cells.length) by omega)];congr 1;omega
       generalize he':Nn P r.t cells'=e' at *;unfold Nn at he';have hec:e'.cells=cells':=by
        rw[<- he'];split
        ·rfl
        ·rename_i hna;simp only[hna,Bt,Aa,Ay,Am]at hag;obtain⟨p,rfl⟩:∃ p,cells'=[p]:=by
          match cells',hcl with
          | [p],_=>exact⟨p,rfl⟩
          | [],h=>simp at h;omega
          |_::_::_,h=>simp at h;omega
         rw[<- he',Aq hna]at hag;simp only[List.headD_cons]at hag ⊢;unfold PV.cells;split
         ·simp[PV.isAgg]at hag
         ·simp[PV.isAgg]at hag
         ·rfl
       have hupd:({ C with H:=C.H.set i { r with es:=r.es.set k e',bv:=r.bv&&wt P r.t e' },w:=w' }:Ctx)=C.H6 i b { r with es:=r.es.set k e',bv:=r.bv&&wt P r.t e' } w':=by
        unfold Ctx.H6;congr 1
        funext x
        split
        ·rename_i e;rw[e,hb]
        ·rfl
       have hlive:r.live=true:=by
        have h9:rowAt C.H i=some r:=hr;unfold rowAt at h9;split at h9
        ·split at h9
         ·rename_i hlv;cases h9;exact hlv
         ·cases h9
        ·cases h9
       have hext:Ext C (C.H6 i b { r with es:=r.es.set k e',bv:=r.bv&&wt P r.t e' } w'):=by
        refine Nm hi hro hr hlive rfl rfl (by simp) (fun _=>⟨rfl,fun b' hb'=>by rw[hb]at hb';exact Ah hb'⟩) g2.os g2.tape g2.output (by rw[g2.size];exact Al _) (fun b' hlt hno=>g2.other b' fun e=>hno ⟨i,hro,by rw[e];exact hb⟩) (fun b' c1 e1 fr1 h1=>?_) (fun b' rec h1=>by rw[g2.other b' fun e=>by rw[e,m1]at h1;cases h1];exact h1) (.inl hb);by_cases hbb:b'=b
        ·subst hbb;rw[m1]at h1;cases h1;exact⟨c',_,g2.at_,g2.Ml⟩
        ·exact⟨c1,_,by rw[g2.other b' hbb];exact h1,rfl⟩
       refine⟨C.H6 i b { r with es:=r.es.set k e',bv:=r.bv&&wt P r.t e' } w',?_,⟨rfl,hext,?_⟩,fun x=>by show(if x=i then some b else C.ρ x)=C.ρ x;split <;> simp_all⟩
       ·simp only[Instr.storeAt,Instr.sureAddr,Sem.run_bind,Sem.run_pure,Result.andThen_ok,storeVar,run_sizeOf C.w hk];rw[Aq (by simp[hcs.1,hl])];exact g1
       ·refine Q3 hR hext hi hlive (fun b' hlt hne=>g2.other b' fun e=>hne (by rw[e];exact hb)) (.inl hb) ?_;refine⟨hB.sz,⟨c',fr,fun k2 j2=>c'.getD (k2*r.s+j2) undef,g2.at_,fun hz off ho=>m2 hz off (by rw[<- g2.Ml];exact ho),by simpa [g2.Ml] using m3,fun k2 e2 j2 p2 hk2 hj2=>?_⟩,fun e2 he2=>?_,fun hbv e2 he2=>?_⟩
        ·have key:∃ v,c'[k2*r.s+j2]? = some v/\RV P C p2 v:=by
          simp only[Ax]at hk2;have hj2s:j2<e2.cells.length:=(Ad.1 hj2).1;split at hk2
          ·rename_i hkk;subst hkk;cases hk2;rw[hec]at hj2 hj2s;rw[hcg]at hj2;rw[g3];split at hj2
           ·rename_i hr3;rw[Ak (by rw[hXl];omega)];have hlt:j2-j<X.cells.size:=by rw[hcs.1];exact(Ad.1 hj2).1
            have hX:X.cells[j2-j]? = some X.cells[j2-j]:=AD hlt;refine⟨X.cells[j2-j],?_,hcs.2 _ _ _ hj2 hX⟩;rw[show k*r.s+j2-(k*r.s+j+0)=j2-j by omega,AL];exact hX
           ·rename_i hr3;rw[Aq (by rw[hXl];omega)];have hjs:j2<r.s:=by rw[<- hol];exact(Ad.1 hj2).1
            have hjc:(r.es.getD k .any).cells[j2]? = some ((r.es.getD k .any).cells[j2]'(by rw[hel];exact hjs)):=Ae _;have hm:=m4 k _ j2 _ (getD_some hke) hjc;unfold Jj at hj2;rw[An,Be hjs]at hj2;cases hj2;refine⟨_,hm.1,RV.pick (fun hbv=>hB.typed hbv _ (Ag (getD_some hke))) (by rw[hel];exact hjs) fun p hp=>?_⟩;rw[hjc]at hp;cases hp;exact hm.2
          ·rename_i hkk;have hm:=m4 k2 e2 j2 p2 hk2 hj2;have hel2:e2.cells.length=r.s:=hB.len _ (Ag hk2);refine⟨_,?_,hm.2⟩;rw[g3,Aq ?_]
           ·exact hm.1
           ·rintro⟨q1,q2⟩
            rw[hXl]at q2;rcases Bv k2 k with hlt |hge
            ·have h5:(k2+1)*r.s<=k*r.s:=A1 _ hlt;rw[Bb,BQ]at h5;omega
            ·have h5:(k+1)*r.s<=k2*r.s:=A1 _ (by omega);rw[Bb,BQ]at h5;omega
         obtain⟨v,q1,q2⟩:=key;have e2':c'.getD (k2*r.s+j2) undef=v:=by rw[Bk,q1];rfl
         exact⟨by simp only[e2'];exact q1,by simp only[e2'];exact q2.mono hext⟩
        ·rcases Bw he2 with h |h
         ·exact hB.len _ h
         ·subst h;rw[hec,hcl]
        ·simp only[Aa]at hbv;rcases Bw he2 with h |h
         ·exact hB.typed hbv.1 _ h
         ·subst h;exact hbv.2
      ·cases hr2
    ·cases h
   ·cases h
  ·cases h
 ·cases h
end Go.Hx


