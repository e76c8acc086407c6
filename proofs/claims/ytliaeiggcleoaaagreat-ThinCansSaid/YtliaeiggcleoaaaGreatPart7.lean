/- Network: types of keys. -/
import Derived.Test.YtliaeiggcleoaaaGreatHgA
import Derived.Test.YtliaeiggcleoaaaGreatPart4
import Derived.Test.YtliaeiggcleoaaaGreatPart5
import Derived.Shelf.SortM.Plain
namespace Go.Hn
open Go.Hx Go.Hg Go.Proofs
abbrev Ai (x y l:Int):PV:=.agg [iv x,iv y,iv l]
theorem wt3 {xs:List PV} (h:wtcs [.int .i64,.int .i64,.int .i64] xs=true):∃ a b c:Int,xs=[iv a,iv b,iv c]:=by
 match xs,h with
 | [x,y,z],h =>
  simp only[wtcs,Bool.and_eq_true] at h
  have one:∀ p:PV,wtc (.int .i64) p=true->∃ a:Int,p=iv a:=fun p hp=>by
   unfold wtc at hp
   split at hp
   ·rename_i e; cases e; simp only[beq_iff_eq] at hp; subst hp; exact ⟨_,rfl⟩
   all_goals simp_all
  obtain ⟨a,rfl⟩:=one x h.1
  obtain ⟨b,rfl⟩:=one y h.2.1
  obtain ⟨c,rfl⟩:=one z h.2.2.1
  exact ⟨a,b,c,rfl⟩
 | [],h=>simp[wtcs] at h
 | [_],h=>simp[wtcs] at h
 | [_,_],h=>simp[wtcs] at h
 | _::_::_::_::_,h=>simp[wtcs] at h
theorem kindsStop:kinds Tryz.prog 39=[.int .i64,.int .i64,.int .i64]:=by kernel_rfl
theorem eqStop (a b c x y z:Int):eqAt Tryz.prog 40 39 [iv a,iv b,iv c] [iv x,iv y,iv z]=some (((a==x)&&((b==y)&&true))&&((c==z)&&true)):=by kernel_rfl
theorem checkStop (a b c:Int) (em:Bool) (w:World):(Instr.checkKey em 10000 39 (.agg #[.int .i64 a,.int .i64 b,.int .i64 c])).run Tryz.prog w=.ok () w:=by kernel_rfl
theorem aggStop:Aj Tryz.prog 39=true:=by kernel_rfl
theorem undInt:Tryz.prog.underlying 3=some (.int .i64):=by kernel_rfl
theorem keyStop:KeyOK Tryz.prog 39:=by
 refine .wide aggStop (fun C p V hp hv em w => ?_) (fun xs ys hx hy => ?_)
 ·obtain ⟨a1,a2⟩:=mv_agg hp hv aggStop
  have hw:=(mv_wt hp).1
  rw[kindsStop] at hw
  obtain ⟨a,b,c,e⟩:=wt3 hw
  have:V.cells = #[.int .i64 a,.int .i64 b,.int .i64 c]:=by
   rw[e] at a1
   have h2:V.cells.toList.map PV.val=[Value.int .i64 a,.int .i64 b,.int .i64 c].map PV.val:=a1
   exact Array.ext' (List.map_inj_right (fun x y hxy=>by cases hxy; rfl) |>.1 h2)
  rw[a2,this]
  exact checkStop a b c em w
 ·rw[kindsStop] at hx hy
  obtain ⟨a,b,c,rfl⟩:=wt3 hx
  obtain ⟨x,y,z,rfl⟩:=wt3 hy
  rw[eqStop]
  simp only[leqC,ceq,Bool.and_true,Bool.and_assoc]
theorem keyInt:KeyOK Tryz.prog 3:=.int undInt
abbrev kts:List TypeId:=[39,3]
theorem kts_ok:∀ K,K ∈ kts->KeyOK Tryz.prog K:=fun K h=>by
 simp only[kts,List.mem_cons,List.not_mem_nil,or_false] at h
 rcases h with rfl | rfl
 ·exact keyStop
 ·exact keyInt
noncomputable def N0:Ad:=({}:Ad).addMaps Tryz.prog kts [103]
theorem ok0:Ab Tryz.prog N0.env:=Af.addMaps kts_ok
abbrev mrow (D:List (PV × PV)):Row:=mapRow k0 39 39 D
end Go.Hn
/- Thin: keys of titles; a way is taken out of a list (printed by genta.py). -/
namespace Go.Hn
open Go.Hx Go.Hg Go.Proofs
theorem kindsTit:kinds Tryz.prog 132=[.int .i64,.str]:=by kernel_rfl
theorem eqTit (a x:Int) (b y:ByteArray):eqAt Tryz.prog 40 132 [iv a,.val (.string b)] [iv x,.val (.string y)]=some ((a==x)&&((b.toList==y.toList)&&true)):=by kernel_rfl
theorem checkTit (a:Int) (b:ByteArray) (em:Bool) (w:World):(Instr.checkKey em 10000 132 (.agg #[.int .i64 a,.string b])).run Tryz.prog w=.ok () w:=by kernel_rfl
theorem aggTit:Aj Tryz.prog 132=true:=by kernel_rfl
theorem wtTit {xs:List PV} (h:wtcs [.int .i64,.str] xs=true):∃ (a:Int) (b:ByteArray),xs=[iv a,.val (.string b)]:=by
 match xs,h with
 | [x,y],h =>
  simp only[wtcs,Bool.and_eq_true] at h
  have one:∀ p:PV,wtc (.int .i64) p=true->∃ a:Int,p=iv a:=fun p hp=>by
   unfold wtc at hp
   split at hp
   ·rename_i e; cases e; simp only[beq_iff_eq] at hp; subst hp; exact ⟨_,rfl⟩
   all_goals simp_all
  have two:∀ p:PV,wtc .str p=true->∃ b:ByteArray,p=.val (.string b):=fun p hp=>by
   unfold wtc at hp
   split at hp
   all_goals simp_all
  obtain ⟨a,rfl⟩:=one x h.1
  obtain ⟨b,rfl⟩:=two y h.2.1
  exact ⟨a,b,rfl⟩
 | [],h=>simp[wtcs] at h
 | [_],h=>simp[wtcs] at h
 | _::_::_::_,h=>simp[wtcs] at h
theorem keyTit:KeyOK Tryz.prog 132:=by
 refine .wide aggTit (fun C p V hp hv em w => ?_) (fun xs ys hx hy => ?_)
 ·obtain ⟨a1,a2⟩:=mv_agg hp hv aggTit
  have hw:=(mv_wt hp).1
  rw[kindsTit] at hw
  obtain ⟨a,b,e⟩:=wtTit hw
  have:V.cells = #[.int .i64 a,.string b]:=by
   rw[e] at a1
   have h2:V.cells.toList.map PV.val=[Value.int .i64 a,.string b].map PV.val:=a1
   exact Array.ext' (List.map_inj_right (fun x y hxy=>by cases hxy; rfl) |>.1 h2)
  rw[a2,this]
  exact checkTit a b em w
 ·rw[kindsTit] at hx hy
  obtain ⟨a,b,rfl⟩:=wtTit hx
  obtain ⟨x,y,rfl⟩:=wtTit hy
  rw[eqTit]
  simp only[leqC,ceq]
abbrev kth:List TypeId:=[132,3]
theorem kth_ok:∀ K,K ∈ kth->KeyOK Tryz.prog K:=fun K h=>by
 simp only[kth,List.mem_cons,List.not_mem_nil,or_false] at h
 rcases h with rfl | rfl
 ·exact keyTit
 ·exact keyInt
noncomputable def TA0:Ad:=((({}:Ad).addIn Tryz.prog).addPiv 121 5 6).addK 122
theorem okTA0:Ab Tryz.prog TA0.env:=((Ab.addIn Af).addPiv 121 5 6).addK 122
theorem qw10 (f:Bool) (a:PV):Ah Tryz.prog TA0 60 79 [.Ac f 44 [a],iv 0]=some (.Ac false 44 []):=by kernel_rfl
theorem qw20 (f:Bool) (a b:PV):Ah Tryz.prog TA0 60 79 [.Ac f 44 [a,b],iv 0]=some (.Ac false 44 [b]):=by kernel_rfl
theorem qw21 (f:Bool) (a b:PV):Ah Tryz.prog TA0 60 79 [.Ac f 44 [a,b],iv 1]=some (.Ac false 44 [a]):=by kernel_rfl
theorem qw30 (f:Bool) (a b c:PV):Ah Tryz.prog TA0 60 79 [.Ac f 44 [a,b,c],iv 0]=some (.Ac false 44 [b,c]):=by kernel_rfl
theorem qw31 (f:Bool) (a b c:PV):Ah Tryz.prog TA0 60 79 [.Ac f 44 [a,b,c],iv 1]=some (.Ac false 44 [a,c]):=by kernel_rfl
theorem qw32 (f:Bool) (a b c:PV):Ah Tryz.prog TA0 60 79 [.Ac f 44 [a,b,c],iv 2]=some (.Ac false 44 [a,b]):=by kernel_rfl
theorem qw40 (f:Bool) (a b c d:PV):Ah Tryz.prog TA0 60 79 [.Ac f 44 [a,b,c,d],iv 0]=some (.Ac false 44 [b,c,d]):=by kernel_rfl
theorem qw41 (f:Bool) (a b c d:PV):Ah Tryz.prog TA0 60 79 [.Ac f 44 [a,b,c,d],iv 1]=some (.Ac false 44 [a,c,d]):=by kernel_rfl
theorem qw42 (f:Bool) (a b c d:PV):Ah Tryz.prog TA0 60 79 [.Ac f 44 [a,b,c,d],iv 2]=some (.Ac false 44 [a,b,d]):=by kernel_rfl
theorem qw43 (f:Bool) (a b c d:PV):Ah Tryz.prog TA0 60 79 [.Ac f 44 [a,b,c,d],iv 3]=some (.Ac false 44 [a,b,c]):=by kernel_rfl
theorem qw50 (f:Bool) (a b c d e:PV):Ah Tryz.prog TA0 60 79 [.Ac f 44 [a,b,c,d,e],iv 0]=some (.Ac false 44 [b,c,d,e]):=by kernel_rfl
theorem qw51 (f:Bool) (a b c d e:PV):Ah Tryz.prog TA0 60 79 [.Ac f 44 [a,b,c,d,e],iv 1]=some (.Ac false 44 [a,c,d,e]):=by kernel_rfl
theorem qw52 (f:Bool) (a b c d e:PV):Ah Tryz.prog TA0 60 79 [.Ac f 44 [a,b,c,d,e],iv 2]=some (.Ac false 44 [a,b,d,e]):=by kernel_rfl
theorem qw53 (f:Bool) (a b c d e:PV):Ah Tryz.prog TA0 60 79 [.Ac f 44 [a,b,c,d,e],iv 3]=some (.Ac false 44 [a,b,c,e]):=by kernel_rfl
theorem qw54 (f:Bool) (a b c d e:PV):Ah Tryz.prog TA0 60 79 [.Ac f 44 [a,b,c,d,e],iv 4]=some (.Ac false 44 [a,b,c,d]):=by kernel_rfl
theorem qw60 (f:Bool) (a b c d e g:PV):Ah Tryz.prog TA0 60 79 [.Ac f 44 [a,b,c,d,e,g],iv 0]=some (.Ac false 44 [b,c,d,e,g]):=by kernel_rfl
theorem qw61 (f:Bool) (a b c d e g:PV):Ah Tryz.prog TA0 60 79 [.Ac f 44 [a,b,c,d,e,g],iv 1]=some (.Ac false 44 [a,c,d,e,g]):=by kernel_rfl
theorem qw62 (f:Bool) (a b c d e g:PV):Ah Tryz.prog TA0 60 79 [.Ac f 44 [a,b,c,d,e,g],iv 2]=some (.Ac false 44 [a,b,d,e,g]):=by kernel_rfl
theorem qw63 (f:Bool) (a b c d e g:PV):Ah Tryz.prog TA0 60 79 [.Ac f 44 [a,b,c,d,e,g],iv 3]=some (.Ac false 44 [a,b,c,e,g]):=by kernel_rfl
theorem qw64 (f:Bool) (a b c d e g:PV):Ah Tryz.prog TA0 60 79 [.Ac f 44 [a,b,c,d,e,g],iv 4]=some (.Ac false 44 [a,b,c,d,g]):=by kernel_rfl
theorem qw65 (f:Bool) (a b c d e g:PV):Ah Tryz.prog TA0 60 79 [.Ac f 44 [a,b,c,d,e,g],iv 5]=some (.Ac false 44 [a,b,c,d,e]):=by kernel_rfl
def cWo:List PV->Option (DT PV)
 | [.Ac _ 44 es,.val (.int .i64 k)]=>some (.br (decide (es.length<=6)&&decide (0<=k)&&decide (k<(es.length:Int))) (.leaf (.Ac false 44 (es.eraseIdx k.toNat))) .no)
 | _=>none
theorem eWo:Hx.Enters Tryz.prog 79:=(Aa okTA0 (qw10 true .any)).1
theorem qWo (f:Bool) (es:List PV) (k:Int) (h1:es.length<=6) (h2:0<=k) (h3:k<(es.length:Int)):Ak Tryz.prog 79 [.Ac f 44 es,iv k] (.Ac false 44 (es.eraseIdx k.toNat)):=by
 obtain ⟨j,rfl⟩:∃ j:Nat,k=(j:Int):=⟨k.toNat,by omega⟩
 have hj:j<es.length:=by omega
 clear h2 h3
 match es,h1,hj with
 | [a],_,hj =>
  match j,hj with
  | 0,_=>exact (Aa okTA0 (qw10 f a)).2
  | j+1,hj=>simp only[List.length_cons,List.length_nil] at hj; omega
 | [a,b],_,hj =>
  match j,hj with
  | 0,_=>exact (Aa okTA0 (qw20 f a b)).2
  | 1,_=>exact (Aa okTA0 (qw21 f a b)).2
  | j+2,hj=>simp only[List.length_cons,List.length_nil] at hj; omega
 | [a,b,c],_,hj =>
  match j,hj with
  | 0,_=>exact (Aa okTA0 (qw30 f a b c)).2
  | 1,_=>exact (Aa okTA0 (qw31 f a b c)).2
  | 2,_=>exact (Aa okTA0 (qw32 f a b c)).2
  | j+3,hj=>simp only[List.length_cons,List.length_nil] at hj; omega
 | [a,b,c,d],_,hj =>
  match j,hj with
  | 0,_=>exact (Aa okTA0 (qw40 f a b c d)).2
  | 1,_=>exact (Aa okTA0 (qw41 f a b c d)).2
  | 2,_=>exact (Aa okTA0 (qw42 f a b c d)).2
  | 3,_=>exact (Aa okTA0 (qw43 f a b c d)).2
  | j+4,hj=>simp only[List.length_cons,List.length_nil] at hj; omega
 | [a,b,c,d,e],_,hj =>
  match j,hj with
  | 0,_=>exact (Aa okTA0 (qw50 f a b c d e)).2
  | 1,_=>exact (Aa okTA0 (qw51 f a b c d e)).2
  | 2,_=>exact (Aa okTA0 (qw52 f a b c d e)).2
  | 3,_=>exact (Aa okTA0 (qw53 f a b c d e)).2
  | 4,_=>exact (Aa okTA0 (qw54 f a b c d e)).2
  | j+5,hj=>simp only[List.length_cons,List.length_nil] at hj; omega
 | [a,b,c,d,e,g],_,hj =>
  match j,hj with
  | 0,_=>exact (Aa okTA0 (qw60 f a b c d e g)).2
  | 1,_=>exact (Aa okTA0 (qw61 f a b c d e g)).2
  | 2,_=>exact (Aa okTA0 (qw62 f a b c d e g)).2
  | 3,_=>exact (Aa okTA0 (qw63 f a b c d e g)).2
  | 4,_=>exact (Aa okTA0 (qw64 f a b c d e g)).2
  | 5,_=>exact (Aa okTA0 (qw65 f a b c d e g)).2
  | j+6,hj=>simp only[List.length_cons,List.length_nil] at hj; omega
 | [],_,hj=>simp at hj
 | _::_::_::_::_::_::_::_,h,_=>simp only[List.length_cons] at h; omega
theorem oWo (args:List PV) (d:DT PV) (r:PV) (h:cWo args=some d) (hr:d.run=some r):Ak Tryz.prog 79 args r:=by
 unfold cWo at h; split at h
 ·rename_i f es k
  cases h
  obtain ⟨h1,rfl⟩:=Aq hr
  simp only[Bool.and_eq_true,decide_eq_true_eq] at h1
  exact qWo f es k h1.1.1 h1.1.2 h1.2
 ·cases h
end Go.Hn
/- Network: root and join of the union-find as contracts on the map's row. -/
namespace Go.Hn
open Go.Hx Go.Hg Go.Proofs
abbrev zst:PV:=.val (.agg #[.int .i64 0,.int .i64 0,.int .i64 0])
abbrev gI (v:PV) (j:Nat):Int:=(v.cellAt j).getI
abbrev gS (D:List (PV × PV)) (x y l:Int) (j:Nat):Int:=gI (mget zst D (Ai x y l)) j
abbrev upB (D:List (PV × PV)) (x y l:Int):Bool:=!(((gS D x y l 0==x)&&((gS D x y l 1==y)&&true))&&((gS D x y l 2==l)&&true))
def climbC {α:Type}:Nat->List (PV × PV)->Int->Int->Int->(Int->Int->Int->List (PV × PV)->Option α)->Option α
 | 0,D,x,y,l,k=>bif mhas D (Ai x y l) then bif upB D x y l then none else k x y l D else k x y l D
 | d+1,D,x,y,l,k=>bif mhas D (Ai x y l) then
   bif upB D x y l then climbC d D (gS D x y l 0) (gS D x y l 1) (gS D x y l 2) fun a b c D1=>k a b c (mput D1 (Ai x y l) (Ai a b c)) else k x y l D
  else k x y l D
theorem qRoot (D:List (PV × PV)) (x y l:Int):runS Tryz.prog N0 70 59 [.agg [.mp 0],Ai x y l] [mrow D]=climbC 8 D x y l (fun a b c D'=>some (Ai a b c,[mrow D'])):=by kernel_rfl
def climbF:Nat->List (PV × PV)->Int->Int->Int->Option ((Int × Int × Int) × List (PV × PV))
 | 0,D,x,y,l=>bif mhas D (Ai x y l)&&upB D x y l then none else some ((x,y,l),D)
 | d+1,D,x,y,l=>bif mhas D (Ai x y l)&&upB D x y l then
   (climbF d D (gS D x y l 0) (gS D x y l 1) (gS D x y l 2)).map fun r=>(r.1,mput r.2 (Ai x y l) (Ai r.1.1 r.1.2.1 r.1.2.2)) else some ((x,y,l),D)
theorem climbC_eq {α:Type}:∀ (d:Nat) (D:List (PV × PV)) (x y l:Int) (k:Int->Int->Int->List (PV × PV)->Option α),climbC d D x y l k=(climbF d D x y l).bind fun r=>k r.1.1 r.1.2.1 r.1.2.2 r.2
 | 0,D,x,y,l,k=>by unfold climbC climbF; cases mhas D (Ai x y l) <;> cases upB D x y l <;> rfl
 | d+1,D,x,y,l,k=>by
  unfold climbC climbF
  rw[climbC_eq d]
  cases mhas D (Ai x y l) <;> cases upB D x y l <;> try rfl
  show _=((climbF d D (gS D x y l 0) (gS D x y l 1) (gS D x y l 2)).map _).bind _
  cases climbF d D (gS D x y l 0) (gS D x y l 1) (gS D x y l 2) <;> rfl
def cl (D:List (PV × PV)) (x y l:Int):Option ((Int × Int × Int) × List (PV × PV)):=climbF 8 D x y l
def clB (D:List (PV × PV)) (x y l:Int):Bool:=(cl D x y l).isSome
def clX (D:List (PV × PV)) (x y l:Int):Int:=((cl D x y l).getD default).1.1
def clY (D:List (PV × PV)) (x y l:Int):Int:=((cl D x y l).getD default).1.2.1
def clL (D:List (PV × PV)) (x y l:Int):Int:=((cl D x y l).getD default).1.2.2
def clD (D:List (PV × PV)) (x y l:Int):List (PV × PV):=((cl D x y l).getD default).2
theorem qRoot' (D:List (PV × PV)) (x y l:Int) (h:clB D x y l=true):runS Tryz.prog N0 70 59 [.agg [.mp 0],Ai x y l] [mrow D]=some (Ai (clX D x y l) (clY D x y l) (clL D x y l),[mrow (clD D x y l)]):=by
 rw[qRoot,climbC_eq]
 unfold clB cl at h
 unfold clX clY clL clD cl
 cases hc:climbF 8 D x y l with
 | none=>rw[hc] at h; cases h
 | some r=>rfl
def rowD:Row->Option (List (PV × PV))
 | ⟨[],0,0,true,false,false,some ⟨⟨0,[],⟨[]⟩,.skip,.skip⟩,.map 39 39 D⟩,false⟩=>some D
 | _=>none
theorem rowD_some {r:Row} {D:List (PV × PV)} (h:rowD r=some D):r=mrow D:=by
 unfold rowD at h
 split at h
 ·cases h; rfl
 ·cases h
def cRoot:List PV->List Row->Option (DT (PV × List Row))
 | [.agg [.mp 0],.agg [.val (.int .i64 x),.val (.int .i64 y),.val (.int .i64 l)]],[r] =>
  match rowD r with
  | some D=>some (.br (clB D x y l) (.leaf (Ai (clX D x y l) (clY D x y l) (clL D x y l),[mrow (clD D x y l)])) .no)
  | none=>none
 | _,_=>none
theorem eRoot:Hx.Enters Tryz.prog 59:=(runS_sound ok0 (qRoot' [] 0 0 0 rfl)).1
theorem oRoot (args:List PV) (H:List Row) (d:DT (PV × List Row)) (p:PV) (H':List Row) (h:cRoot args H=some d) (hr:d.run=some (p,H')):RCall Tryz.prog 0 59 args H p H':=by
 unfold cRoot at h
 split at h
 ·split at h
  ·rename_i x y l r _ D hD
   cases h
   obtain ⟨h1,h2⟩:=Aq hr
   cases h2
   rw[rowD_some hD]
   exact (runS_sound ok0 (qRoot' D x y l h1)).2
  ·cases h
 ·cases h
noncomputable def N2:Ad:=(N0.addR 59 cRoot).addChain 58 1
theorem ok2:Ab Tryz.prog N2.env:=(ok0.addR eRoot oRoot).addChain 58 1
theorem qJoin (D:List (PV × PV)) (x y l u v m:Int):runS Tryz.prog N2 60 58 [.agg [.mp 0],Ai x y l,Ai u v m] [mrow D] =
 bif clB D x y l then bif clB (clD D x y l) u v m then
  some (.tup [],[mrow (mput (clD (clD D x y l) u v m) (Ai (clX D x y l) (clY D x y l) (clL D x y l)) (Ai (clX (clD D x y l) u v m) (clY (clD D x y l) u v m) (clL (clD D x y l) u v m)))])
 else none else none:=by kernel_rfl
end Go.Hn
/- Network: join as a contract; the stops of a way. -/
namespace Go.Hn
open Go.Hx Go.Hg Go.Proofs
abbrev wayv (i:Int) (f:Bool) (L:List PV) (lv:Int) (cs nm:ByteArray) (st:Bool) (wt ds:Int):PV:=.agg [iv i,.Ac f 37 L,iv lv,.val (.string cs),.val (.string nm),bv st,iv wt,iv ds]
def cJoin:List PV->List Row->Option (DT (PV × List Row))
 | [.agg [.mp 0],.agg [.val (.int .i64 x),.val (.int .i64 y),.val (.int .i64 l)],.agg [.val (.int .i64 u),.val (.int .i64 v),.val (.int .i64 m)]],[r] =>
  match rowD r with
  | some D=>some (.br (clB D x y l&&clB (clD D x y l) u v m)
    (.leaf (.tup [],[mrow (mput (clD (clD D x y l) u v m) (Ai (clX D x y l) (clY D x y l) (clL D x y l)) (Ai (clX (clD D x y l) u v m) (clY (clD D x y l) u v m) (clL (clD D x y l) u v m)))])) .no)
  | none=>none
 | _,_=>none
theorem eJoin:Hx.Enters Tryz.prog 58:=(runS_sound ok2 (n:=60) (args:=[.agg [.mp 0],Ai 0 0 0,Ai 0 0 0]) (H:=[mrow []]) (Eq.trans (qJoin [] 0 0 0 0 0 0) rfl)).1
theorem oJoin (args:List PV) (H:List Row) (d:DT (PV × List Row)) (p:PV) (H':List Row) (h:cJoin args H=some d) (hr:d.run=some (p,H')):RCall Tryz.prog 0 58 args H p H':=by
 unfold cJoin at h
 split at h
 ·split at h
  ·rename_i x y l u v m r _ D hD
   cases h
   obtain ⟨h1,h2⟩:=Aq hr
   cases h2
   rw[Bool.and_eq_true] at h1
   rw[rowD_some hD]
   exact (runS_sound ok2 (n:=60) (Eq.trans (qJoin D x y l u v m) (by rw[h1.1,h1.2]; rfl))).2
  ·cases h
 ·cases h
def lastI (L:List PV):Int:=W ((L.length:Int)-1)
theorem qStops0 (i:Int) (f:Bool) (L:List PV) (lv:Int) (cs nm:ByteArray) (st:Bool) (wt ds:Int):(Ah Tryz.prog N2 60 60 [wayv i f L lv cs nm st wt ds]) =
 bif (L.length:Int)==0 then some (.val (.slice none 0 0)) else
  bif decide ((0:Int)<=0)&&decide ((0:Int)<(L.length:Int)) then bif decide (0<=lastI L)&&decide (lastI L<(L.length:Int)) then
   some (.Ac false 39 [Ai (((L.getD 0 .any).cellAt 0).getI) (((L.getD 0 .any).cellAt 1).getI) lv,Ai (((L.getD (lastI L).toNat .any).cellAt 0).getI) (((L.getD (lastI L).toNat .any).cellAt 1).getI) lv]) else none else none:=by kernel_rfl
abbrev ptX (L:List PV) (i:Nat):Int:=((L.getD i .any).cellAt 0).getI
abbrev ptY (L:List PV) (i:Nat):Int:=((L.getD i .any).cellAt 1).getI
abbrev stF (L:List PV) (lv:Int):PV:=Ai (ptX L 0) (ptY L 0) lv
abbrev stL (L:List PV) (lv:Int):PV:=Ai (ptX L (lastI L).toNat) (ptY L (lastI L).toNat) lv
def stB (L:List PV):Bool:=!((L.length:Int)==0)&&((decide ((0:Int)<=0)&&decide ((0:Int)<(L.length:Int)))&&(decide (0<=lastI L)&&decide (lastI L<(L.length:Int))))
def cStops:List PV->Option (DT PV)
 | [.agg [.val (.int .i64 _),.Ac _ 37 L,.val (.int .i64 lv),.val (.string _),.val (.string _),.val (.bool _),.val (.int .i64 _),.val (.int .i64 _)]]=>some (.br (stB L) (.leaf (.Ac false 39 [stF L lv,stL L lv])) .no)
 | _=>none
theorem qStops (i:Int) (f:Bool) (L:List PV) (lv:Int) (cs nm:ByteArray) (st:Bool) (wt ds:Int) (h:stB L=true):Ah Tryz.prog N2 60 60 [wayv i f L lv cs nm st wt ds]=some (.Ac false 39 [stF L lv,stL L lv]):=by
 unfold stB at h
 simp only[Bool.and_eq_true,Bool.not_eq_true'] at h
 rw[qStops0,h.1,h.2.1.1,h.2.1.2,h.2.2.1,h.2.2.2]
 rfl
theorem eStops:Hx.Enters Tryz.prog 60:=(Aa ok2 (n:=60) (qStops 0 false [ptv 0 0] 0 .empty .empty false 0 0 rfl)).1
theorem oStops (args:List PV) (d:DT PV) (r:PV) (h:cStops args=some d) (hr:d.run=some r):Ak Tryz.prog 60 args r:=by
 unfold cStops at h; split at h
 ·rename_i i f L lv cs nm st wt ds
  cases h
  obtain ⟨h1,rfl⟩:=Aq hr
  exact (Aa ok2 (n:=60) (qStops i f L lv cs nm st wt ds h1)).2
 ·cases h
noncomputable def N3:Ad:=((N2.addR 58 cJoin).Ag 60 cStops).addChain 18 8
theorem ok3:Ab Tryz.prog N3.env:=((ok2.addR eJoin oJoin).Ag eStops oStops).addChain 18 8
end Go.Hn
/- Network: Groups: a round of its second loop, by the number of groups. -/
namespace Go.Hn
open Go.Hx Go.Hg Go.Proofs
noncomputable def N4:Ad:=N3.addChain 18 23
theorem ok4:Ab Tryz.prog N4.env:=ok3.addChain 18 23
abbrev wI (e:PV):Int:=(e.cellAt 0).getI
abbrev wL (e:PV):List PV:=(e.cellAt 1).getL
abbrev wLv (e:PV):Int:=(e.cellAt 2).getI
abbrev sboxR:Row:={ es:=[.agg [.mp 0]],s:=1,t:=98,bv:=false }
abbrev atR (A:List (PV × PV)):Row:=mapRow k0 39 3 A
abbrev inR (g:List PV):Row:={ es:=g,s:=1,t:=3,bv:=true }
def grpRows:List (List PV × Nat)->List Row
 | []=>[]
 | G=>{ es:=G.zipIdx.map fun x=>.sl (4+x.2) x.1.2 0 x.1.2,s:=1,t:=22,bv:=false }::G.map fun g=>inR g.1
def grpV:List (List PV × Nat)->PV
 | []=>.val (.slice none 0 0)
 | G=>.sl 3 G.length 0 G.length
abbrev S2 (f:Bool) (ws:List PV) (G:List (List PV × Nat)) (len j:Int):List PV:=tm 107 [(2,grpV G),(5,.fn (.func 59) [.agg [.mp 0]] []),(9,.mp 2),(45,.Ac f 44 ws),(46,iv len),(47,iv j)]
abbrev H2 (D A:List (PV × PV)) (G:List (List PV × Nat)):List Row:=[mrow D,sboxR,atR A]++grpRows G
def keepG (S:List PV) (H:List Row):List Nat:=
 match S.getD 2 .any with
 | .sl g _ _ _=>[0,1,2,g]++((Hx.rowAt H g).map fun r=>r.es.filterMap fun e=>match e with | .sl i _ _ _=>some i | _=>none).getD []
 | _=>[0,1,2]
noncomputable def rdG (S:List PV) (H:List Row):Option (PX × List PV × List Row):=runG Tryz.prog N4 80 18 (Ao Tryz.f18 12) 3 [2,5,9,45,46,47] [2] keepG S H
def rtE (D:List (PV × PV)) (e:PV):PV:=Ai (clX D (ptX (wL e) 0) (ptY (wL e) 0) (wLv e)) (clY D (ptX (wL e) 0) (ptY (wL e) 0) (wLv e)) (clL D (ptX (wL e) 0) (ptY (wL e) 0) (wLv e))
def clE (D:List (PV × PV)) (e:PV):List (PV × PV):=clD D (ptX (wL e) 0) (ptY (wL e) 0) (wLv e)
def gr (g:List PV) (n:Nat):Bool:=decide (0<=4)&&decide (g.length=n)&&decide (n=n)&&decide ((n+1)*8<=140737488355328)
def ap1 {α:Type} (g:List PV) (n:Nat) (k:Option α):Option α:=bif gr g n then k else none
end Go.Hn
/- Network: Groups: the rounds of its second loop, for up to six groups (printed by genhn.py). -/
namespace Go.Hn
open Go.Hx Go.Hg Go.Proofs
theorem qR0 (D:List (PV × PV)) (f:Bool) (ws:List PV) (len j:Int):rdG (S2 f ws [] len j) (H2 D [] []) =
 bif decide (j<len) then bif decide (0<=j)&&decide (j<(ws.length:Int)) then bif stB (wL (ws.getD j.toNat .any)) then bif clB D (ptX (wL (ws.getD j.toNat .any)) 0) (ptY (wL (ws.getD j.toNat .any)) 0) (wLv (ws.getD j.toNat .any)) then
  some (.normal,S2 f ws [([iv (wI (ws.getD j.toNat .any))],1)] len (W (j+1)),H2 (clE D (ws.getD j.toNat .any)) [(rtE D (ws.getD j.toNat .any),iv 0)] [([iv (wI (ws.getD j.toNat .any))],1)])
 else none else none else none else some (.exit 2,tm 107 [(2,grpV [])],H2 D [] []):=by kernel_rfl
theorem qR1 (D:List (PV × PV)) (f:Bool) (ws:List PV) (len j:Int) (a0 b0 c0:Int) (g0:List PV) (n0:Nat):rdG (S2 f ws [(g0,n0)] len j) (H2 D [(Ai a0 b0 c0,iv 0)] [(g0,n0)]) =
 bif decide (j<len) then bif decide (0<=j)&&decide (j<(ws.length:Int)) then bif stB (wL (ws.getD j.toNat .any)) then bif clB D (ptX (wL (ws.getD j.toNat .any)) 0) (ptY (wL (ws.getD j.toNat .any)) 0) (wLv (ws.getD j.toNat .any)) then
  bif keq (rtE D (ws.getD j.toNat .any)) (Ai a0 b0 c0) then ap1 g0 n0 (some (.normal,S2 f ws [(g0++[iv (wI (ws.getD j.toNat .any))],n0+1)] len (W (j+1)),H2 (clE D (ws.getD j.toNat .any)) [(Ai a0 b0 c0,iv 0)] [(g0++[iv (wI (ws.getD j.toNat .any))],n0+1)])) else
  bif keq (rtE D (ws.getD j.toNat .any)) (Ai a0 b0 c0) then none else
  some (.normal,S2 f ws [(g0,n0),([iv (wI (ws.getD j.toNat .any))],1)] len (W (j+1)),H2 (clE D (ws.getD j.toNat .any)) [(Ai a0 b0 c0,iv 0),(rtE D (ws.getD j.toNat .any),iv 1)] [(g0,n0),([iv (wI (ws.getD j.toNat .any))],1)])
 else none else none else none else some (.exit 2,tm 107 [(2,grpV [(g0,n0)])],H2 D [(Ai a0 b0 c0,iv 0)] [(g0,n0)]):=by kernel_rfl
theorem qR2 (D:List (PV × PV)) (f:Bool) (ws:List PV) (len j:Int) (a0 b0 c0 a1 b1 c1:Int) (g0 g1:List PV) (n0 n1:Nat):rdG (S2 f ws [(g0,n0),(g1,n1)] len j) (H2 D [(Ai a0 b0 c0,iv 0),(Ai a1 b1 c1,iv 1)] [(g0,n0),(g1,n1)]) =
 bif decide (j<len) then bif decide (0<=j)&&decide (j<(ws.length:Int)) then bif stB (wL (ws.getD j.toNat .any)) then bif clB D (ptX (wL (ws.getD j.toNat .any)) 0) (ptY (wL (ws.getD j.toNat .any)) 0) (wLv (ws.getD j.toNat .any)) then
  bif keq (rtE D (ws.getD j.toNat .any)) (Ai a0 b0 c0) then ap1 g0 n0 (some (.normal,S2 f ws [(g0++[iv (wI (ws.getD j.toNat .any))],n0+1),(g1,n1)] len (W (j+1)),H2 (clE D (ws.getD j.toNat .any)) [(Ai a0 b0 c0,iv 0),(Ai a1 b1 c1,iv 1)] [(g0++[iv (wI (ws.getD j.toNat .any))],n0+1),(g1,n1)])) else
  bif keq (rtE D (ws.getD j.toNat .any)) (Ai a1 b1 c1) then ap1 g1 n1 (some (.normal,S2 f ws [(g0,n0),(g1++[iv (wI (ws.getD j.toNat .any))],n1+1)] len (W (j+1)),H2 (clE D (ws.getD j.toNat .any)) [(Ai a0 b0 c0,iv 0),(Ai a1 b1 c1,iv 1)] [(g0,n0),(g1++[iv (wI (ws.getD j.toNat .any))],n1+1)])) else
  bif keq (rtE D (ws.getD j.toNat .any)) (Ai a0 b0 c0) then none else
  bif keq (rtE D (ws.getD j.toNat .any)) (Ai a1 b1 c1) then none else
  some (.normal,S2 f ws [(g0,n0),(g1,n1),([iv (wI (ws.getD j.toNat .any))],1)] len (W (j+1)),H2 (clE D (ws.getD j.toNat .any)) [(Ai a0 b0 c0,iv 0),(Ai a1 b1 c1,iv 1),(rtE D (ws.getD j.toNat .any),iv 2)] [(g0,n0),(g1,n1),([iv (wI (ws.getD j.toNat .any))],1)])
 else none else none else none else some (.exit 2,tm 107 [(2,grpV [(g0,n0),(g1,n1)])],H2 D [(Ai a0 b0 c0,iv 0),(Ai a1 b1 c1,iv 1)] [(g0,n0),(g1,n1)]):=by kernel_rfl
theorem qR3 (D:List (PV × PV)) (f:Bool) (ws:List PV) (len j:Int) (a0 b0 c0 a1 b1 c1 a2 b2 c2:Int) (g0 g1 g2:List PV) (n0 n1 n2:Nat):rdG (S2 f ws [(g0,n0),(g1,n1),(g2,n2)] len j) (H2 D [(Ai a0 b0 c0,iv 0),(Ai a1 b1 c1,iv 1),(Ai a2 b2 c2,iv 2)] [(g0,n0),(g1,n1),(g2,n2)]) =
 bif decide (j<len) then bif decide (0<=j)&&decide (j<(ws.length:Int)) then bif stB (wL (ws.getD j.toNat .any)) then bif clB D (ptX (wL (ws.getD j.toNat .any)) 0) (ptY (wL (ws.getD j.toNat .any)) 0) (wLv (ws.getD j.toNat .any)) then
  bif keq (rtE D (ws.getD j.toNat .any)) (Ai a0 b0 c0) then ap1 g0 n0 (some (.normal,S2 f ws [(g0++[iv (wI (ws.getD j.toNat .any))],n0+1),(g1,n1),(g2,n2)] len (W (j+1)),H2 (clE D (ws.getD j.toNat .any)) [(Ai a0 b0 c0,iv 0),(Ai a1 b1 c1,iv 1),(Ai a2 b2 c2,iv 2)] [(g0++[iv (wI (ws.getD j.toNat .any))],n0+1),(g1,n1),(g2,n2)])) else
  bif keq (rtE D (ws.getD j.toNat .any)) (Ai a1 b1 c1) then ap1 g1 n1 (some (.normal,S2 f ws [(g0,n0),(g1++[iv (wI (ws.getD j.toNat .any))],n1+1),(g2,n2)] len (W (j+1)),H2 (clE D (ws.getD j.toNat .any)) [(Ai a0 b0 c0,iv 0),(Ai a1 b1 c1,iv 1),(Ai a2 b2 c2,iv 2)] [(g0,n0),(g1++[iv (wI (ws.getD j.toNat .any))],n1+1),(g2,n2)])) else
  bif keq (rtE D (ws.getD j.toNat .any)) (Ai a2 b2 c2) then ap1 g2 n2 (some (.normal,S2 f ws [(g0,n0),(g1,n1),(g2++[iv (wI (ws.getD j.toNat .any))],n2+1)] len (W (j+1)),H2 (clE D (ws.getD j.toNat .any)) [(Ai a0 b0 c0,iv 0),(Ai a1 b1 c1,iv 1),(Ai a2 b2 c2,iv 2)] [(g0,n0),(g1,n1),(g2++[iv (wI (ws.getD j.toNat .any))],n2+1)])) else
  bif keq (rtE D (ws.getD j.toNat .any)) (Ai a0 b0 c0) then none else
  bif keq (rtE D (ws.getD j.toNat .any)) (Ai a1 b1 c1) then none else
  bif keq (rtE D (ws.getD j.toNat .any)) (Ai a2 b2 c2) then none else
  some (.normal,S2 f ws [(g0,n0),(g1,n1),(g2,n2),([iv (wI (ws.getD j.toNat .any))],1)] len (W (j+1)),H2 (clE D (ws.getD j.toNat .any)) [(Ai a0 b0 c0,iv 0),(Ai a1 b1 c1,iv 1),(Ai a2 b2 c2,iv 2),(rtE D (ws.getD j.toNat .any),iv 3)] [(g0,n0),(g1,n1),(g2,n2),([iv (wI (ws.getD j.toNat .any))],1)])
 else none else none else none else some (.exit 2,tm 107 [(2,grpV [(g0,n0),(g1,n1),(g2,n2)])],H2 D [(Ai a0 b0 c0,iv 0),(Ai a1 b1 c1,iv 1),(Ai a2 b2 c2,iv 2)] [(g0,n0),(g1,n1),(g2,n2)]):=by kernel_rfl
theorem qR4 (D:List (PV × PV)) (f:Bool) (ws:List PV) (len j:Int) (a0 b0 c0 a1 b1 c1 a2 b2 c2 a3 b3 c3:Int) (g0 g1 g2 g3:List PV) (n0 n1 n2 n3:Nat):rdG (S2 f ws [(g0,n0),(g1,n1),(g2,n2),(g3,n3)] len j) (H2 D [(Ai a0 b0 c0,iv 0),(Ai a1 b1 c1,iv 1),(Ai a2 b2 c2,iv 2),(Ai a3 b3 c3,iv 3)] [(g0,n0),(g1,n1),(g2,n2),(g3,n3)]) =
 bif decide (j<len) then bif decide (0<=j)&&decide (j<(ws.length:Int)) then bif stB (wL (ws.getD j.toNat .any)) then bif clB D (ptX (wL (ws.getD j.toNat .any)) 0) (ptY (wL (ws.getD j.toNat .any)) 0) (wLv (ws.getD j.toNat .any)) then
  bif keq (rtE D (ws.getD j.toNat .any)) (Ai a0 b0 c0) then ap1 g0 n0 (some (.normal,S2 f ws [(g0++[iv (wI (ws.getD j.toNat .any))],n0+1),(g1,n1),(g2,n2),(g3,n3)] len (W (j+1)),H2 (clE D (ws.getD j.toNat .any)) [(Ai a0 b0 c0,iv 0),(Ai a1 b1 c1,iv 1),(Ai a2 b2 c2,iv 2),(Ai a3 b3 c3,iv 3)] [(g0++[iv (wI (ws.getD j.toNat .any))],n0+1),(g1,n1),(g2,n2),(g3,n3)])) else
  bif keq (rtE D (ws.getD j.toNat .any)) (Ai a1 b1 c1) then ap1 g1 n1 (some (.normal,S2 f ws [(g0,n0),(g1++[iv (wI (ws.getD j.toNat .any))],n1+1),(g2,n2),(g3,n3)] len (W (j+1)),H2 (clE D (ws.getD j.toNat .any)) [(Ai a0 b0 c0,iv 0),(Ai a1 b1 c1,iv 1),(Ai a2 b2 c2,iv 2),(Ai a3 b3 c3,iv 3)] [(g0,n0),(g1++[iv (wI (ws.getD j.toNat .any))],n1+1),(g2,n2),(g3,n3)])) else
  bif keq (rtE D (ws.getD j.toNat .any)) (Ai a2 b2 c2) then ap1 g2 n2 (some (.normal,S2 f ws [(g0,n0),(g1,n1),(g2++[iv (wI (ws.getD j.toNat .any))],n2+1),(g3,n3)] len (W (j+1)),H2 (clE D (ws.getD j.toNat .any)) [(Ai a0 b0 c0,iv 0),(Ai a1 b1 c1,iv 1),(Ai a2 b2 c2,iv 2),(Ai a3 b3 c3,iv 3)] [(g0,n0),(g1,n1),(g2++[iv (wI (ws.getD j.toNat .any))],n2+1),(g3,n3)])) else
  bif keq (rtE D (ws.getD j.toNat .any)) (Ai a3 b3 c3) then ap1 g3 n3 (some (.normal,S2 f ws [(g0,n0),(g1,n1),(g2,n2),(g3++[iv (wI (ws.getD j.toNat .any))],n3+1)] len (W (j+1)),H2 (clE D (ws.getD j.toNat .any)) [(Ai a0 b0 c0,iv 0),(Ai a1 b1 c1,iv 1),(Ai a2 b2 c2,iv 2),(Ai a3 b3 c3,iv 3)] [(g0,n0),(g1,n1),(g2,n2),(g3++[iv (wI (ws.getD j.toNat .any))],n3+1)])) else
  bif keq (rtE D (ws.getD j.toNat .any)) (Ai a0 b0 c0) then none else
  bif keq (rtE D (ws.getD j.toNat .any)) (Ai a1 b1 c1) then none else
  bif keq (rtE D (ws.getD j.toNat .any)) (Ai a2 b2 c2) then none else
  bif keq (rtE D (ws.getD j.toNat .any)) (Ai a3 b3 c3) then none else
  some (.normal,S2 f ws [(g0,n0),(g1,n1),(g2,n2),(g3,n3),([iv (wI (ws.getD j.toNat .any))],1)] len (W (j+1)),H2 (clE D (ws.getD j.toNat .any)) [(Ai a0 b0 c0,iv 0),(Ai a1 b1 c1,iv 1),(Ai a2 b2 c2,iv 2),(Ai a3 b3 c3,iv 3),(rtE D (ws.getD j.toNat .any),iv 4)] [(g0,n0),(g1,n1),(g2,n2),(g3,n3),([iv (wI (ws.getD j.toNat .any))],1)])
 else none else none else none else some (.exit 2,tm 107 [(2,grpV [(g0,n0),(g1,n1),(g2,n2),(g3,n3)])],H2 D [(Ai a0 b0 c0,iv 0),(Ai a1 b1 c1,iv 1),(Ai a2 b2 c2,iv 2),(Ai a3 b3 c3,iv 3)] [(g0,n0),(g1,n1),(g2,n2),(g3,n3)]):=by kernel_rfl
theorem qR5 (D:List (PV × PV)) (f:Bool) (ws:List PV) (len j:Int) (a0 b0 c0 a1 b1 c1 a2 b2 c2 a3 b3 c3 a4 b4 c4:Int) (g0 g1 g2 g3 g4:List PV) (n0 n1 n2 n3 n4:Nat):rdG (S2 f ws [(g0,n0),(g1,n1),(g2,n2),(g3,n3),(g4,n4)] len j) (H2 D [(Ai a0 b0 c0,iv 0),(Ai a1 b1 c1,iv 1),(Ai a2 b2 c2,iv 2),(Ai a3 b3 c3,iv 3),(Ai a4 b4 c4,iv 4)] [(g0,n0),(g1,n1),(g2,n2),(g3,n3),(g4,n4)]) =
 bif decide (j<len) then bif decide (0<=j)&&decide (j<(ws.length:Int)) then bif stB (wL (ws.getD j.toNat .any)) then bif clB D (ptX (wL (ws.getD j.toNat .any)) 0) (ptY (wL (ws.getD j.toNat .any)) 0) (wLv (ws.getD j.toNat .any)) then
  bif keq (rtE D (ws.getD j.toNat .any)) (Ai a0 b0 c0) then ap1 g0 n0 (some (.normal,S2 f ws [(g0++[iv (wI (ws.getD j.toNat .any))],n0+1),(g1,n1),(g2,n2),(g3,n3),(g4,n4)] len (W (j+1)),H2 (clE D (ws.getD j.toNat .any)) [(Ai a0 b0 c0,iv 0),(Ai a1 b1 c1,iv 1),(Ai a2 b2 c2,iv 2),(Ai a3 b3 c3,iv 3),(Ai a4 b4 c4,iv 4)] [(g0++[iv (wI (ws.getD j.toNat .any))],n0+1),(g1,n1),(g2,n2),(g3,n3),(g4,n4)])) else
  bif keq (rtE D (ws.getD j.toNat .any)) (Ai a1 b1 c1) then ap1 g1 n1 (some (.normal,S2 f ws [(g0,n0),(g1++[iv (wI (ws.getD j.toNat .any))],n1+1),(g2,n2),(g3,n3),(g4,n4)] len (W (j+1)),H2 (clE D (ws.getD j.toNat .any)) [(Ai a0 b0 c0,iv 0),(Ai a1 b1 c1,iv 1),(Ai a2 b2 c2,iv 2),(Ai a3 b3 c3,iv 3),(Ai a4 b4 c4,iv 4)] [(g0,n0),(g1++[iv (wI (ws.getD j.toNat .any))],n1+1),(g2,n2),(g3,n3),(g4,n4)])) else
  bif keq (rtE D (ws.getD j.toNat .any)) (Ai a2 b2 c2) then ap1 g2 n2 (some (.normal,S2 f ws [(g0,n0),(g1,n1),(g2++[iv (wI (ws.getD j.toNat .any))],n2+1),(g3,n3),(g4,n4)] len (W (j+1)),H2 (clE D (ws.getD j.toNat .any)) [(Ai a0 b0 c0,iv 0),(Ai a1 b1 c1,iv 1),(Ai a2 b2 c2,iv 2),(Ai a3 b3 c3,iv 3),(Ai a4 b4 c4,iv 4)] [(g0,n0),(g1,n1),(g2++[iv (wI (ws.getD j.toNat .any))],n2+1),(g3,n3),(g4,n4)])) else
  bif keq (rtE D (ws.getD j.toNat .any)) (Ai a3 b3 c3) then ap1 g3 n3 (some (.normal,S2 f ws [(g0,n0),(g1,n1),(g2,n2),(g3++[iv (wI (ws.getD j.toNat .any))],n3+1),(g4,n4)] len (W (j+1)),H2 (clE D (ws.getD j.toNat .any)) [(Ai a0 b0 c0,iv 0),(Ai a1 b1 c1,iv 1),(Ai a2 b2 c2,iv 2),(Ai a3 b3 c3,iv 3),(Ai a4 b4 c4,iv 4)] [(g0,n0),(g1,n1),(g2,n2),(g3++[iv (wI (ws.getD j.toNat .any))],n3+1),(g4,n4)])) else
  bif keq (rtE D (ws.getD j.toNat .any)) (Ai a4 b4 c4) then ap1 g4 n4 (some (.normal,S2 f ws [(g0,n0),(g1,n1),(g2,n2),(g3,n3),(g4++[iv (wI (ws.getD j.toNat .any))],n4+1)] len (W (j+1)),H2 (clE D (ws.getD j.toNat .any)) [(Ai a0 b0 c0,iv 0),(Ai a1 b1 c1,iv 1),(Ai a2 b2 c2,iv 2),(Ai a3 b3 c3,iv 3),(Ai a4 b4 c4,iv 4)] [(g0,n0),(g1,n1),(g2,n2),(g3,n3),(g4++[iv (wI (ws.getD j.toNat .any))],n4+1)])) else
  bif keq (rtE D (ws.getD j.toNat .any)) (Ai a0 b0 c0) then none else
  bif keq (rtE D (ws.getD j.toNat .any)) (Ai a1 b1 c1) then none else
  bif keq (rtE D (ws.getD j.toNat .any)) (Ai a2 b2 c2) then none else
  bif keq (rtE D (ws.getD j.toNat .any)) (Ai a3 b3 c3) then none else
  bif keq (rtE D (ws.getD j.toNat .any)) (Ai a4 b4 c4) then none else
  some (.normal,S2 f ws [(g0,n0),(g1,n1),(g2,n2),(g3,n3),(g4,n4),([iv (wI (ws.getD j.toNat .any))],1)] len (W (j+1)),H2 (clE D (ws.getD j.toNat .any)) [(Ai a0 b0 c0,iv 0),(Ai a1 b1 c1,iv 1),(Ai a2 b2 c2,iv 2),(Ai a3 b3 c3,iv 3),(Ai a4 b4 c4,iv 4),(rtE D (ws.getD j.toNat .any),iv 5)] [(g0,n0),(g1,n1),(g2,n2),(g3,n3),(g4,n4),([iv (wI (ws.getD j.toNat .any))],1)])
 else none else none else none else some (.exit 2,tm 107 [(2,grpV [(g0,n0),(g1,n1),(g2,n2),(g3,n3),(g4,n4)])],H2 D [(Ai a0 b0 c0,iv 0),(Ai a1 b1 c1,iv 1),(Ai a2 b2 c2,iv 2),(Ai a3 b3 c3,iv 3),(Ai a4 b4 c4,iv 4)] [(g0,n0),(g1,n1),(g2,n2),(g3,n3),(g4,n4)]):=by kernel_rfl
theorem qR6 (D:List (PV × PV)) (f:Bool) (ws:List PV) (len j:Int) (a0 b0 c0 a1 b1 c1 a2 b2 c2 a3 b3 c3 a4 b4 c4 a5 b5 c5:Int) (g0 g1 g2 g3 g4 g5:List PV) (n0 n1 n2 n3 n4 n5:Nat):rdG (S2 f ws [(g0,n0),(g1,n1),(g2,n2),(g3,n3),(g4,n4),(g5,n5)] len j) (H2 D [(Ai a0 b0 c0,iv 0),(Ai a1 b1 c1,iv 1),(Ai a2 b2 c2,iv 2),(Ai a3 b3 c3,iv 3),(Ai a4 b4 c4,iv 4),(Ai a5 b5 c5,iv 5)] [(g0,n0),(g1,n1),(g2,n2),(g3,n3),(g4,n4),(g5,n5)]) =
 bif decide (j<len) then bif decide (0<=j)&&decide (j<(ws.length:Int)) then bif stB (wL (ws.getD j.toNat .any)) then bif clB D (ptX (wL (ws.getD j.toNat .any)) 0) (ptY (wL (ws.getD j.toNat .any)) 0) (wLv (ws.getD j.toNat .any)) then
  bif keq (rtE D (ws.getD j.toNat .any)) (Ai a0 b0 c0) then ap1 g0 n0 (some (.normal,S2 f ws [(g0++[iv (wI (ws.getD j.toNat .any))],n0+1),(g1,n1),(g2,n2),(g3,n3),(g4,n4),(g5,n5)] len (W (j+1)),H2 (clE D (ws.getD j.toNat .any)) [(Ai a0 b0 c0,iv 0),(Ai a1 b1 c1,iv 1),(Ai a2 b2 c2,iv 2),(Ai a3 b3 c3,iv 3),(Ai a4 b4 c4,iv 4),(Ai a5 b5 c5,iv 5)] [(g0++[iv (wI (ws.getD j.toNat .any))],n0+1),(g1,n1),(g2,n2),(g3,n3),(g4,n4),(g5,n5)])) else
  bif keq (rtE D (ws.getD j.toNat .any)) (Ai a1 b1 c1) then ap1 g1 n1 (some (.normal,S2 f ws [(g0,n0),(g1++[iv (wI (ws.getD j.toNat .any))],n1+1),(g2,n2),(g3,n3),(g4,n4),(g5,n5)] len (W (j+1)),H2 (clE D (ws.getD j.toNat .any)) [(Ai a0 b0 c0,iv 0),(Ai a1 b1 c1,iv 1),(Ai a2 b2 c2,iv 2),(Ai a3 b3 c3,iv 3),(Ai a4 b4 c4,iv 4),(Ai a5 b5 c5,iv 5)] [(g0,n0),(g1++[iv (wI (ws.getD j.toNat .any))],n1+1),(g2,n2),(g3,n3),(g4,n4),(g5,n5)])) else
  bif keq (rtE D (ws.getD j.toNat .any)) (Ai a2 b2 c2) then ap1 g2 n2 (some (.normal,S2 f ws [(g0,n0),(g1,n1),(g2++[iv (wI (ws.getD j.toNat .any))],n2+1),(g3,n3),(g4,n4),(g5,n5)] len (W (j+1)),H2 (clE D (ws.getD j.toNat .any)) [(Ai a0 b0 c0,iv 0),(Ai a1 b1 c1,iv 1),(Ai a2 b2 c2,iv 2),(Ai a3 b3 c3,iv 3),(Ai a4 b4 c4,iv 4),(Ai a5 b5 c5,iv 5)] [(g0,n0),(g1,n1),(g2++[iv (wI (ws.getD j.toNat .any))],n2+1),(g3,n3),(g4,n4),(g5,n5)])) else
  bif keq (rtE D (ws.getD j.toNat .any)) (Ai a3 b3 c3) then ap1 g3 n3 (some (.normal,S2 f ws [(g0,n0),(g1,n1),(g2,n2),(g3++[iv (wI (ws.getD j.toNat .any))],n3+1),(g4,n4),(g5,n5)] len (W (j+1)),H2 (clE D (ws.getD j.toNat .any)) [(Ai a0 b0 c0,iv 0),(Ai a1 b1 c1,iv 1),(Ai a2 b2 c2,iv 2),(Ai a3 b3 c3,iv 3),(Ai a4 b4 c4,iv 4),(Ai a5 b5 c5,iv 5)] [(g0,n0),(g1,n1),(g2,n2),(g3++[iv (wI (ws.getD j.toNat .any))],n3+1),(g4,n4),(g5,n5)])) else
  bif keq (rtE D (ws.getD j.toNat .any)) (Ai a4 b4 c4) then ap1 g4 n4 (some (.normal,S2 f ws [(g0,n0),(g1,n1),(g2,n2),(g3,n3),(g4++[iv (wI (ws.getD j.toNat .any))],n4+1),(g5,n5)] len (W (j+1)),H2 (clE D (ws.getD j.toNat .any)) [(Ai a0 b0 c0,iv 0),(Ai a1 b1 c1,iv 1),(Ai a2 b2 c2,iv 2),(Ai a3 b3 c3,iv 3),(Ai a4 b4 c4,iv 4),(Ai a5 b5 c5,iv 5)] [(g0,n0),(g1,n1),(g2,n2),(g3,n3),(g4++[iv (wI (ws.getD j.toNat .any))],n4+1),(g5,n5)])) else
  bif keq (rtE D (ws.getD j.toNat .any)) (Ai a5 b5 c5) then ap1 g5 n5 (some (.normal,S2 f ws [(g0,n0),(g1,n1),(g2,n2),(g3,n3),(g4,n4),(g5++[iv (wI (ws.getD j.toNat .any))],n5+1)] len (W (j+1)),H2 (clE D (ws.getD j.toNat .any)) [(Ai a0 b0 c0,iv 0),(Ai a1 b1 c1,iv 1),(Ai a2 b2 c2,iv 2),(Ai a3 b3 c3,iv 3),(Ai a4 b4 c4,iv 4),(Ai a5 b5 c5,iv 5)] [(g0,n0),(g1,n1),(g2,n2),(g3,n3),(g4,n4),(g5++[iv (wI (ws.getD j.toNat .any))],n5+1)])) else
  bif keq (rtE D (ws.getD j.toNat .any)) (Ai a0 b0 c0) then none else
  bif keq (rtE D (ws.getD j.toNat .any)) (Ai a1 b1 c1) then none else
  bif keq (rtE D (ws.getD j.toNat .any)) (Ai a2 b2 c2) then none else
  bif keq (rtE D (ws.getD j.toNat .any)) (Ai a3 b3 c3) then none else
  bif keq (rtE D (ws.getD j.toNat .any)) (Ai a4 b4 c4) then none else
  bif keq (rtE D (ws.getD j.toNat .any)) (Ai a5 b5 c5) then none else
  some (.normal,S2 f ws [(g0,n0),(g1,n1),(g2,n2),(g3,n3),(g4,n4),(g5,n5),([iv (wI (ws.getD j.toNat .any))],1)] len (W (j+1)),H2 (clE D (ws.getD j.toNat .any)) [(Ai a0 b0 c0,iv 0),(Ai a1 b1 c1,iv 1),(Ai a2 b2 c2,iv 2),(Ai a3 b3 c3,iv 3),(Ai a4 b4 c4,iv 4),(Ai a5 b5 c5,iv 5),(rtE D (ws.getD j.toNat .any),iv 6)] [(g0,n0),(g1,n1),(g2,n2),(g3,n3),(g4,n4),(g5,n5),([iv (wI (ws.getD j.toNat .any))],1)])
 else none else none else none else some (.exit 2,tm 107 [(2,grpV [(g0,n0),(g1,n1),(g2,n2),(g3,n3),(g4,n4),(g5,n5)])],H2 D [(Ai a0 b0 c0,iv 0),(Ai a1 b1 c1,iv 1),(Ai a2 b2 c2,iv 2),(Ai a3 b3 c3,iv 3),(Ai a4 b4 c4,iv 4),(Ai a5 b5 c5,iv 5)] [(g0,n0),(g1,n1),(g2,n2),(g3,n3),(g4,n4),(g5,n5)]):=by kernel_rfl
end Go.Hn
/- Network: Groups: a round of the second loop as one plain step (printed by genhn2.py). -/
namespace Go.Hn
open Go.Hx Go.Hg Go.Proofs
abbrev S3:=Int × Int × Int
abbrev sv (s:S3):PV:=Ai s.1 s.2.1 s.2.2
def apv (A:List S3):List (PV × PV):=A.zipIdx.map fun x=>(sv x.1,iv (x.2:Int))
def rt3 (D:List (PV × PV)) (e:PV):S3:=(clX D (ptX (wL e) 0) (ptY (wL e) 0) (wLv e),clY D (ptX (wL e) 0) (ptY (wL e) 0) (wLv e),clL D (ptX (wL e) 0) (ptY (wL e) 0) (wLv e))
def okE (D:List (PV × PV)) (e:PV):Bool:=stB (wL e)&&clB D (ptX (wL e) 0) (ptY (wL e) 0) (wLv e)
def find2 (r:PV):List S3->Nat->Option Nat
 | [],_=>none
 | s::A,q=>bif keq r (sv s) then some q else find2 r A (q+1)
def step2 (D:List (PV × PV)) (A:List S3) (G:List (List PV × Nat)) (e:PV):Option (List (PV × PV) × List S3 × List (List PV × Nat)):=
 bif okE D e then
  match find2 (rtE D e) A 0 with
  | some q=>match G[q]? with | some g=>bif gr g.1 g.2 then some (clE D e,A,G.set q (g.1++[iv (wI e)],g.2+1)) else none | none=>none
  | none=>some (clE D e,A++[rt3 D e],G++[([iv (wI e)],1)])
 else none
theorem rnd {D:List (PV × PV)} {f:Bool} {ws:List PV} {len j:Int} {r:List (PV × PV) × List S3 × List (List PV × Nat)} (hj0:0<=j) (hj1:j<len) (hl:len=(ws.length:Int)):∀ (A:List S3) (G:List (List PV × Nat)),A.length=G.length/\A.length<=5->step2 D A G (ws.getD j.toNat .any)=some r ->
  rdG (S2 f ws G len j) (H2 D (apv A) G)=some (.normal,S2 f ws r.2.2 len (W (j+1)),H2 r.1 (apv r.2.1) r.2.2):=by
 have hj:decide (j<len)=true:=decide_eq_true hj1
 have hjj:(decide (0<=j)&&decide (j<(ws.length:Int)))=true:=by rw[<- hl,hj,decide_eq_true hj0]; rfl
 intro A G hm h
 match A,G,hm with
 | [],[],_ =>
  show rdG (S2 f ws [] len j) (H2 D [] [])=_
  rw[qR0,hj,hjj]
  generalize ws.getD j.toNat .any=e at h ⊢
  unfold step2 okE at h
  cases hs1:stB (wL e) with
  | false=>rw[hs1] at h; cases h
  | true =>
  cases hs2:clB D (ptX (wL e) 0) (ptY (wL e) 0) (wLv e) with
  | false=>rw[hs1,hs2] at h; cases h
  | true =>
  rw[hs1,hs2] at h
  simp only[find2,cond_true,Bool.and_self] at h
  replace h:some (clE D e,[rt3 D e],[([iv (wI e)],1)])=some r:=h
  cases h
  rfl
 | [(a0,b0,c0)],[(g0,n0)],_ =>
  show rdG (S2 f ws [(g0,n0)] len j) (H2 D [(Ai a0 b0 c0,iv 0)] [(g0,n0)])=_
  rw[qR1,hj,hjj]
  generalize ws.getD j.toNat .any=e at h ⊢
  unfold step2 okE at h
  cases hs1:stB (wL e) with
  | false=>rw[hs1] at h; cases h
  | true =>
  cases hs2:clB D (ptX (wL e) 0) (ptY (wL e) 0) (wLv e) with
  | false=>rw[hs1,hs2] at h; cases h
  | true =>
  rw[hs1,hs2] at h
  cases k0:keq (rtE D e) (Ai a0 b0 c0) with
  | true =>
   unfold find2 at h
   simp only[find2,sv,k0,cond_true,Bool.and_self] at h
   replace h:(bif gr g0 n0 then some (clE D e,[(a0,b0,c0)],[(g0++[iv (wI e)],n0+1)]) else none)=some r:=h
   unfold ap1
   cases hg:gr g0 n0 with
   | false=>rw[hg] at h; cases h
   | true=>rw[hg] at h; cases h; rfl
  | false =>
  simp only[find2,sv,k0,cond_true,cond_false,Bool.and_self] at h
  replace h:some (clE D e,[(a0,b0,c0),rt3 D e],[(g0,n0),([iv (wI e)],1)])=some r:=h
  cases h
  rfl
 | [(a0,b0,c0),(a1,b1,c1)],[(g0,n0),(g1,n1)],_ =>
  show rdG (S2 f ws [(g0,n0),(g1,n1)] len j) (H2 D [(Ai a0 b0 c0,iv 0),(Ai a1 b1 c1,iv 1)] [(g0,n0),(g1,n1)])=_
  rw[qR2,hj,hjj]
  generalize ws.getD j.toNat .any=e at h ⊢
  unfold step2 okE at h
  cases hs1:stB (wL e) with
  | false=>rw[hs1] at h; cases h
  | true =>
  cases hs2:clB D (ptX (wL e) 0) (ptY (wL e) 0) (wLv e) with
  | false=>rw[hs1,hs2] at h; cases h
  | true =>
  rw[hs1,hs2] at h
  cases k0:keq (rtE D e) (Ai a0 b0 c0) with
  | true =>
   unfold find2 at h
   simp only[find2,sv,k0,cond_true,Bool.and_self] at h
   replace h:(bif gr g0 n0 then some (clE D e,[(a0,b0,c0),(a1,b1,c1)],[(g0++[iv (wI e)],n0+1),(g1,n1)]) else none)=some r:=h
   unfold ap1
   cases hg:gr g0 n0 with
   | false=>rw[hg] at h; cases h
   | true=>rw[hg] at h; cases h; rfl
  | false =>
  cases k1:keq (rtE D e) (Ai a1 b1 c1) with
  | true =>
   try unfold find2 at h
   simp only[find2,sv,k0,k1,cond_true,cond_false,Bool.and_self] at h
   replace h:(bif gr g1 n1 then some (clE D e,[(a0,b0,c0),(a1,b1,c1)],[(g0,n0),(g1++[iv (wI e)],n1+1)]) else none)=some r:=h
   unfold ap1
   cases hg:gr g1 n1 with
   | false=>rw[hg] at h; cases h
   | true=>rw[hg] at h; cases h; rfl
  | false =>
  simp only[find2,sv,k0,k1,cond_true,cond_false,Bool.and_self] at h
  replace h:some (clE D e,[(a0,b0,c0),(a1,b1,c1),rt3 D e],[(g0,n0),(g1,n1),([iv (wI e)],1)])=some r:=h
  cases h
  rfl
 | [(a0,b0,c0),(a1,b1,c1),(a2,b2,c2)],[(g0,n0),(g1,n1),(g2,n2)],_ =>
  show rdG (S2 f ws [(g0,n0),(g1,n1),(g2,n2)] len j) (H2 D [(Ai a0 b0 c0,iv 0),(Ai a1 b1 c1,iv 1),(Ai a2 b2 c2,iv 2)] [(g0,n0),(g1,n1),(g2,n2)])=_
  rw[qR3,hj,hjj]
  generalize ws.getD j.toNat .any=e at h ⊢
  unfold step2 okE at h
  cases hs1:stB (wL e) with
  | false=>rw[hs1] at h; cases h
  | true =>
  cases hs2:clB D (ptX (wL e) 0) (ptY (wL e) 0) (wLv e) with
  | false=>rw[hs1,hs2] at h; cases h
  | true =>
  rw[hs1,hs2] at h
  cases k0:keq (rtE D e) (Ai a0 b0 c0) with
  | true =>
   unfold find2 at h
   simp only[find2,sv,k0,cond_true,Bool.and_self] at h
   replace h:(bif gr g0 n0 then some (clE D e,[(a0,b0,c0),(a1,b1,c1),(a2,b2,c2)],[(g0++[iv (wI e)],n0+1),(g1,n1),(g2,n2)]) else none)=some r:=h
   unfold ap1
   cases hg:gr g0 n0 with
   | false=>rw[hg] at h; cases h
   | true=>rw[hg] at h; cases h; rfl
  | false =>
  cases k1:keq (rtE D e) (Ai a1 b1 c1) with
  | true =>
   try unfold find2 at h
   simp only[find2,sv,k0,k1,cond_true,cond_false,Bool.and_self] at h
   replace h:(bif gr g1 n1 then some (clE D e,[(a0,b0,c0),(a1,b1,c1),(a2,b2,c2)],[(g0,n0),(g1++[iv (wI e)],n1+1),(g2,n2)]) else none)=some r:=h
   unfold ap1
   cases hg:gr g1 n1 with
   | false=>rw[hg] at h; cases h
   | true=>rw[hg] at h; cases h; rfl
  | false =>
  cases k2:keq (rtE D e) (Ai a2 b2 c2) with
  | true =>
   try unfold find2 at h
   simp only[find2,sv,k0,k1,k2,cond_true,cond_false,Bool.and_self] at h
   replace h:(bif gr g2 n2 then some (clE D e,[(a0,b0,c0),(a1,b1,c1),(a2,b2,c2)],[(g0,n0),(g1,n1),(g2++[iv (wI e)],n2+1)]) else none)=some r:=h
   unfold ap1
   cases hg:gr g2 n2 with
   | false=>rw[hg] at h; cases h
   | true=>rw[hg] at h; cases h; rfl
  | false =>
  simp only[find2,sv,k0,k1,k2,cond_true,cond_false,Bool.and_self] at h
  replace h:some (clE D e,[(a0,b0,c0),(a1,b1,c1),(a2,b2,c2),rt3 D e],[(g0,n0),(g1,n1),(g2,n2),([iv (wI e)],1)])=some r:=h
  cases h
  rfl
 | [(a0,b0,c0),(a1,b1,c1),(a2,b2,c2),(a3,b3,c3)],[(g0,n0),(g1,n1),(g2,n2),(g3,n3)],_ =>
  show rdG (S2 f ws [(g0,n0),(g1,n1),(g2,n2),(g3,n3)] len j) (H2 D [(Ai a0 b0 c0,iv 0),(Ai a1 b1 c1,iv 1),(Ai a2 b2 c2,iv 2),(Ai a3 b3 c3,iv 3)] [(g0,n0),(g1,n1),(g2,n2),(g3,n3)])=_
  rw[qR4,hj,hjj]
  generalize ws.getD j.toNat .any=e at h ⊢
  unfold step2 okE at h
  cases hs1:stB (wL e) with
  | false=>rw[hs1] at h; cases h
  | true =>
  cases hs2:clB D (ptX (wL e) 0) (ptY (wL e) 0) (wLv e) with
  | false=>rw[hs1,hs2] at h; cases h
  | true =>
  rw[hs1,hs2] at h
  cases k0:keq (rtE D e) (Ai a0 b0 c0) with
  | true =>
   unfold find2 at h
   simp only[find2,sv,k0,cond_true,Bool.and_self] at h
   replace h:(bif gr g0 n0 then some (clE D e,[(a0,b0,c0),(a1,b1,c1),(a2,b2,c2),(a3,b3,c3)],[(g0++[iv (wI e)],n0+1),(g1,n1),(g2,n2),(g3,n3)]) else none)=some r:=h
   unfold ap1
   cases hg:gr g0 n0 with
   | false=>rw[hg] at h; cases h
   | true=>rw[hg] at h; cases h; rfl
  | false =>
  cases k1:keq (rtE D e) (Ai a1 b1 c1) with
  | true =>
   try unfold find2 at h
   simp only[find2,sv,k0,k1,cond_true,cond_false,Bool.and_self] at h
   replace h:(bif gr g1 n1 then some (clE D e,[(a0,b0,c0),(a1,b1,c1),(a2,b2,c2),(a3,b3,c3)],[(g0,n0),(g1++[iv (wI e)],n1+1),(g2,n2),(g3,n3)]) else none)=some r:=h
   unfold ap1
   cases hg:gr g1 n1 with
   | false=>rw[hg] at h; cases h
   | true=>rw[hg] at h; cases h; rfl
  | false =>
  cases k2:keq (rtE D e) (Ai a2 b2 c2) with
  | true =>
   try unfold find2 at h
   simp only[find2,sv,k0,k1,k2,cond_true,cond_false,Bool.and_self] at h
   replace h:(bif gr g2 n2 then some (clE D e,[(a0,b0,c0),(a1,b1,c1),(a2,b2,c2),(a3,b3,c3)],[(g0,n0),(g1,n1),(g2++[iv (wI e)],n2+1),(g3,n3)]) else none)=some r:=h
   unfold ap1
   cases hg:gr g2 n2 with
   | false=>rw[hg] at h; cases h
   | true=>rw[hg] at h; cases h; rfl
  | false =>
  cases k3:keq (rtE D e) (Ai a3 b3 c3) with
  | true =>
   try unfold find2 at h
   simp only[find2,sv,k0,k1,k2,k3,cond_true,cond_false,Bool.and_self] at h
   replace h:(bif gr g3 n3 then some (clE D e,[(a0,b0,c0),(a1,b1,c1),(a2,b2,c2),(a3,b3,c3)],[(g0,n0),(g1,n1),(g2,n2),(g3++[iv (wI e)],n3+1)]) else none)=some r:=h
   unfold ap1
   cases hg:gr g3 n3 with
   | false=>rw[hg] at h; cases h
   | true=>rw[hg] at h; cases h; rfl
  | false =>
  simp only[find2,sv,k0,k1,k2,k3,cond_true,cond_false,Bool.and_self] at h
  replace h:some (clE D e,[(a0,b0,c0),(a1,b1,c1),(a2,b2,c2),(a3,b3,c3),rt3 D e],[(g0,n0),(g1,n1),(g2,n2),(g3,n3),([iv (wI e)],1)])=some r:=h
  cases h
  rfl
 | [(a0,b0,c0),(a1,b1,c1),(a2,b2,c2),(a3,b3,c3),(a4,b4,c4)],[(g0,n0),(g1,n1),(g2,n2),(g3,n3),(g4,n4)],_ =>
  show rdG (S2 f ws [(g0,n0),(g1,n1),(g2,n2),(g3,n3),(g4,n4)] len j) (H2 D [(Ai a0 b0 c0,iv 0),(Ai a1 b1 c1,iv 1),(Ai a2 b2 c2,iv 2),(Ai a3 b3 c3,iv 3),(Ai a4 b4 c4,iv 4)] [(g0,n0),(g1,n1),(g2,n2),(g3,n3),(g4,n4)])=_
  rw[qR5,hj,hjj]
  generalize ws.getD j.toNat .any=e at h ⊢
  unfold step2 okE at h
  cases hs1:stB (wL e) with
  | false=>rw[hs1] at h; cases h
  | true =>
  cases hs2:clB D (ptX (wL e) 0) (ptY (wL e) 0) (wLv e) with
  | false=>rw[hs1,hs2] at h; cases h
  | true =>
  rw[hs1,hs2] at h
  cases k0:keq (rtE D e) (Ai a0 b0 c0) with
  | true =>
   unfold find2 at h
   simp only[find2,sv,k0,cond_true,Bool.and_self] at h
   replace h:(bif gr g0 n0 then some (clE D e,[(a0,b0,c0),(a1,b1,c1),(a2,b2,c2),(a3,b3,c3),(a4,b4,c4)],[(g0++[iv (wI e)],n0+1),(g1,n1),(g2,n2),(g3,n3),(g4,n4)]) else none)=some r:=h
   unfold ap1
   cases hg:gr g0 n0 with
   | false=>rw[hg] at h; cases h
   | true=>rw[hg] at h; cases h; rfl
  | false =>
  cases k1:keq (rtE D e) (Ai a1 b1 c1) with
  | true =>
   try unfold find2 at h
   simp only[find2,sv,k0,k1,cond_true,cond_false,Bool.and_self] at h
   replace h:(bif gr g1 n1 then some (clE D e,[(a0,b0,c0),(a1,b1,c1),(a2,b2,c2),(a3,b3,c3),(a4,b4,c4)],[(g0,n0),(g1++[iv (wI e)],n1+1),(g2,n2),(g3,n3),(g4,n4)]) else none)=some r:=h
   unfold ap1
   cases hg:gr g1 n1 with
   | false=>rw[hg] at h; cases h
   | true=>rw[hg] at h; cases h; rfl
  | false =>
  cases k2:keq (rtE D e) (Ai a2 b2 c2) with
  | true =>
   try unfold find2 at h
   simp only[find2,sv,k0,k1,k2,cond_true,cond_false,Bool.and_self] at h
   replace h:(bif gr g2 n2 then some (clE D e,[(a0,b0,c0),(a1,b1,c1),(a2,b2,c2),(a3,b3,c3),(a4,b4,c4)],[(g0,n0),(g1,n1),(g2++[iv (wI e)],n2+1),(g3,n3),(g4,n4)]) else none)=some r:=h
   unfold ap1
   cases hg:gr g2 n2 with
   | false=>rw[hg] at h; cases h
   | true=>rw[hg] at h; cases h; rfl
  | false =>
  cases k3:keq (rtE D e) (Ai a3 b3 c3) with
  | true =>
   try unfold find2 at h
   simp only[find2,sv,k0,k1,k2,k3,cond_true,cond_false,Bool.and_self] at h
   replace h:(bif gr g3 n3 then some (clE D e,[(a0,b0,c0),(a1,b1,c1),(a2,b2,c2),(a3,b3,c3),(a4,b4,c4)],[(g0,n0),(g1,n1),(g2,n2),(g3++[iv (wI e)],n3+1),(g4,n4)]) else none)=some r:=h
   unfold ap1
   cases hg:gr g3 n3 with
   | false=>rw[hg] at h; cases h
   | true=>rw[hg] at h; cases h; rfl
  | false =>
  cases k4:keq (rtE D e) (Ai a4 b4 c4) with
  | true =>
   try unfold find2 at h
   simp only[find2,sv,k0,k1,k2,k3,k4,cond_true,cond_false,Bool.and_self] at h
   replace h:(bif gr g4 n4 then some (clE D e,[(a0,b0,c0),(a1,b1,c1),(a2,b2,c2),(a3,b3,c3),(a4,b4,c4)],[(g0,n0),(g1,n1),(g2,n2),(g3,n3),(g4++[iv (wI e)],n4+1)]) else none)=some r:=h
   unfold ap1
   cases hg:gr g4 n4 with
   | false=>rw[hg] at h; cases h
   | true=>rw[hg] at h; cases h; rfl
  | false =>
  simp only[find2,sv,k0,k1,k2,k3,k4,cond_true,cond_false,Bool.and_self] at h
  replace h:some (clE D e,[(a0,b0,c0),(a1,b1,c1),(a2,b2,c2),(a3,b3,c3),(a4,b4,c4),rt3 D e],[(g0,n0),(g1,n1),(g2,n2),(g3,n3),(g4,n4),([iv (wI e)],1)])=some r:=h
  cases h
  rfl
 | _::_::_::_::_::_::_,_,hm=>simp only[List.length_cons] at hm; omega
 | [],_::_,hm=>simp at hm
 | [_],[],hm=>simp at hm
 | [_],_::_::_,hm=>simp only[List.length_cons,List.length_nil] at hm; omega
 | [_,_],[],hm=>simp at hm
 | [_,_],[_],hm=>simp at hm
 | [_,_],_::_::_::_,hm=>simp only[List.length_cons,List.length_nil] at hm; omega
 | [_,_,_],[],hm=>simp at hm
 | [_,_,_],[_],hm=>simp at hm
 | [_,_,_],[_,_],hm=>simp at hm
 | [_,_,_],_::_::_::_::_,hm=>simp only[List.length_cons,List.length_nil] at hm; omega
 | [_,_,_,_],[],hm=>simp at hm
 | [_,_,_,_],[_],hm=>simp at hm
 | [_,_,_,_],[_,_],hm=>simp at hm
 | [_,_,_,_],[_,_,_],hm=>simp at hm
 | [_,_,_,_],_::_::_::_::_::_,hm=>simp only[List.length_cons,List.length_nil] at hm; omega
 | [_,_,_,_,_],[],hm=>simp at hm
 | [_,_,_,_,_],[_],hm=>simp at hm
 | [_,_,_,_,_],[_,_],hm=>simp at hm
 | [_,_,_,_,_],[_,_,_],hm=>simp at hm
 | [_,_,_,_,_],[_,_,_,_],hm=>simp at hm
 | [_,_,_,_,_],_::_::_::_::_::_::_,hm=>simp only[List.length_cons,List.length_nil] at hm; omega
end Go.Hn
/- Network: Groups' second loop, all rounds, for at most six ways. -/
namespace Go.Hn
open Go.Hx Go.Hg Go.Proofs
def grp2:List PV->List (PV × PV)->List S3->List (List PV × Nat)->Option (List (PV × PV) × List S3 × List (List PV × Nat))
 | [],D,A,G=>some (D,A,G)
 | e::es,D,A,G=>(step2 D A G e).bind fun r=>grp2 es r.1 r.2.1 r.2.2
theorem step2_len {D:List (PV × PV)} {A:List S3} {G:List (List PV × Nat)} {e:PV} {r:List (PV × PV) × List S3 × List (List PV × Nat)} (hl:A.length=G.length) (h:step2 D A G e=some r):r.2.1.length=r.2.2.length/\A.length<=r.2.1.length/\r.2.1.length<=A.length+1:=by
 unfold step2 at h
 cases ho:okE D e with
 | false=>rw[ho] at h; cases h
 | true =>
  rw[ho,cond_true] at h
  split at h
  ·rename_i q hq
   split at h
   ·rename_i g hg
    cases hgr:gr g.1 g.2 with
    | false=>rw[hgr] at h; cases h
    | true=>rw[hgr] at h; cases h; simp only[List.length_set]; omega
   ·cases h
  ·cases h; simp only[List.length_append,List.length_cons,List.length_nil]; omega
theorem xit {D:List (PV × PV)} {f:Bool} {ws:List PV} {len j:Int} (hj1:¬ j<len):∀ (A:List S3) (G:List (List PV × Nat)),A.length=G.length/\A.length<=6 ->
  rdG (S2 f ws G len j) (H2 D (apv A) G)=some (.exit 2,tm 107 [(2,grpV G)],H2 D (apv A) G):=by
 have hj:decide (j<len)=false:=decide_eq_false hj1
 intro A G hm
 match A,G,hm with
 | [],[],_=>show rdG (S2 f ws [] len j) (H2 D [] [])=_; rw[qR0,hj]; rfl
 | [(a0,b0,c0)],[(g0,n0)],_ =>
  show rdG (S2 f ws [(g0,n0)] len j) (H2 D [(Ai a0 b0 c0,iv 0)] [(g0,n0)])=_; rw[qR1,hj]; rfl
 | [(a0,b0,c0),(a1,b1,c1)],[(g0,n0),(g1,n1)],_ =>
  show rdG (S2 f ws [(g0,n0),(g1,n1)] len j) (H2 D [(Ai a0 b0 c0,iv 0),(Ai a1 b1 c1,iv 1)] [(g0,n0),(g1,n1)])=_; rw[qR2,hj]; rfl
 | [(a0,b0,c0),(a1,b1,c1),(a2,b2,c2)],[(g0,n0),(g1,n1),(g2,n2)],_ =>
  show rdG (S2 f ws [(g0,n0),(g1,n1),(g2,n2)] len j) (H2 D [(Ai a0 b0 c0,iv 0),(Ai a1 b1 c1,iv 1),(Ai a2 b2 c2,iv 2)] [(g0,n0),(g1,n1),(g2,n2)])=_; rw[qR3,hj]; rfl
 | [(a0,b0,c0),(a1,b1,c1),(a2,b2,c2),(a3,b3,c3)],[(g0,n0),(g1,n1),(g2,n2),(g3,n3)],_ =>
  show rdG (S2 f ws [(g0,n0),(g1,n1),(g2,n2),(g3,n3)] len j) (H2 D [(Ai a0 b0 c0,iv 0),(Ai a1 b1 c1,iv 1),(Ai a2 b2 c2,iv 2),(Ai a3 b3 c3,iv 3)] [(g0,n0),(g1,n1),(g2,n2),(g3,n3)])=_; rw[qR4,hj]; rfl
 | [(a0,b0,c0),(a1,b1,c1),(a2,b2,c2),(a3,b3,c3),(a4,b4,c4)],[(g0,n0),(g1,n1),(g2,n2),(g3,n3),(g4,n4)],_ =>
  show rdG (S2 f ws [(g0,n0),(g1,n1),(g2,n2),(g3,n3),(g4,n4)] len j) (H2 D [(Ai a0 b0 c0,iv 0),(Ai a1 b1 c1,iv 1),(Ai a2 b2 c2,iv 2),(Ai a3 b3 c3,iv 3),(Ai a4 b4 c4,iv 4)] [(g0,n0),(g1,n1),(g2,n2),(g3,n3),(g4,n4)])=_; rw[qR5,hj]; rfl
 | [(a0,b0,c0),(a1,b1,c1),(a2,b2,c2),(a3,b3,c3),(a4,b4,c4),(a5,b5,c5)],[(g0,n0),(g1,n1),(g2,n2),(g3,n3),(g4,n4),(g5,n5)],_ =>
  show rdG (S2 f ws [(g0,n0),(g1,n1),(g2,n2),(g3,n3),(g4,n4),(g5,n5)] len j) (H2 D [(Ai a0 b0 c0,iv 0),(Ai a1 b1 c1,iv 1),(Ai a2 b2 c2,iv 2),(Ai a3 b3 c3,iv 3),(Ai a4 b4 c4,iv 4),(Ai a5 b5 c5,iv 5)] [(g0,n0),(g1,n1),(g2,n2),(g3,n3),(g4,n4),(g5,n5)])=_; rw[qR6,hj]; rfl
 | _::_::_::_::_::_::_::_,_,hm=>simp only[List.length_cons] at hm; omega
 | [],_::_,hm=>simp at hm
 | [_],[],hm=>simp at hm
 | [_],_::_::_,hm=>simp only[List.length_cons,List.length_nil] at hm; omega
 | [_,_],[],hm=>simp at hm
 | [_,_],[_],hm=>simp at hm
 | [_,_],_::_::_::_,hm=>simp only[List.length_cons,List.length_nil] at hm; omega
 | [_,_,_],[],hm=>simp at hm
 | [_,_,_],[_],hm=>simp at hm
 | [_,_,_],[_,_],hm=>simp at hm
 | [_,_,_],_::_::_::_::_,hm=>simp only[List.length_cons,List.length_nil] at hm; omega
 | [_,_,_,_],[],hm=>simp at hm
 | [_,_,_,_],[_],hm=>simp at hm
 | [_,_,_,_],[_,_],hm=>simp at hm
 | [_,_,_,_],[_,_,_],hm=>simp at hm
 | [_,_,_,_],_::_::_::_::_::_,hm=>simp only[List.length_cons,List.length_nil] at hm; omega
 | [_,_,_,_,_],[],hm=>simp at hm
 | [_,_,_,_,_],[_],hm=>simp at hm
 | [_,_,_,_,_],[_,_],hm=>simp at hm
 | [_,_,_,_,_],[_,_,_],hm=>simp at hm
 | [_,_,_,_,_],[_,_,_,_],hm=>simp at hm
 | [_,_,_,_,_],_::_::_::_::_::_::_,hm=>simp only[List.length_cons,List.length_nil] at hm; omega
 | [_,_,_,_,_,_],[],hm=>simp at hm
 | [_,_,_,_,_,_],[_],hm=>simp at hm
 | [_,_,_,_,_,_],[_,_],hm=>simp at hm
 | [_,_,_,_,_,_],[_,_,_],hm=>simp at hm
 | [_,_,_,_,_,_],[_,_,_,_],hm=>simp at hm
 | [_,_,_,_,_,_],[_,_,_,_,_],hm=>simp at hm
 | [_,_,_,_,_,_],_::_::_::_::_::_::_::_,hm=>simp only[List.length_cons,List.length_nil] at hm; omega
theorem all2 {f:Bool} {ws:List PV} (hw:ws.length<=6) (hsub:SubCode Tryz.prog 18 (Ao Tryz.f18 12)) {R:List (PV × PV) × List S3 × List (List PV × Nat)}:∀ (k j:Nat) (D:List (PV × PV)) (A:List S3) (G:List (List PV × Nat)),j+k=ws.length->A.length=G.length->A.length<=j ->
  grp2 (ws.drop j) D A G=some R ->
  RndsG Tryz.prog (Ao Tryz.f18 12) 3 (.exit 2) (tm 107 [(2,grpV R.2.2)]) (H2 R.1 (apv R.2.1) R.2.2) (S2 f ws G (ws.length:Int) (j:Int)) (H2 D (apv A) G)
 | 0,j,D,A,G,hk,hl,hA,h=>by
  rw[List.drop_of_length_le (by omega)] at h
  cases h
  exact runG_stop ok4 hsub (by simp) (xit (by omega) A G ⟨hl,by omega⟩)
 | k+1,j,D,A,G,hk,hl,hA,h=>by
  have hj:j<ws.length:=by omega
  rw[List.drop_eq_getElem_cons hj] at h
  unfold grp2 at h
  obtain ⟨r,hr,h2⟩:=Option.bind_eq_some_iff.1 h
  obtain ⟨l1,l2,l3⟩:=step2_len hl hr
  have hg:ws.getD (j:Int).toNat .any=ws[j]:=by rw[List.getD_eq_getElem?_getD,Int.toNat_natCast,List.getElem?_eq_getElem hj]; rfl
  have h1:=rnd (D:=D) (f:=f) (ws:=ws) (len:=(ws.length:Int)) (j:=(j:Int)) (r:=r) (by omega) (by omega) rfl A G ⟨hl,by omega⟩ (by rw[hg]; exact hr)
  refine runG_go ok4 hsub h1 ?_
  have:=all2 (f:=f) hw hsub k (j+1) r.1 r.2.1 r.2.2 (by omega) l1 (by omega) h2
  rw[W_id (by omega) (by omega)]
  exact this
end Go.Hn
/- Network: Groups' first loop: a round, all rounds. -/
namespace Go.Hn
open Go.Hx Go.Hg Go.Proofs
abbrev clo (k:Nat):PV:=.fn (.func k) [.agg [.mp 0]] []
abbrev nilS:PV:=.val (.slice none 0 0)
abbrev S1 (f0:Bool) (ws0:List PV) (f:Bool) (ws:List PV) (len j:Int):List PV:=tm 107 [(0,.Ac f0 44 ws0),(2,nilS),(4,clo 58),(5,clo 59),(24,.Ac f 44 ws),(25,iv len),(26,iv j)]
noncomputable def rdU (S:List PV) (H:List Row):Option (PX × List PV × List Row):=runG Tryz.prog N4 80 18 (Ao Tryz.f18 4) 2 [0,2,4,5,24,25,26] [0,2,5] (fun _ _=>[0,1]) S H
abbrev fX (e:PV):Int:=ptX (wL e) 0
abbrev fY (e:PV):Int:=ptY (wL e) 0
abbrev lX (e:PV):Int:=ptX (wL e) (lastI (wL e)).toNat
abbrev lY (e:PV):Int:=ptY (wL e) (lastI (wL e)).toNat
def joinE (D:List (PV × PV)) (e:PV):List (PV × PV):=
 mput (clD (clD D (fX e) (fY e) (wLv e)) (lX e) (lY e) (wLv e)) (Ai (clX D (fX e) (fY e) (wLv e)) (clY D (fX e) (fY e) (wLv e)) (clL D (fX e) (fY e) (wLv e)))
  (Ai (clX (clD D (fX e) (fY e) (wLv e)) (lX e) (lY e) (wLv e)) (clY (clD D (fX e) (fY e) (wLv e)) (lX e) (lY e) (wLv e)) (clL (clD D (fX e) (fY e) (wLv e)) (lX e) (lY e) (wLv e)))
def okJ (D:List (PV × PV)) (e:PV):Bool:=stB (wL e)&&(clB D (fX e) (fY e) (wLv e)&&clB (clD D (fX e) (fY e) (wLv e)) (lX e) (lY e) (wLv e))
theorem qU (D:List (PV × PV)) (f0:Bool) (ws0:List PV) (f:Bool) (ws:List PV) (len j:Int):rdU (S1 f0 ws0 f ws len j) [mrow D,sboxR] =
 bif decide (j<len) then bif decide (0<=j)&&decide (j<(ws.length:Int)) then bif stB (wL (ws.getD j.toNat .any)) then
  bif clB D (fX (ws.getD j.toNat .any)) (fY (ws.getD j.toNat .any)) (wLv (ws.getD j.toNat .any))&&clB (clD D (fX (ws.getD j.toNat .any)) (fY (ws.getD j.toNat .any)) (wLv (ws.getD j.toNat .any))) (lX (ws.getD j.toNat .any)) (lY (ws.getD j.toNat .any)) (wLv (ws.getD j.toNat .any)) then
   some (.normal,S1 f0 ws0 f ws len (W (j+1)),[mrow (joinE D (ws.getD j.toNat .any)),sboxR]) else none else none else none
 else some (.exit 0,tm 107 [(0,.Ac f0 44 ws0),(2,nilS),(5,clo 59)],[mrow D,sboxR]):=by kernel_rfl
def un1:List PV->List (PV × PV)->Option (List (PV × PV))
 | [],D=>some D
 | e::es,D=>bif okJ D e then un1 es (joinE D e) else none
theorem all1 {f0:Bool} {ws0:List PV} {f:Bool} {ws:List PV} (hw:(ws.length:Int)<=1000000) (hsub:SubCode Tryz.prog 18 (Ao Tryz.f18 4)) {D':List (PV × PV)}:∀ (k j:Nat) (D:List (PV × PV)),j+k=ws.length->un1 (ws.drop j) D=some D' ->
  RndsG Tryz.prog (Ao Tryz.f18 4) 2 (.exit 0) (tm 107 [(0,.Ac f0 44 ws0),(2,nilS),(5,clo 59)]) [mrow D',sboxR] (S1 f0 ws0 f ws (ws.length:Int) (j:Int)) [mrow D,sboxR]
 | 0,j,D,hk,h=>by
  rw[List.drop_of_length_le (by omega)] at h
  cases h
  exact runG_stop ok4 hsub (by simp) (Eq.trans (qU D' f0 ws0 f ws (ws.length:Int) (j:Int)) (by rw[decide_eq_false (by omega)]; rfl))
 | k+1,j,D,hk,h=>by
  have hj:j<ws.length:=by omega
  rw[List.drop_eq_getElem_cons hj] at h
  unfold un1 at h
  cases ho:okJ D ws[j] with
  | false=>rw[ho] at h; cases h
  | true =>
   rw[ho,cond_true] at h
   have hg:ws.getD (j:Int).toNat .any=ws[j]:=by rw[List.getD_eq_getElem?_getD,Int.toNat_natCast,List.getElem?_eq_getElem hj]; rfl
   have h1:rdU (S1 f0 ws0 f ws (ws.length:Int) (j:Int)) [mrow D,sboxR]=some (.normal,S1 f0 ws0 f ws (ws.length:Int) (W (j+1)),[mrow (joinE D ws[j]),sboxR]):=by
    unfold okJ at ho
    rw[Bool.and_eq_true] at ho
    rw[qU,hg,decide_eq_true (by omega),decide_eq_true (by omega),ho.1,ho.2]; rfl
   refine runG_go ok4 hsub h1 ?_
   have:=all1 (f0:=f0) (ws0:=ws0) (f:=f) hw hsub k (j+1) (joinE D ws[j]) (by omega) h
   rw[W_id (by omega) (by omega)]
   exact this
end Go.Hn
/- Network: Groups' two first loops as contracts. -/
namespace Go.Hn
open Go.Hx Go.Hg Go.Proofs
theorem lookup_ids (f:Nat->PV):∀ (ids:List Nat) (x:Nat),(ids.map fun i=>(i,f i)).lookup x=if x ∈ ids then some (f x) else none
 | [],x=>rfl
 | i::ids,x=>by
  rw[List.map_cons,List.lookup_cons]
  by_cases h:x=i
  ·subst h; simp
  ·rw[show (x==i)=false by simpa using h]
   show (ids.map fun i=>(i,f i)).lookup x=_
   rw[lookup_ids f ids x]
   simp[h]
def isAny:PV->Bool | .any=>true | _=>false
def tmB (n:Nat) (ids:List Nat) (S:List PV):Bool:=Nat.beq S.length n&&S.zipIdx.all fun x=>ids.contains x.2||isAny x.1
theorem tmB_eq {n:Nat} {ids:List Nat} {S:List PV} (h:tmB n ids S=true):S=tm n (ids.map fun i=>(i,S.getD i .any)):=by
 simp only[tmB,Bool.and_eq_true] at h
 have hl:=Nat.eq_of_beq_eq_true h.1
 unfold tm
 apply List.ext_getElem?
 intro i
 rw[List.getElem?_map]
 by_cases hi:i<n
 ·have hs:S[i]? = some S[i]:=List.getElem?_eq_getElem (by omega)
  rw[List.getElem?_range hi,Option.map_some,lookup_ids,hs]
  by_cases hm:i ∈ ids
  ·rw[if_pos hm,Option.getD_some,List.getD_eq_getElem?_getD,hs]; rfl
  ·rw[if_neg hm]
   have:=List.all_eq_true.1 h.2 (S[i],i) (by rw[List.mem_zipIdx_iff_getElem?]; exact hs)
   simp only[Bool.or_eq_true,List.contains_eq_mem,decide_eq_true_eq] at this
   rcases this with this | this
   ·exact absurd this hm
   ·unfold isAny at this
    split at this
    ·rename_i e; rw[e]; rfl
    ·cases this
 ·rw[List.getElem?_eq_none (by omega),List.getElem?_eq_none (by simpa using hi)]; rfl
def rowS:Row->Bool
 | ⟨[.agg [.mp 0]],1,98,false,true,false,none,false⟩=>true
 | _=>false
theorem rowS_eq {r : Row} (h : rowS r = true) : r = sboxR := by unfold rowS at h; split at h; · rfl
                                                                · cases h
def rowA:Row->Option (List (PV × PV))
 | ⟨[],0,0,true,false,false,some ⟨⟨0,[],⟨[]⟩,.skip,.skip⟩,.map 39 3 D⟩,false⟩=>some D
 | _=>none
theorem rowA_some {r:Row} {D:List (PV × PV)} (h:rowA r=some D):r=atR D:=by
 unfold rowA at h
 split at h
 ·cases h; rfl
 ·cases h
def c1:Nat->List PV->List Row->Option (DT (PX × List PV × List Row))
 | 0,S,[r0,r1] =>
  match S.getD 0 .any,S.getD 2 .any,S.getD 4 .any,S.getD 5 .any,S.getD 24 .any,S.getD 25 .any,S.getD 26 .any,rowD r0,rowS r1,tmB 107 [0,2,4,5,24,25,26] S with
  | .Ac f0 44 ws0,.val (.slice none 0 0),.fn (.func 58) [.agg [.mp 0]] [],.fn (.func 59) [.agg [.mp 0]] [],.Ac _ 44 ws,.val (.int .i64 len),.val (.int .i64 0),some D,true,true =>
   some (.br (decide (len=(ws.length:Int))&&decide ((ws.length:Int)<=1000000)&&(un1 ws D).isSome)
    (.leaf (.exit 0,tm 107 [(0,.Ac f0 44 ws0),(2,nilS),(5,clo 59)],[mrow ((un1 ws D).getD []),sboxR])) .no)
  | _,_,_,_,_,_,_,_,_,_=>none
 | _,_,_=>none
theorem o1 (hs:SubCode Tryz.prog 18 (.loop (Ao Tryz.f18 4))) (ro:Nat) (S:List PV) (H:List Row) (d:DT (PX × List PV × List Row)) (x:PX) (S':List PV) (H':List Row) (h:c1 ro S H=some d) (hr:d.run=some (x,S',H')):WpTo Tryz.prog (.loop (Ao Tryz.f18 4)) ro S H x S' H':=by
 unfold c1 at h
 split at h
 ·rename_i S r0 r1
  split at h
  ·rename_i f0 ws0 f ws len D e0 e2 e4 e5 e24 e25 e26 hD hS ht
   cases h
   obtain ⟨h1,h2⟩:=dt_br hr
   cases h2
   simp only[Bool.and_eq_true,decide_eq_true_eq] at h1
   obtain ⟨⟨rfl,h3⟩,h4⟩:=h1
   obtain ⟨D',hD'⟩:=Option.isSome_iff_exists.1 h4
   rw[hD',rowD_some hD,rowS_eq hS,tmB_eq ht]
   simp only[List.map_cons,List.map_nil,e0,e2,e4,e5,e24,e25,e26]
   exact loopG (by simp) (all1 (f0:=f0) (ws0:=ws0) (f:=f) h3 (hs.sub (.loop .here)) ws.length 0 D (by omega) hD')
  ·cases h
 ·cases h
abbrev R2:=List (PV × PV) × List S3 × List (List PV × Nat)
def spn (m:Nat) (G:List (List PV × Nat)):List (List PV × Nat):=(List.range m).map fun q=>((G.getD q ([],0)).1,(G.getD q ([],0)).2)
theorem spn_eq (G:List (List PV × Nat)):spn G.length G=G:=by
 unfold spn
 apply List.ext_getElem?
 intro i
 rw[List.getElem?_map]
 by_cases hi:i<G.length
 ·rw[List.getElem?_range hi,Option.map_some,List.getD_eq_getElem?_getD,List.getElem?_eq_getElem hi]; rfl
 ·rw[List.getElem?_eq_none (by simpa using hi),List.getElem?_eq_none (by simpa using hi)]; rfl
def leaf2 (R:R2) (m:Nat):PX × List PV × List Row:=(.exit 2,tm 107 [(2,grpV (spn m R.2.2))],H2 R.1 (apv R.2.1) (spn m R.2.2))
def pick2 (R:R2):List Nat->DT (PX × List PV × List Row)
 | []=>.no
 | m::ms=>.br (Nat.beq R.2.2.length m) (.leaf (leaf2 R m)) (pick2 R ms)
theorem pick2_run {R:R2} {r:PX × List PV × List Row}:∀ {ms:List Nat},(pick2 R ms).run=some r->r=(.exit 2,tm 107 [(2,grpV R.2.2)],H2 R.1 (apv R.2.1) R.2.2)
 | [],h=>by cases h
 | m::ms,h=>by
  unfold pick2 at h
  cases hb:Nat.beq R.2.2.length m with
  | true =>
   rw[hb] at h
   have hm:=Nat.eq_of_beq_eq_true hb
   subst hm
   cases h
   unfold leaf2
   rw[spn_eq]
  | false=>rw[hb] at h; exact pick2_run (ms:=ms) h
theorem dt_br2 {α:Type} {b:Bool} {x:DT α} {r:α} (h:(DT.br b x .no).run=some r):b=true/\x.run=some r:=by
 cases b
 ·cases h
 ·exact ⟨rfl,h⟩
def c2:Nat->List PV->List Row->Option (DT (PX × List PV × List Row))
 | 0,S,[r0,r1,r2] =>
  match S.getD 2 .any,S.getD 5 .any,S.getD 9 .any,S.getD 45 .any,S.getD 46 .any,S.getD 47 .any,rowD r0,rowS r1,rowA r2,tmB 107 [2,5,9,45,46,47] S with
  | .val (.slice none 0 0),.fn (.func 59) [.agg [.mp 0]] [],.mp 2,.Ac _ 44 ws,.val (.int .i64 len),.val (.int .i64 0),some D,true,some [],true =>
   some (.br (decide (len=(ws.length:Int))&&decide (ws.length<=6)&&(grp2 ws D [] []).isSome) (pick2 ((grp2 ws D [] []).getD ([],[],[])) [0,1,2,3,4,5,6]) .no)
  | _,_,_,_,_,_,_,_,_,_=>none
 | _,_,_=>none
theorem o2 (hs:SubCode Tryz.prog 18 (.loop (Ao Tryz.f18 12))) (ro:Nat) (S:List PV) (H:List Row) (d:DT (PX × List PV × List Row)) (x:PX) (S':List PV) (H':List Row) (h:c2 ro S H=some d) (hr:d.run=some (x,S',H')):WpTo Tryz.prog (.loop (Ao Tryz.f18 12)) ro S H x S' H':=by
 unfold c2 at h
 split at h
 ·rename_i S r0 r1 r2
  split at h
  ·rename_i f ws len D e2 e5 e9 e45 e46 e47 hD hS hA ht
   cases h
   obtain ⟨h1,h2⟩:=dt_br2 hr
   simp only[Bool.and_eq_true,decide_eq_true_eq] at h1
   obtain ⟨⟨rfl,h3⟩,h4⟩:=h1
   obtain ⟨R,hR⟩:=Option.isSome_iff_exists.1 h4
   rw[hR] at h2
   have h5:=pick2_run h2
   cases h5
   rw[rowD_some hD,rowS_eq hS,rowA_some hA,tmB_eq ht]
   simp only[List.map_cons,List.map_nil,e2,e5,e9,e45,e46,e47]
   exact loopG (by simp) (all2 (f:=f) h3 (hs.sub (.loop .here)) ws.length 0 D [] [] (by omega) rfl (Nat.zero_le _) hR)
  ·cases h
 ·cases h
noncomputable def N5:Ad:=(N4.addL2 18 4 [0,2,4,5,24,25,26] c1).addL2 18 12 [2,5,9,45,46,47] c2
theorem ok5:Ab Tryz.prog N5.env:=
 Ab.addL2 (Ab.addL2 ok4 Tryz.func18 (show Tryz.f18.body=some (bod Tryz.f18) by kernel_rfl) (show (loops (bod Tryz.f18)).filter (fun b=>rid b==4)=[Ao Tryz.f18 4] by kernel_rfl) o1)
  Tryz.func18 (show Tryz.f18.body=some (bod Tryz.f18) by kernel_rfl) (show (loops (bod Tryz.f18)).filter (fun b=>rid b==12)=[Ao Tryz.f18 12] by kernel_rfl) o2
end Go.Hn
/- Network: the sort of ints, laid at this program: slices.Sort has the contract that the library proves (printed by genlay.py). -/
namespace Go.Hn
open Go.Hx Go.Hg Go.Proofs Go.Shelf
def layR:Go.Shelf.Ren:=⟨fun | 5=>61 | 8=>105 | 7=>104 | 19=>140 | 20=>141 | 10=>131 | 11=>132 | 12=>133 | 13=>134 | 14=>135 | 15=>136 | 16=>137 | 17=>138 | 18=>139 | 30=>161 | 31=>162 | 32=>163 | 33=>164 | 34=>165 | 35=>150 | 40=>185 | n=>n,fun | 23=>22 | 25=>3 | 3=>3 | 32=>152 | 22=>22 | 0=>0 | 44=>179 | 46=>181 | 4=>4 | 36=>172 | 35=>171 | 41=>104 | 5=>5 | 9=>9 | 53=>192 | 57=>196 | 63=>212 | 64=>213 | n=>n,fun | n=>n⟩
theorem layS:Go.Proofs.SlLaysM.n5 Tryz.prog layR:={
 mixed:=by kernel_rfl,
 f5:=⟨Tryz.f61.name,by decide,Tryz.func61.trans (congrArg some (by kernel_rfl))⟩,
 f7:=⟨Tryz.f104.name,by decide,Tryz.func104.trans (congrArg some (by kernel_rfl))⟩,
 f8:=Tryz.func105.trans (congrArg some (by kernel_rfl)),
 f10:=⟨Tryz.f131.name,by decide,Tryz.func131.trans (congrArg some (by kernel_rfl))⟩,
 f11:=⟨Tryz.f132.name,by decide,Tryz.func132.trans (congrArg some (by kernel_rfl))⟩,
 f12:=⟨Tryz.f133.name,by decide,Tryz.func133.trans (congrArg some (by kernel_rfl))⟩,
 f13:=⟨Tryz.f134.name,by decide,Tryz.func134.trans (congrArg some (by kernel_rfl))⟩,
 f14:=⟨Tryz.f135.name,by decide,Tryz.func135.trans (congrArg some (by kernel_rfl))⟩,
 f15:=⟨Tryz.f136.name,by decide,Tryz.func136.trans (congrArg some (by kernel_rfl))⟩,
 f16:=⟨Tryz.f137.name,by decide,Tryz.func137.trans (congrArg some (by kernel_rfl))⟩,
 f17:=⟨Tryz.f138.name,by decide,Tryz.func138.trans (congrArg some (by kernel_rfl))⟩,
 f18:=⟨Tryz.f139.name,by decide,Tryz.func139.trans (congrArg some (by kernel_rfl))⟩,
 f19:=Tryz.func140.trans (congrArg some (by kernel_rfl)),
 f20:=Tryz.func141.trans (congrArg some (by kernel_rfl)),
 f30:=⟨Tryz.f161.name,by decide,Tryz.func161.trans (congrArg some (by kernel_rfl))⟩,
 f31:=Tryz.func162.trans (congrArg some (by kernel_rfl)),
 f32:=Tryz.func163.trans (congrArg some (by kernel_rfl)),
 f33:=⟨Tryz.f164.name,by decide,Tryz.func164.trans (congrArg some (by kernel_rfl))⟩,
 f34:=⟨Tryz.f165.name,by decide,Tryz.func165.trans (congrArg some (by kernel_rfl))⟩,
 f35:=⟨Tryz.f150.name,by decide,Tryz.func150.trans (congrArg some (by kernel_rfl))⟩,
 f40:=⟨Tryz.f185.name,by decide,Tryz.func185.trans (congrArg some (by kernel_rfl))⟩,
 t0:=Tryz.underlying0,
 a0:=Tryz.isAgg0,
 z0:=Tryz.sizeOf0,
 v0:=Tryz.zeroValue0,
 t3:=Tryz.underlying3,
 a3:=Tryz.isAgg3,
 z3:=Tryz.sizeOf3,
 v3:=Tryz.zeroValue3,
 t4:=Tryz.underlying4,
 a4:=Tryz.isAgg4,
 z4:=Tryz.sizeOf4,
 v4:=Tryz.zeroValue4,
 t5:=Tryz.underlying5,
 a5:=Tryz.isAgg5,
 z5:=Tryz.sizeOf5,
 v5:=Tryz.zeroValue5,
 t9:=Tryz.underlying9,
 a9:=Tryz.isAgg9,
 z9:=Tryz.sizeOf9,
 v9:=Tryz.zeroValue9,
 t22:=Tryz.underlying22,
 a22:=Tryz.isAgg22,
 z22:=Tryz.sizeOf22,
 v22:=Tryz.zeroValue22,
 t23:=Tryz.underlying22,
 a23:=Tryz.isAgg22,
 z23:=Tryz.sizeOf22,
 v23:=Tryz.zeroValue22,
 t25:=Tryz.underlying3,
 a25:=Tryz.isAgg3,
 z25:=Tryz.sizeOf3,
 v25:=Tryz.zeroValue3,
 t32:=Tryz.underlying152,
 a32:=Tryz.isAgg152,
 z32:=Tryz.sizeOf152,
 v32:=Tryz.zeroValue152,
 t35:=Tryz.underlying171,
 a35:=Tryz.isAgg171,
 z35:=Tryz.sizeOf171,
 v35:=Tryz.zeroValue171,
 t36:=Tryz.underlying172,
 a36:=Tryz.isAgg172,
 z36:=Tryz.sizeOf172,
 v36:=Tryz.zeroValue172,
 t41:=Tryz.underlying104,
 a41:=Tryz.isAgg104,
 z41:=Tryz.sizeOf104,
 v41:=Tryz.zeroValue104,
 t44:=Tryz.underlying179,
 a44:=Tryz.isAgg179,
 z44:=Tryz.sizeOf179,
 v44:=Tryz.zeroValue179,
 t46:=Tryz.underlying181,
 a46:=Tryz.isAgg181,
 z46:=Tryz.sizeOf181,
 v46:=Tryz.zeroValue181,
 t53:=Tryz.underlying192,
 a53:=Tryz.isAgg192,
 z53:=Tryz.sizeOf192,
 v53:=Tryz.zeroValue192,
 t57:=Tryz.underlying196,
 a57:=Tryz.isAgg196,
 z57:=Tryz.sizeOf196,
 v57:=Tryz.zeroValue196,
 t63:=Tryz.underlying212,
 a63:=Tryz.isAgg212,
 z63:=Tryz.sizeOf212,
 v63:=Tryz.zeroValue212,
 t64:=Tryz.underlying213,
 a64:=Tryz.isAgg213,
 z64:=Tryz.sizeOf213,
 v64:=Tryz.zeroValue213 }
theorem entS:Hx.Enters Tryz.prog (layR.f 5):=by
 have h:=layS.f5.enters rfl
 intro Vs w; exact h Vs w
theorem kindsInt:kinds Tryz.prog 3=[.int .i64]:=by kernel_rfl
theorem cellsInt:Tryz.prog.cellsOf 3=1:=by kernel_rfl
end Go.Hn
/- Network: slices.Compare on lists of ints, as a contract by value. -/
namespace Go.Hn
open Go.Hx Go.Hg Go.Proofs
def cmpI (a b:Int):Int:=if a<b then -1 else if a > b then 1 else 0
theorem qCI (a b:Int):Ah Tryz.prog N5 20 107 [iv a,iv b]=bif a != a then (bif b != b then some (iv 0) else some (iv (-1))) else bif b != b then some (iv 1) else bif decide (a<b) then some (iv (-1)) else bif decide (a > b) then some (iv 1) else some (iv 0):=by kernel_rfl
def cCI:List PV->Option PV | [.val (.int .i64 a),.val (.int .i64 b)]=>some (iv (cmpI a b)) | _=>none
theorem oCI (args:List PV) (r:PV) (h:cCI args=some r):Hx.Enters Tryz.prog 107/\Ak Tryz.prog 107 args r:=by
 unfold cCI at h; split at h
 ·rename_i a b; cases h
  refine Aa ok5 (n:=20) ?_
  rw[qCI,bne_self_eq_false,bne_self_eq_false]
  unfold cmpI
  by_cases h1:a<b
  ·rw[decide_eq_true h1,if_pos h1]; rfl
  ·rw[decide_eq_false h1,if_neg h1]
   by_cases h2:a > b
   ·rw[decide_eq_true h2,if_pos h2]; rfl
   ·rw[decide_eq_false h2,if_neg h2]; rfl
 ·cases h
noncomputable def N6:Ad:=N5.addO 107 cCI
theorem okn6:Ab Tryz.prog N6.env:=ok5.addO oCI
abbrev nI (es:List PV) (i:Int):Int:=((es.getD i.toNat .any).cellAt 0).getI
def inr (es:List PV) (i:Int):Bool:=decide (0<=i)&&decide (i<(es.length:Int))
theorem Am {es:List PV} {i:Int} (h1:0<=i) (h2:i<(es.length:Int)):inr es i=true:=by unfold inr; simp; omega
def shC:Hx.S1:=⟨36,[(0,.Ac 3),(1,.Ac 3),(9,.Ac 3),(10,I64),(11,I64)],[]⟩
abbrev lC (f:Bool) (es:List PV) (g:Bool) (bs:List PV) (f':Bool) (es':List PV) (n i:Int):LS:=([.l f es,.l g bs,.l f' es',.i n,.i i],[])
abbrev xC (f:Bool) (es:List PV) (g:Bool) (bs:List PV):PX × List PV × List Row:=(.exit 0,tm 36 [(0,.Ac f 3 es),(1,.Ac g 3 bs)],[])
abbrev rC (f:Bool) (es:List PV) (g:Bool) (bs:List PV) (c:Int):PX × List PV × List Row:=(.ret,tm 36 [(0,.Ac f 3 es),(1,.Ac g 3 bs),(4,iv c)],[])
theorem qC (f:Bool) (es:List PV) (g:Bool) (bs:List PV) (f':Bool) (es':List PV) (n i:Int):
 Al Tryz.prog N6 60 63 (Ao Tryz.f63 2) [0,1,9,10,11] [0,1,4] (shC.put (lC f es g bs f' es' n i)).1 (shC.put (lC f es g bs f' es' n i)).2 =
 bif decide (i<n) then bif inr es' i then bif decide (i ≥ (bs.length:Int)) then some (rC f es g bs 1) else bif inr bs i then
  bif cmpI (nI es' i) (nI bs i) != 0 then some (rC f es g bs (cmpI (nI es' i) (nI bs i))) else some (.normal,shC.put (lC f es g bs f' es' n (W (i+1)))) else none else none
 else some (xC f es g bs):=by kernel_rfl
def cmE (es bs:List PV):Int->Nat->Int
 | _,0=>0
 | i,m+1=>bif decide (i ≥ (bs.length:Int)) then 1 else bif cmpI (nI es i) (nI bs i) != 0 then cmpI (nI es i) (nI bs i) else cmE es bs (i+1) m
abbrev An (es:List PV):Bool:=decide (es.length<=1000000)
def pC:LS->Bool
 | ([.l _ _,.l _ _,.l _ es',.i n,.i i],[])=>decide (n=(es'.length:Int))&&decide (0<=i)&&An es'
 | _=>false
def fC:LS->DT (PX × List PV × List Row)
 | ([.l f es,.l g bs,.l _ es',.i n,.i i],[])=>.br (cmE es' bs i (n-i).toNat==0) (.leaf (xC f es g bs)) (.leaf (rC f es g bs (cmE es' bs i (n-i).toNat)))
 | _=>.no
def mC:LS->Nat
 | ([.l _ _,.l _ _,.l _ _,.i n,.i i],[])=>(n-i).toNat
 | _=>0
theorem run_br2 {α:Type} {b:Bool} {a c r:α} (h:(DT.br b (.leaf a) (.leaf c)).run=some r):r=bif b then a else c:=by
 cases b <;> exact (Option.some.inj h).symm
theorem sC:∀ s r,pC s=true->(fC s).run=some r->r.1 ≠ .normal/\(Al Tryz.prog N6 60 63 (Ao Tryz.f63 2) [0,1,9,10,11] [0,1,4] (shC.put s).1 (shC.put s).2=some r \/
   ∃ s',Al Tryz.prog N6 60 63 (Ao Tryz.f63 2) [0,1,9,10,11] [0,1,4] (shC.put s).1 (shC.put s).2=some (.normal,shC.put s')/\pC s'=true/\mC s'<mC s/\(fC s').run=some r):=by
 intro s r hp hr
 unfold pC at hp; split at hp
 ·rename_i f es g bs f' es' n i
  simp only[Bool.and_eq_true,decide_eq_true_eq] at hp
  obtain ⟨⟨rfl,h2⟩,h3⟩:=hp
  have hr':=run_br2 hr
  refine ⟨by rw[hr']; cases (cmE es' bs i ((es'.length:Int)-i).toNat==0) <;> simp,?_⟩
  rw[show shC.put ([.l f es,.l g bs,.l f' es',.i (es'.length:Int),.i i],[])=shC.put (lC f es g bs f' es' (es'.length:Int) i) from rfl,qC]
  by_cases hi:i<(es'.length:Int)
  ·rw[decide_eq_true hi,cond_true,Am h2 hi,cond_true]
   obtain ⟨m,hm⟩:∃ m,((es'.length:Int)-i).toNat=m+1:=⟨((es'.length:Int)-i).toNat-1,by omega⟩
   rw[hm] at hr'
   simp only[cmE] at hr'
   by_cases hb:i ≥ (bs.length:Int)
   ·rw[decide_eq_true hb] at hr' ⊢
    exact .inl (by rw[hr']; rfl)
   ·rw[decide_eq_false hb] at hr' ⊢
    rw[cond_false,Am h2 (by omega),cond_true]
    cases hc:cmpI (nI es' i) (nI bs i) != 0 with
    | true =>
     rw[hc] at hr'
     simp only[cond_false,cond_true] at hr'
     rw[show (cmpI (nI es' i) (nI bs i)==0)=false by rw[bne] at hc; simpa using hc] at hr'
     exact .inl (by rw[hr']; rfl)
    | false =>
     rw[hc] at hr'
     refine .inr ⟨lC f es g bs f' es' (es'.length:Int) (i+1),by rw[W_id (by omega) (by omega)]; rfl,by simp[pC]; omega,by simp only[mC]; omega,?_⟩
     rw[hr']
     simp only[fC,cond_false]
     rw[show ((es'.length:Int)-(i+1)).toNat=m by omega]
     cases (cmE es' bs (i+1) m==0) <;> rfl
  ·rw[decide_eq_false hi]
   rw[show ((es'.length:Int)-i).toNat=0 by omega] at hr'
   exact .inl (by rw[hr']; rfl)
 ·cases hp
noncomputable def N7:Ad:=N6.addW 63 2 [0,1,9,10,11] [] shC pC fC
theorem okn7:Ab Tryz.prog N7.env:=
 okn6.addW (n:=60) Tryz.func63 (show Tryz.f63.body=some (bod Tryz.f63) by kernel_rfl) (show (loops (bod Tryz.f63)).filter (fun b=>rid b==2)=[Ao Tryz.f63 2] by kernel_rfl) [0,1,9,10,11] [0,1,4] [] shC mC sC
def cmpL (es bs:List PV):Int:=bif cmE es bs 0 es.length==0 then bif decide (es.length<bs.length) then -1 else 0 else cmE es bs 0 es.length
theorem qCmp (f:Bool) (es:List PV) (g:Bool) (bs:List PV):Ah Tryz.prog N7 60 63 [.Ac f 3 es,.Ac g 3 bs] =
 bif decide ((es.length:Int)=(es.length:Int))&&decide ((0:Int)<=0)&&An es then bif cmE es bs 0 ((es.length:Int)-0).toNat==0 then bif decide ((es.length:Int)<(bs.length:Int)) then some (iv (-1)) else some (iv 0) else some (iv (cmE es bs 0 ((es.length:Int)-0).toNat)) else none:=by kernel_rfl
theorem qCmp' (f:Bool) (es:List PV) (g:Bool) (bs:List PV) (h:An es=true):Ah Tryz.prog N7 60 63 [.Ac f 3 es,.Ac g 3 bs]=some (iv (cmpL es bs)):=by
 rw[qCmp,h]
 rw[show ((es.length:Int)-0).toNat=es.length by omega]
 unfold cmpL
 rw[show decide ((es.length:Int)<(bs.length:Int))=decide (es.length<bs.length) by rw[decide_eq_decide]; omega]
 simp only[decide_true,Bool.and_true,Int.le_refl,cond_true]
 cases (cmE es bs 0 es.length==0) <;> cases decide (es.length<bs.length) <;> rfl
def cCmp:List PV->Option (DT PV)
 | [.Ac _ 3 es,.Ac _ 3 bs]=>some (.br (An es) (.leaf (iv (cmpL es bs))) .no)
 | _=>none
theorem eCmp:Hx.Enters Tryz.prog 63:=(Aa okn7 (qCmp' true [] true [] rfl)).1
theorem oCmp (args:List PV) (d:DT PV) (r:PV) (h:cCmp args=some d) (hr:d.run=some r):Ak Tryz.prog 63 args r:=by
 unfold cCmp at h; split at h
 ·rename_i f es g bs; cases h; obtain ⟨h1,rfl⟩:=Aq hr; exact (Aa okn7 (qCmp' f es g bs h1)).2
 ·cases h
noncomputable def N8:Ad:=N7.Ag 63 cCmp
theorem okn8:Ab Tryz.prog N8.env:=okn7.Ag eCmp oCmp
end Go.Hn
/- Network: insertion sort of lists of ints: its loops. -/
namespace Go.Hn
open Go.Hx Go.Hg Go.Proofs
def rE (es:List PV) (i:Int):PV:=es.getD (0+i.toNat) .any
def ixR (es:List PV) (n l:Nat) (i:Int) {α:Type} (k:Option α):Option α:=bif (es.length==n)&&true then bif decide (0<=i)&&decide (i<(l:Int)) then k else none else none
def ldR (es:List PV) (n:Nat) {α:Type} (k:Option α):Option α:=bif es.length==n then k else none
theorem ixR_of {es:List PV} {n l:Nat} {i:Int} {α:Type} {k:Option α} (hn:es.length=n) (h1:0<=i) (h2:i<(l:Int)):ixR es n l i k=k:=by
 unfold ixR; rw[hn,beq_self_eq_true,decide_eq_true h1,decide_eq_true h2]; rfl
theorem ldR_of {es:List PV} {n:Nat} {α:Type} {k:Option α} (hn:es.length=n):ldR es n k=k:=by unfold ldR; rw[hn,beq_self_eq_true]; rfl
def eL (e:PV):List PV:=(e.cellAt 0).getL
def elE (e:PV):PV:=.Ac false 3 (eL e)
theorem elE_L (e:PV):eL (elE e)=eL e:=rfl
def cmpP (a b:PV):Int:=cmpL (eL a) (eL b)
def bigN (es:List PV):Bool:=es.all fun e=>An (eL e)
theorem bigN_at {es:List PV} (h:bigN es=true) {i:Int} (h1:0<=i) (h2:i<(es.length:Int)):An (eL (rE es i))=true:=by
 unfold rE
 rw[List.getD_eq_getElem?_getD,List.getElem?_eq_getElem (by omega)]
 exact List.all_eq_true.1 h _ (List.getElem_mem _)
theorem bigN_set {es:List PV} (h:bigN es=true) {e:PV} (he:An (eL e)=true) (i:Nat):bigN (es.set i e)=true:=by
 unfold bigN at *
 rw[List.all_eq_true] at *
 intro x hx
 rcases List.mem_or_eq_of_mem_set hx with h1 | rfl
 ·exact h x h1
 ·exact he
def shN:Hx.S1:=⟨53,[(0,.sl 0),(1,I64),(2,I64),(3,.fn 63 [] []),(8,I64),(9,I64)],[.many 22 1]⟩
abbrev lN (n l:Nat) (a b i j:Int) (nl:Bool) (es:List PV):LS:=([.n n,.n l,.i a,.i b,.i i,.i j],[.l nl es])
noncomputable abbrev xN (n l:Nat) (a b i:Int) (nl:Bool) (es:List PV):PX × List PV × List Row:=
 (.exit 2,tm 53 [(0,.sl 0 n 0 l),(1,iv a),(2,iv b),(3,.fn (.func 63) [] []),(8,iv i)],(shN.put (lN n l a b i 0 nl es)).2)
def stC (es:List PV) (n:Nat) {α:Type} (k:Option α):Option α:=bif (es.length==n)&&true&&true&&true then k else none
def swE1 (es:List PV) (j j1:Int):List PV:=es.set (0+j.toNat) (elE (rE es j1))
def swE (es:List PV) (j j1:Int):List PV:=(swE1 es j j1).set (0+j1.toNat) (elE (rE es j))
theorem qN (n l:Nat) (a b i j:Int) (nl:Bool) (es:List PV):Al Tryz.prog N8 60 142 (Ao Tryz.f142 4) [0,1,2,3,8,9] [0,1,2,3,8] (shN.put (lN n l a b i j nl es)).1 (shN.put (lN n l a b i j nl es)).2 =
 bif decide (j > a) then ixR es n l j (ldR es n (ixR es n l (W (j-1)) (ldR es n (bif An (eL (rE es j)) then
  bif decide (cmpP (rE es j) (rE es (W (j-1)))<0) then
   ixR es n l (W (j-1)) (ldR es n (ixR es n l j (ldR es n (ixR es n l j (stC es n (ixR (swE1 es j (W (j-1))) n l (W (j-1)) (stC (swE1 es j (W (j-1))) n
    (some (.normal,shN.put (lN n l a b i (W (j-1)) nl (swE es j (W (j-1)))))))))))))
  else some (xN n l a b i nl es) else none)))) else some (xN n l a b i nl es):=by kernel_rfl
end Go.Hn
/- Network: insertion sort of lists of ints: its loops as contracts. -/
namespace Go.Hn
open Go.Hx Go.Hg Go.Proofs
def insL (a:Int):List PV->Int->Nat->List PV
 | es,_,0=>es
 | es,j,m+1=>bif decide (cmpP (rE es j) (rE es (j-1))<0) then insL a (swE es j (j-1)) (j-1) m else es
theorem swE_len (es:List PV) (j j1:Int):(swE es j j1).length=es.length:=by unfold swE swE1; simp
theorem swE1_len (es:List PV) (j j1:Int):(swE1 es j j1).length=es.length:=by unfold swE1; simp
theorem insL_len (a:Int):∀ (m:Nat) (es:List PV) (j:Int),(insL a es j m).length=es.length
 | 0,_,_=>rfl
 | m+1,es,j=>by
  rw[insL]
  cases decide (cmpP (rE es j) (rE es (j-1))<0) with
  | true=>simp only[cond_true]; rw[insL_len a m,swE_len]
  | false=>rfl
theorem bigN_sw {es:List PV} (h:bigN es=true) {j j1:Int} (h1:0<=j) (h2:j<(es.length:Int)) (h3:0<=j1) (h4:j1<(es.length:Int)):bigN (swE es j j1)=true:=by
 unfold swE swE1
 refine bigN_set (bigN_set h ?_ _) ?_ _
 ·rw[elE_L]; exact bigN_at h h3 h4
 ·rw[elE_L]; exact bigN_at h h1 h2
theorem insL_big (a:Int):∀ (m:Nat) (es:List PV) (j:Int),bigN es=true->(m:Int)<=j->j<(es.length:Int)->bigN (insL a es j m)=true
 | 0,_,_,h,_,_=>h
 | m+1,es,j,h,h1,h2=>by
  rw[insL]
  cases decide (cmpP (rE es j) (rE es (j-1))<0) with
  | true=>simp only[cond_true]; exact insL_big a m _ _ (bigN_sw h (by omega) h2 (by omega) (by omega)) (by omega) (by rw[swE_len]; omega)
  | false=>exact h
def pN:LS->Bool
 | ([.n n,.n l,.i a,.i _,.i _,.i j],[.l _ es])=>decide (n=es.length)&&decide (l<=es.length)&&decide (0<=a)&&decide (a<=j)&&decide (j<(l:Int))&&decide (es.length<=1000)&&bigN es
 | _=>false
noncomputable def fN:LS->DT (PX × List PV × List Row)
 | ([.n n,.n l,.i a,.i b,.i i,.i j],[.l nl es])=>.leaf (xN n l a b i nl (insL a es j (j-a).toNat))
 | _=>.no
def mN:LS->Nat
 | ([.n _,.n _,.i a,.i _,.i _,.i j],[.l _ _])=>(j-a).toNat
 | _=>0
theorem sN:∀ s r,pN s=true->(fN s).run=some r->r.1 ≠ .normal/\(Al Tryz.prog N8 60 142 (Ao Tryz.f142 4) [0,1,2,3,8,9] [0,1,2,3,8] (shN.put s).1 (shN.put s).2=some r \/
   ∃ s',Al Tryz.prog N8 60 142 (Ao Tryz.f142 4) [0,1,2,3,8,9] [0,1,2,3,8] (shN.put s).1 (shN.put s).2=some (.normal,shN.put s')/\pN s'=true/\mN s'<mN s/\(fN s').run=some r):=by
 intro t r hp hr
 unfold pN at hp; split at hp
 ·rename_i n l a b i j nl es
  simp only[Bool.and_eq_true,decide_eq_true_eq] at hp
  obtain ⟨⟨⟨⟨⟨⟨rfl,h2⟩,h3⟩,h4⟩,h5⟩,h6⟩,h7⟩:=hp
  have hr':=(Option.some.inj hr).symm
  refine ⟨by rw[hr']; simp,?_⟩
  rw[show shN.put ([.n es.length,.n l,.i a,.i b,.i i,.i j],[.l nl es])=shN.put (lN es.length l a b i j nl es) from rfl,qN]
  by_cases hj:j > a
  ·rw[decide_eq_true hj,cond_true,W_id (n:=j-1) (by omega) (by omega)]
   have i1:∀ {α:Type} (k:Option α),ixR es es.length l j k=k:=fun k=>ixR_of rfl (by omega) h5
   have i2:∀ {α:Type} (k:Option α),ixR es es.length l (j-1) k=k:=fun k=>ixR_of rfl (by omega) (by omega)
   have i3:∀ {α:Type} (k:Option α),ixR (swE1 es j (j-1)) es.length l (j-1) k=k:=fun k=>ixR_of (swE1_len _ _ _) (by omega) (by omega)
   have i4:∀ {α:Type} (k:Option α),ldR es es.length k=k:=fun k=>ldR_of rfl
   have i5:∀ {α:Type} (k:Option α),stC es es.length k=k:=fun k=>by unfold stC; rw[beq_self_eq_true]; rfl
   have i6:∀ {α:Type} (k:Option α),stC (swE1 es j (j-1)) es.length k=k:=fun k=>by unfold stC; rw[swE1_len,beq_self_eq_true]; rfl
   simp only[i1,i2,i3,i4,i5,i6]
   rw[bigN_at h7 (by omega) (by omega)]
   obtain ⟨m,hm⟩:∃ m,(j-a).toNat=m+1:=⟨(j-a).toNat-1,by omega⟩
   have hm2:(j-1-a).toNat=m:=by omega
   rw[hm] at hr'
   simp only[insL] at hr'
   cases hc:decide (cmpP (rE es j) (rE es (j-1))<0) with
   | false=>rw[hc] at hr'; exact .inl (by rw[hr']; rfl)
   | true =>
    rw[hc] at hr'
    refine .inr ⟨lN es.length l a b i (j-1) nl (swE es j (j-1)),rfl,by
     simp only[pN,Bool.and_eq_true,decide_eq_true_eq,swE_len]; exact ⟨⟨⟨⟨⟨⟨trivial,h2⟩,h3⟩,by omega⟩,by omega⟩,h6⟩,bigN_sw h7 (by omega) (by omega) (by omega) (by omega)⟩,by simp only[mN]; omega,?_⟩
    rw[hr']; simp only[fN,hm2,cond_true]; rfl
  ·rw[decide_eq_false hj]
   rw[show (j-a).toNat=0 by omega] at hr'
   exact .inl (by rw[hr']; rfl)
 ·cases hp
noncomputable def N9:Ad:=N8.addW 142 4 [0,1,2,3,8,9] [] shN pN fN
theorem okn9:Ab Tryz.prog N9.env:=
 okn8.addW (n:=60) Tryz.func142 (show Tryz.f142.body=some (bod Tryz.f142) by kernel_rfl) (show (loops (bod Tryz.f142)).filter (fun b=>rid b==4)=[Ao Tryz.f142 4] by kernel_rfl) [0,1,2,3,8,9] [0,1,2,3,8] [] shN mN sN
def shO:Hx.S1:=⟨53,[(0,.sl 0),(1,I64),(2,I64),(3,.fn 63 [] []),(8,I64)],[.many 22 1]⟩
abbrev lO (n l:Nat) (a b i:Int) (nl:Bool) (es:List PV):LS:=([.n n,.n l,.i a,.i b,.i i],[.l nl es])
noncomputable abbrev xO (nl:Bool) (es:List PV):PX × List PV × List Row:=(.exit 0,tm 53 [],(shO.put (lO 0 0 0 0 0 nl es)).2)
theorem qO (n l:Nat) (a b i:Int) (nl:Bool) (es:List PV):Al Tryz.prog N9 60 142 (Ao Tryz.f142 1) [0,1,2,3,8] [] (shO.put (lO n l a b i nl es)).1 (shO.put (lO n l a b i nl es)).2 =
 bif decide (i<b) then bif pN (lN n l a b i i nl es) then some (.normal,shO.put (lO n l a b (W (i+1)) nl (insL a es i (i-a).toNat))) else none else some (xO nl es):=by kernel_rfl
def srtL (a:Int):List PV->Int->Nat->List PV
 | es,_,0=>es
 | es,i,m+1=>srtL a (insL a es i (i-a).toNat) (i+1) m
theorem srtL_len (a:Int):∀ (m:Nat) (es:List PV) (i:Int),(srtL a es i m).length=es.length
 | 0,_,_=>rfl
 | m+1,es,i=>by rw[srtL,srtL_len a m,insL_len]
def pO:LS->Bool
 | ([.n n,.n l,.i a,.i b,.i i],[.l _ es])=>decide (n=es.length)&&decide (l<=es.length)&&decide (0<=a)&&decide (a<=i)&&decide (b<=(l:Int))&&decide (es.length<=1000)&&decide (i<=2000)&&bigN es
 | _=>false
noncomputable def fO:LS->DT (PX × List PV × List Row)
 | ([.n _,.n _,.i a,.i b,.i i],[.l nl es])=>.leaf (xO nl (srtL a es i (b-i).toNat))
 | _=>.no
def mO:LS->Nat
 | ([.n _,.n _,.i _,.i b,.i i],[.l _ _])=>(b-i).toNat
 | _=>0
theorem sO:∀ s r,pO s=true->(fO s).run=some r->r.1 ≠ .normal/\(Al Tryz.prog N9 60 142 (Ao Tryz.f142 1) [0,1,2,3,8] [] (shO.put s).1 (shO.put s).2=some r \/
   ∃ s',Al Tryz.prog N9 60 142 (Ao Tryz.f142 1) [0,1,2,3,8] [] (shO.put s).1 (shO.put s).2=some (.normal,shO.put s')/\pO s'=true/\mO s'<mO s/\(fO s').run=some r):=by
 intro t r hp hr
 unfold pO at hp; split at hp
 ·rename_i n l a b i nl es
  simp only[Bool.and_eq_true,decide_eq_true_eq] at hp
  obtain ⟨⟨⟨⟨⟨⟨⟨rfl,h2⟩,h3⟩,h4⟩,h5⟩,h6⟩,h7⟩,h8⟩:=hp
  have hr':=(Option.some.inj hr).symm
  refine ⟨by rw[hr']; simp,?_⟩
  rw[show shO.put ([.n es.length,.n l,.i a,.i b,.i i],[.l nl es])=shO.put (lO es.length l a b i nl es) from rfl,qO]
  by_cases hi:i<b
  ·rw[decide_eq_true hi,cond_true,W_id (n:=i+1) (by omega) (by omega)]
   rw[show pN (lN es.length l a b i i nl es)=true by simp only[pN,Bool.and_eq_true,decide_eq_true_eq]; exact ⟨⟨⟨⟨⟨⟨trivial,h2⟩,h3⟩,by omega⟩,by omega⟩,h6⟩,h8⟩,cond_true]
   obtain ⟨m,hm⟩:∃ m,(b-i).toNat=m+1:=⟨(b-i).toNat-1,by omega⟩
   have hm2:(b-(i+1)).toNat=m:=by omega
   rw[hm] at hr'
   simp only[srtL] at hr'
   refine .inr ⟨lO es.length l a b (i+1) nl (insL a es i (i-a).toNat),rfl,by
    simp only[pO,Bool.and_eq_true,decide_eq_true_eq,insL_len]; exact ⟨⟨⟨⟨⟨⟨⟨trivial,h2⟩,h3⟩,by omega⟩,h5⟩,h6⟩,by omega⟩,insL_big a _ _ _ h8 (by omega) (by omega)⟩,by simp only[mO]; omega,?_⟩
   rw[hr']; simp only[fO,hm2]; rfl
  ·rw[decide_eq_false hi]
   rw[show (b-i).toNat=0 by omega] at hr'
   exact .inl (by rw[hr']; rfl)
 ·cases hp
noncomputable def N10:Ad:=N9.addW 142 1 [0,1,2,3,8] [] shO pO fO
theorem okn10:Ab Tryz.prog N10.env:=
 okn9.addW (n:=60) Tryz.func142 (show Tryz.f142.body=some (bod Tryz.f142) by kernel_rfl) (show (loops (bod Tryz.f142)).filter (fun b=>rid b==1)=[Ao Tryz.f142 1] by kernel_rfl) [0,1,2,3,8] [] [] shO mO sO
end Go.Hn
/- Network: slices.SortFunc of at most 12 lists of ints. -/
namespace Go.Hn
open Go.Hx Go.Hg Go.Proofs
theorem enters_of {P:Program} {f:FuncId} {fn:Func} {b:Code} (hf:P.funcs[f]? = some fn) (hb:fn.body=some b) (hn:(fn.name == "runtime.NumGoroutine")=false):Hx.Enters P f:=by
 intro Vs w
 simp[callFunc,hf,hb]; simpa using hn
def cNo (_:Nat) (_:List PV) (_:List Row):Option (DT (PV × List Row)):=some .no
theorem e104:Hx.Enters Tryz.prog 143:=enters_of Tryz.func143 (show Tryz.f143.body=some (bod Tryz.f143) by kernel_rfl) (by kernel_rfl)
theorem e106:Hx.Enters Tryz.prog 145:=enters_of Tryz.func145 (show Tryz.f145.body=some (bod Tryz.f145) by kernel_rfl) (by kernel_rfl)
theorem e105:Hx.Enters Tryz.prog 144:=enters_of Tryz.func144 (show Tryz.f144.body=some (bod Tryz.f144) by kernel_rfl) (by kernel_rfl)
def lenB (n:Int):Int:=if n<1 then 0 else if n<2 then 1 else if n<4 then 2 else if n<8 then 3 else 4
theorem qBL:∀ n:Nat,n<13->Ah Tryz.prog N10 40 105 [.val (.int .u64 (Int.ofNat n))]=some (iv (lenB (Int.ofNat n)))
 | 0,_=>by kernel_rfl
 | 1,_=>by kernel_rfl
 | 2,_=>by kernel_rfl
 | 3,_=>by kernel_rfl
 | 4,_=>by kernel_rfl
 | 5,_=>by kernel_rfl
 | 6,_=>by kernel_rfl
 | 7,_=>by kernel_rfl
 | 8,_=>by kernel_rfl
 | 9,_=>by kernel_rfl
 | 10,_=>by kernel_rfl
 | 11,_=>by kernel_rfl
 | 12,_=>by kernel_rfl
 | n+13,h=>by omega
def cBL:List PV->Option (DT PV)
 | [.val (.int .u64 n)]=>some (.br (decide (0<=n)&&decide (n<13)) (.leaf (iv (lenB n))) .no)
 | _=>none
theorem oBL (args:List PV) (d:DT PV) (r:PV) (h:cBL args=some d) (hr:d.run=some r):Ak Tryz.prog 105 args r:=by
 unfold cBL at h; split at h
 ·rename_i n; cases h
  obtain ⟨h1,rfl⟩:=Aq hr
  simp only[Bool.and_eq_true,decide_eq_true_eq] at h1
  obtain ⟨m,rfl⟩:=Int.eq_ofNat_of_zero_le h1.1
  exact (Aa okn10 (qBL m (by omega))).2
 ·cases h
noncomputable def N11:Ad:=(((N10.Ag 105 cBL).addC 143 cNo).addC 145 cNo).addC 144 cNo
theorem okn11:Ab Tryz.prog N11.env:=(((okn10.Ag (Aa okn10 (qBL 0 (by omega))).1 oBL).addC e104 fun ro args H d p H' h hd=>by cases h; cases hd).addC e106 fun ro args H d p H' h hd=>by cases h; cases hd).addC e105 fun ro args H d p H' h hd=>by cases h; cases hd
def shP:Hx.S1:=⟨148,[(0,.sl 0),(1,I64),(2,I64),(3,I64),(4,.fn 63 [] []),(10,.bool),(11,.bool)],[.many 22 1]⟩
abbrev lP (n l:Nat) (a b m:Int) (wb wp nl:Bool) (es:List PV):LS:=([.n n,.n l,.i a,.i b,.i m,.b wb,.b wp],[.l nl es])
noncomputable abbrev xP (nl:Bool) (es:List PV):PX × List PV × List Row:=(.ret,tm 148 [],(shP.put (lP 0 0 0 0 0 true true nl es)).2)
theorem qP (n l:Nat) (a b m:Int) (wb wp nl:Bool) (es:List PV):Al Tryz.prog N11 60 106 (Ao Tryz.f106 2) [0,1,2,3,4,10,11] [] (shP.put (lP n l a b m wb wp nl es)).1 (shP.put (lP n l a b m wb wp nl es)).2 =
 bif decide (W (b-a)<=12) then ldR es n (bif pO (lO n l a b (W (a+1)) nl es) then some (xP nl (srtL a es (W (a+1)) (b-W (a+1)).toNat)) else none)
 else bif m==0 then ldR es n none else bif !wb then ldR es n none else ldR es n none:=by kernel_rfl
def pP:LS->Bool
 | ([.n n,.n l,.i a,.i b,.i _,.b _,.b _],[.l nl es])=>decide (0<=a)&&decide (a<100)&&decide (b<=a+12)&&decide (a-b<=1)&&pO (lO n l a b (W (a+1)) nl es)
 | _=>false
noncomputable def fP:LS->DT (PX × List PV × List Row)
 | ([.n _,.n _,.i a,.i b,.i _,.b _,.b _],[.l nl es])=>.leaf (xP nl (srtL a es (W (a+1)) (b-W (a+1)).toNat))
 | _=>.no
theorem pO_n {n l:Nat} {a b i:Int} {nl:Bool} {es:List PV} (h:pO (lO n l a b i nl es)=true):es.length=n:=by
 simp only[pO,Bool.and_eq_true,decide_eq_true_eq] at h; exact h.1.1.1.1.1.1.1.symm
theorem sP:∀ s r,pP s=true->(fP s).run=some r->r.1 ≠ .normal/\(Al Tryz.prog N11 60 106 (Ao Tryz.f106 2) [0,1,2,3,4,10,11] [] (shP.put s).1 (shP.put s).2=some r \/
   ∃ s',Al Tryz.prog N11 60 106 (Ao Tryz.f106 2) [0,1,2,3,4,10,11] [] (shP.put s).1 (shP.put s).2=some (.normal,shP.put s')/\pP s'=true/\(fun _=>0) s'<(fun _=>0) s/\(fP s').run=some r):=by
 intro t r hp hr
 unfold pP at hp; split at hp
 ·rename_i n l a b m wb wp nl es
  simp only[Bool.and_eq_true,decide_eq_true_eq] at hp
  obtain ⟨⟨⟨⟨h1,h2⟩,h3⟩,h4⟩,h5⟩:=hp
  have hr':=(Option.some.inj hr).symm
  refine ⟨by rw[hr']; simp,.inl ?_⟩
  rw[show shP.put ([.n n,.n l,.i a,.i b,.i m,.b wb,.b wp],[.l nl es])=shP.put (lP n l a b m wb wp nl es) from rfl,qP,W_id (n:=b-a) (by omega) (by omega),decide_eq_true (show b-a<=12 by omega),cond_true,ldR_of (pO_n h5),h5,hr']; rfl
 ·cases hp
noncomputable def N12:Ad:=N11.addW 106 2 [0,1,2,3,4,10,11] [] shP pP fP
theorem okn12:Ab Tryz.prog N12.env:=
 okn11.addW (n:=60) Tryz.func106 (show Tryz.f106.body=some (bod Tryz.f106) by kernel_rfl) (show (loops (bod Tryz.f106)).filter (fun b=>rid b==2)=[Ao Tryz.f106 2] by kernel_rfl) [0,1,2,3,4,10,11] [] [] shP (fun _=>0) sP
abbrev rN (nl:Bool) (es:List PV):Row:={ es,s:=1,t:=22,bv:=true,nl }
def lnB (n:Int):Bool:=decide (0<=n)&&decide (n<13)
theorem qSF (n l:Nat) (es:List PV):runR Tryz.prog N12 60 0 62 [.sl 0 n 0 l,.fn (.func 63) [] []] [rN false es] =
 bif lnB (IntKind.wrap .u64 (l:Int)) then ldR es n (bif pP (lP n l 0 (l:Int) (lenB (IntKind.wrap .u64 (l:Int))) true true false es) then some (.tup [],[rN false (srtL 0 es (W (0+1)) ((l:Int)-W (0+1)).toNat)]) else none) else none:=by kernel_rfl
abbrev sortP (es:List PV) (l:Nat):List PV:=srtL 0 es 1 ((l:Int)-1).toNat
def okS (n l:Nat) (es:List PV):Bool:=decide (n=es.length)&&decide (l<=es.length)&&decide (l<=12)&&decide (es.length<=1000)&&bigN es
theorem qSF' {n l:Nat} {es:List PV} (h:okS n l es=true):runR Tryz.prog N12 60 0 62 [.sl 0 n 0 l,.fn (.func 63) [] []] [rN false es]=some (.tup [],[rN false (sortP es l)]):=by
 unfold okS at h
 simp only[Bool.and_eq_true,decide_eq_true_eq] at h
 obtain ⟨⟨⟨⟨rfl,h2⟩,h3⟩,h4⟩,h5⟩:=h
 have hw:W (0+1)=1:=W_id (by omega) (by omega)
 have hu:IntKind.wrap .u64 (l:Int)=(l:Int):=by
  show (l:Int) % 2 ^ 64=l
  exact Int.emod_eq_of_lt (by omega) (by omega)
 rw[qSF,hu,show lnB (l:Int)=true by unfold lnB; simp; omega,cond_true,ldR_of rfl,hw]
 rw[show pP (lP es.length l 0 (l:Int) (lenB (l:Int)) true true false es)=true by
  simp only[pP,pO,hw,Bool.and_eq_true,decide_eq_true_eq]; exact ⟨⟨⟨⟨by omega,by omega⟩,by omega⟩,by omega⟩,⟨⟨⟨⟨⟨⟨trivial,h2⟩,by omega⟩,by omega⟩,by omega⟩,h4⟩,by omega⟩,h5⟩]
 rfl
def cSF:List PV->List Row->Option (DT (PV × List Row))
 | [.sl 0 n 0 l,.fn (.func 63) [] []],[⟨es,1,22,true,true,false,none,false⟩]=>some (.br (okS n l es) (.leaf (.tup [],[rN false (sortP es l)])) .no)
 | _,_=>none
theorem eSF:Hx.Enters Tryz.prog 62:=(runR_sound okn12 (qSF' (n:=0) (l:=0) (es:=[]) rfl)).1
theorem oSF (args:List PV) (H:List Row) (d:DT (PV × List Row)) (q:PV) (H':List Row) (h:cSF args H=some d) (hd:d.run=some (q,H')):RCall Tryz.prog 0 62 args H q H':=by
 unfold cSF at h; split at h
 ·rename_i n l es
  cases h
  obtain ⟨hc,he⟩:=Aq hd
  cases he
  exact (runR_sound okn12 (qSF' hc)).2
 ·cases h
noncomputable def N13:Ad:=(((N12.addR 62 cSF).addSort 61 3).addDeep 18 30 4).addV 18 26 [2,95,96,97]
theorem okn13:Ab Tryz.prog N13.env:=((((okn12.addR eSF oSF).addSort layS kindsInt cellsInt entS).addDeep 18 30 4).addV 18 26 [2,95,96,97])
end Go.Hn
