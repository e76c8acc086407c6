/- Hx: the machine in continuations: what is known only of a value stands as a 'bif' outermost. -/
import Derived.Test.YtliaeiggcleoaaaGreatPart3
import Derived.MapKept
import Derived.WideKeyRuns
namespace Go.Hx

inductive DT (α:Type) where
 | leaf (a:α)
 | no
 | br (b:Bool) (x y:DT α)
def DT.run {α:Type}:DT α->Option α
 | .leaf a=>some a
 | .no=>none
 | .br b x y=>bif b then x.run else y.run
def DT.go {α β:Type} (k:α->Option β):DT α->Option β
 | .leaf a=>k a
 | .no=>none
 | .br b x y=>bif b then x.go k else y.go k
theorem DT.go_some {α β:Type} {k:α->Option β} {r:β}:∀ {d:DT α},d.go k=some r->∃ a,d.run=some a/\k a=some r
 | .leaf a,h=>⟨a,rfl,h⟩
 | .no,h=>by cases h
 | .br b x y,h=>by
  cases b
  ·exact DT.go_some (d:=y) h
  ·exact DT.go_some (d:=x) h

structure Ad where
 ora:FuncId->List PV->Option PV:=fun _ _=>none
 live:FuncId->Nat->Option (List Tmp):=fun _ _=>none
 lo:FuncId->Nat->Nat->List PV->List Row->Option (DT (PX × List PV × List Row)):=fun _ _ _ _ _=>none
 keep:FuncId->Bool:=fun _=>false
 cal:Nat->FuncId->List PV->List Row->Option (DT (PV × List Row)):=fun _ _ _ _=>none
 nils:FuncId->Nat->List (Tmp × TypeId × Nat):=fun _ _=>[]
 pure:FuncId->Bool:=fun _=>false
 orD:FuncId->List PV->Option (DT PV):=fun _ _=>none
 drop:FuncId->Nat->Option (Nat × Bool):=fun _ _=>none
 fgt:FuncId->Nat->List Nat:=fun _ _=>[]
 opr:Nat->List Row->(Operand->PV)->Op->Option (DT (PV × List Row)):=fun _ _ _ _=>none
 chain:FuncId->Nat->Bool:=fun _ _=>false
 inp:Nat->List Row->(Operand->PV)->Op->Option (PV × List Row):=fun _ _ _ _=>none
 piv:FuncId->Nat->Option Nat:=fun _ _=>none
 soft:FuncId->Nat->Bool:=fun _ _=>false
 sft:List Row->(Operand->PV)->Op->Option PV:=fun _ _ _=>none
def Ad.env (E:Ad):Env where
 ora f a:=match E.orD f a with | some d=>d.run | none=>E.ora f a
 live:=E.live
 lo f ro i S H:=(E.lo f ro i S H).bind DT.run
 keep:=E.keep
 cal ro k args H:=(E.cal ro k args H).bind DT.run
 nils:=E.nils
 pure:=E.pure
 drop:=E.drop
 fgt:=E.fgt
 opr ro H f op:=(E.opr ro H f op).bind DT.run
 chain:=E.chain
 inp:=E.inp
 piv:=E.piv
 soft:=E.soft
 sft:=E.sft

section
variable {α:Type}
def need (c:Bool) (k:Option α):Option α:=bif c then k else none
theorem Ae {c:Bool} {k:Option α} {r:α} (h:need c k=some r):c=true/\k=some r:=by
 cases c
 ·cases h
 ·exact ⟨rfl,h⟩
def dflt {β:Type} (o:Option β) (k:β->Option α):Option α:=match o with | some p=>k p | none=>none
theorem dflt_some {β:Type} {o:Option β} {k:β->Option α} {r:α} (h:dflt o k=some r):∃ p,o=some p/\k p=some r:=by
 cases o with
 | none=>cases h
 | some p=>exact ⟨p,rfl,h⟩

def binK (P:Program) (op:BinOp) (T:TypeId) (x0 y0:Operand) (x y:PV) (k:PV->Option α):Option α:=
 match x,y with
 | .val (.int ka a),.val (.int kb b) =>
  match op with
  | .quo=>need (ka==kb && !decide (b=0)) (k (.val (.int ka (ka.wrap (a.tdiv b)))))
  | .rem=>need (ka==kb && !decide (b=0)) (k (.val (.int ka (a.tmod b))))
  | .shl=>need (!decide (b<0)) (k (.val (.int ka (ka.wrap (a*2 ^ min b.toNat ka.bits)))))
  | .shr=>need (!decide (b<0)) (k (.val (.int ka (a.fdiv (2 ^ min b.toNat ka.bits)))))
  | op=>dflt (binV P op T x0 y0 (.val (.int ka a)) (.val (.int kb b))) k
 | .val (.string a),.val (.string b) =>
  match op with
  | .add=>need (!decide (((a.size+b.size:Nat):Int) > IntKind.i64.max)) (k (.val (.string (a++b))))
  | op=>dflt (strV op a b) k
 | .Ac _ _ es,.val (.slice none 0 0) =>
  match P.underlying T,op with
  | some (.slice _),.eql=>need (decide (0<es.length)) (k (.val (.bool false)))
  | some (.slice _),.neq=>need (decide (0<es.length)) (k (.val (.bool true)))
  | _,_=>none
 | x,y=>dflt (binV P op T x0 y0 x y) k
theorem binK_some {P:Program} {op:BinOp} {T:TypeId} {x0 y0:Operand} {x y:PV} {k:PV->Option α} {r:α} (h:binK P op T x0 y0 x y k=some r):∃ p,binV P op T x0 y0 x y=some p/\k p=some r:=by
 unfold binK at h
 split at h
 ·rename_i ka a kb b
  split at h
  ·obtain ⟨h1,h2⟩:=Ae h
   simp only[Bool.and_eq_true,beq_iff_eq,Bool.not_eq_true',decide_eq_false_iff_not] at h1
   exact ⟨_,by simp[binV,h1.1,intV,h1.2],h2⟩
  ·obtain ⟨h1,h2⟩:=Ae h
   simp only[Bool.and_eq_true,beq_iff_eq,Bool.not_eq_true',decide_eq_false_iff_not] at h1
   exact ⟨_,by simp[binV,h1.1,intV,h1.2],h2⟩
  ·obtain ⟨h1,h2⟩:=Ae h
   simp only[Bool.not_eq_true',decide_eq_false_iff_not] at h1
   exact ⟨_,by simp only[binV]; rw[if_neg h1],h2⟩
  ·obtain ⟨h1,h2⟩:=Ae h
   simp only[Bool.not_eq_true',decide_eq_false_iff_not] at h1
   exact ⟨_,by simp only[binV]; rw[if_neg h1],h2⟩
  ·exact dflt_some h
 ·rename_i a b
  split at h
  ·obtain ⟨h1,h2⟩:=Ae h
   simp only[Bool.not_eq_true',decide_eq_false_iff_not] at h1
   exact ⟨_,by simp only[binV,strV]; rw[if_neg h1],h2⟩
  ·obtain ⟨p,h1,h2⟩:=dflt_some h
   exact ⟨p,by simpa [binV] using h1,h2⟩
 ·split at h
  ·rename_i hu
   obtain ⟨h1,h2⟩:=Ae h
   exact ⟨_,by simp only[binV,hu]; rw[if_pos (of_decide_eq_true h1)],h2⟩
  ·rename_i hu
   obtain ⟨h1,h2⟩:=Ae h
   exact ⟨_,by simp only[binV,hu]; rw[if_pos (of_decide_eq_true h1)],h2⟩
  ·cases h
 ·exact dflt_some h

def binHK0 (P:Program) (H:List Row) (op:BinOp) (T:TypeId) (x0 y0:Operand) (x y:PV) (k:PV->Option α):Option α:=
 match x,y with
 | .sl i n _ _,.val (.slice none 0 0) =>
  match rowAt H i,P.underlying T,op with
  | some r,some (.slice _),.eql=>need (r.es.length==n) (bif r.nl then k (.val (.bool true)) else k (.val (.bool false)))
  | some r,some (.slice _),.neq=>need (r.es.length==n) (bif r.nl then k (.val (.bool false)) else k (.val (.bool true)))
  | _,_,_=>none
 | x,y=>binK P op T x0 y0 x y k
theorem binHK0_some {P:Program} {H:List Row} {op:BinOp} {T:TypeId} {x0 y0:Operand} {x y:PV} {k:PV->Option α} {r:α} (h:binHK0 P H op T x0 y0 x y k=some r):∃ p,binH0 P H op T x0 y0 x y=some p/\k p=some r:=by
 unfold binHK0 at h
 split at h
 ·split at h
  ·rename_i r0 _ hr hu
   obtain ⟨h1,h2⟩:=Ae h
   refine ⟨.val (.bool r0.nl),by simp only[binH0,hr,hu]; rw[if_pos (by simpa using h1)],?_⟩
   cases hn:r0.nl <;> rw[hn] at h2 <;> exact h2
  ·rename_i r0 _ hr hu
   obtain ⟨h1,h2⟩:=Ae h
   refine ⟨.val (.bool !r0.nl),by simp only[binH0,hr,hu]; rw[if_pos (by simpa using h1)],?_⟩
   cases hn:r0.nl <;> rw[hn] at h2 <;> exact h2
  ·cases h
 ·rename_i hne
  obtain ⟨p,h1,h2⟩:=binK_some h
  refine ⟨p,?_,h2⟩
  unfold binH0
  split
  ·exact absurd rfl (hne _ _ _ _ rfl)
  ·exact h1
def binHK (P:Program) (H:List Row) (op:BinOp) (T:TypeId) (x0 y0:Operand) (x y:PV) (k:PV->Option α):Option α:=
 match ptrV P H op T x y with
 | some p=>k p
 | none=>binHK0 P H op T x0 y0 x y k
theorem binHK_some {P:Program} {H:List Row} {op:BinOp} {T:TypeId} {x0 y0:Operand} {x y:PV} {k:PV->Option α} {r:α} (h:binHK P H op T x0 y0 x y k=some r):∃ p,binH P H op T x0 y0 x y=some p/\k p=some r:=by
 unfold binHK at h
 split at h
 ·rename_i q hq; exact ⟨q,by unfold binH; rw[hq],h⟩
 ·rename_i hnone
  obtain ⟨p,h1,h2⟩:=binHK0_some h
  exact ⟨p,by unfold binH; rw[hnone]; exact h1,h2⟩

def grabK (P:Program) (t:TypeId) (bv:Bool) (s:Nat) (e:PV) (T:TypeId) (j:Nat) (k:PV->Option α):Option α:=
 match known P T with
 | true =>
  match Aj P T with
  | true=>need (decide (j+P.cellsOf T<=s)) (bif bv then k (.agg ((List.range (P.cellsOf T)).map fun x=>pick P t true e (j+x))) else k (.agg ((List.range (P.cellsOf T)).map fun x=>pick P t false e (j+x))))
  | false=>need (decide (j<s)) (bif bv then k (pick P t true e j) else k (pick P t false e j))
 | false=>none
theorem grabK_some {P:Program} {t:TypeId} {bv:Bool} {s:Nat} {e:PV} {T:TypeId} {j:Nat} {k:PV->Option α} {r:α} (h:grabK P t bv s e T j k=some r):∃ p,grab P t bv s e T j=some p/\k p=some r:=by
 unfold grabK at h
 unfold grab
 split at h
 ·rename_i hk
  rw[if_pos hk]
  split at h
  ·rename_i ha
   obtain ⟨h1,h2⟩:=Ae h
   rw[if_pos ha,if_pos (by simpa using h1)]
   cases bv <;> exact ⟨_,rfl,h2⟩
  ·rename_i ha
   obtain ⟨h1,h2⟩:=Ae h
   rw[if_neg (by simp[ha]),if_pos (by simpa using h1)]
   cases bv <;> exact ⟨_,rfl,h2⟩
 ·cases h

def loadK (P:Program) (H:List Row) (T:TypeId) (x:PV) (k:PV->Option α):Option α:=
 match x with
 | .ptr i n m j =>
  match rowAt H i with
  | some r=>need (r.es.length==n) (grabK P r.t r.bv r.s (r.es.getD m .any) T j k)
  | none=>none
 | .lptr t e j=>grabK P t true (P.cellsOf t) e T j k
 | .val v=>dflt (loadG P T v) k
 | _=>none
theorem loadK_some {P:Program} {H:List Row} {T:TypeId} {x:PV} {k:PV->Option α} {r:α} (h:loadK P H T x k=some r):∃ p,loadQ P H T x=some p/\k p=some r:=by
 unfold loadK at h
 split at h
 ·split at h
  ·rename_i hr
   obtain ⟨h1,h2⟩:=Ae h
   obtain ⟨p,h3,h4⟩:=grabK_some h2
   exact ⟨p,by simp only[loadQ,hr]; rw[if_pos (by simpa using h1)]; exact h3,h4⟩
  ·cases h
 ·exact grabK_some h
 ·exact dflt_some h
 ·cases h

def fieldAddrK (P:Program) (H:List Row) (T:TypeId) (i:Nat) (x:PV) (k:PV->Option α):Option α:=
 match P.underlying T with
 | some (.struct fs) =>
  match fs[i]? with
  | some fd=>need (known P fd.type&&P.cellsOf fd.type != 0&&okPtr H x) (k (addOff fd.offset x))
  | none=>none
 | _=>none
theorem fieldAddrK_some {P:Program} {H:List Row} {T:TypeId} {i:Nat} {x:PV} {k:PV->Option α} {r:α} (h:fieldAddrK P H T i x k=some r):∃ p,fieldAddrQ P H T i x=some p/\k p=some r:=by
 unfold fieldAddrK at h
 split at h
 ·rename_i fs hu
  split at h
  ·rename_i fd hf
   obtain ⟨h1,h2⟩:=Ae h
   exact ⟨_,by simp only[fieldAddrQ,hu,hf]; rw[if_pos h1],h2⟩
  ·cases h
 ·cases h

def ofK (n:Nat) (z:Int) (k:Nat->Option α):Option α:=
 match n with
 | 0=>none
 | m+1=>bif decide (z=(m:Int)) then k m else ofK m z k
theorem ofK_some {z:Int} {k:Nat->Option α} {r:α}:∀ {n:Nat},ofK n z k=some r->∃ m,m<n/\z=(m:Int)/\k m=some r
 | 0,h=>by cases h
 | n+1,h=>by
  unfold ofK at h
  cases hd:decide (z=(n:Int)) with
  | true=>rw[hd] at h; exact ⟨n,by omega,by simpa using hd,h⟩
  | false=>rw[hd] at h; obtain ⟨m,h1,h2,h3⟩:=ofK_some (n:=n) h; exact ⟨m,by omega,h2,h3⟩

def indexAddrK (P:Program) (H:List Row) (T:TypeId) (x ix:PV) (k:PV->Option α):Option α:=
 match ixOf ix,P.underlying T with
 | some z,some (.array len e)=>need (known P e&&okPtr H x) (ofK len z fun m=>k (addOff (m*P.cellsOf e) x))
 | some z,some (.slice e) =>
  match x with
  | .sl i n m len =>
   match rowAt H i with
   | some r=>need (known P e&&r.es.length==n&&r.s==P.cellsOf e) (need (decide (0<=z)&&decide (z<len)) (k (.ptr i n (m+z.toNat) 0)))
   | none=>none
  | .Ac _ t es=>need (known P e&&t==e) (need (decide (0<=z)&&decide (z<es.length)) (k (.lptr t (es.getD z.toNat .any) 0)))
  | _=>none
 | _,_=>none
theorem indexAddrK_some {P:Program} {H:List Row} {T:TypeId} {x ix:PV} {k:PV->Option α} {r:α} (h:indexAddrK P H T x ix k=some r):∃ p,indexAddrQ P H T x ix=some p/\k p=some r:=by
 unfold indexAddrK at h
 unfold indexAddrQ
 split at h
 ·rename_i z len e hz hu
  obtain ⟨h1,h2⟩:=Ae h
  obtain ⟨m,g1,rfl,g3⟩:=ofK_some h2
  refine ⟨_,?_,g3⟩
  simp only[hz,hu]
  rw[if_pos h1,if_pos ⟨by omega,by omega⟩]
  simp
 ·rename_i z e hz hu
  simp only[hz,hu]
  split at h
  ·split at h
   ·rename_i hr
    obtain ⟨h1,h2⟩:=Ae h
    obtain ⟨h3,h4⟩:=Ae h2
    simp only[Bool.and_eq_true,decide_eq_true_eq] at h3
    simp only[hr]
    exact ⟨_,by rw[if_pos h1,if_pos h3],h4⟩
   ·cases h
  ·obtain ⟨h1,h2⟩:=Ae h
   obtain ⟨h3,h4⟩:=Ae h2
   simp only[Bool.and_eq_true,decide_eq_true_eq] at h3
   exact ⟨_,by dsimp only; rw[if_pos h1,if_pos h3],h4⟩
  ·cases h
 ·cases h

def indexK (P:Program) (T:TypeId) (x ix:PV) (k:PV->Option α):Option α:=
 match ixOf ix,P.underlying T with
 | some z,some (.array len e)=>need (x.isAgg&&known P e) (ofK len z fun m=>dflt (partQ P e x.cells (m*P.cellsOf e)) k)
 | some z,some .string =>
  match x with
  | .val (.string s)=>need (decide (0<=z)&&decide (z<s.size)) (k (.val (.int .u8 (s.data.getD z.toNat 0).toNat)))
  | _=>none
 | _,_=>none
theorem indexK_some {P:Program} {T:TypeId} {x ix:PV} {k:PV->Option α} {r:α} (h:indexK P T x ix k=some r):∃ p,indexQ P T x ix=some p/\k p=some r:=by
 unfold indexK at h
 unfold indexQ
 split at h
 ·rename_i z len e hz hu
  obtain ⟨h1,h2⟩:=Ae h
  obtain ⟨m,g1,rfl,g3⟩:=ofK_some h2
  obtain ⟨p,h3,h4⟩:=dflt_some g3
  refine ⟨p,?_,h4⟩
  simp only[hz,hu]
  rw[if_pos h1,if_pos ⟨by omega,by omega⟩]
  simpa using h3
 ·rename_i z hz hu
  simp only[hz,hu]
  split at h
  ·obtain ⟨h3,h4⟩:=Ae h
   simp only[Bool.and_eq_true,decide_eq_true_eq] at h3
   exact ⟨_,by simp only[]; rw[if_pos h3],h4⟩
  ·cases h
 ·cases h

def sliceK (P:Program) (H:List Row) (T:TypeId) (x:PV) (lo hi mx:Option PV) (k:PV->Option α):Option α:=
 match P.underlying T,x,natIx lo,natIx hi,natIx mx with
 | some .string,.val (.string s),some l,some h,some none =>
  need (decide (0<=l.getD 0)&&decide (l.getD 0<=h.getD s.size)&&decide (h.getD s.size<=s.size)) (k (.val (.string (s.extract (l.getD 0).toNat (h.getD s.size).toNat))))
 | some (.slice e),.Ac full t es,some l,some h,some none =>
  need (known P e&&t==e) (need (decide (0<=l.getD 0)&&decide (l.getD 0<=h.getD es.length)&&decide (h.getD es.length<=es.length))
   (k (.Ac (full&&h.isNone) t ((es.take (h.getD es.length).toNat).drop (l.getD 0).toNat))))
 | some (.slice e),.Ac _ t es,some l,some (some h),some (some m) =>
  need (known P e&&t==e) (need (decide (0<=l.getD 0)&&decide (l.getD 0<=h)&&decide (h<=m)&&decide (m<=es.length))
   (k (.Ac (h==m) t ((es.take h.toNat).drop (l.getD 0).toNat))))
 | some (.slice e),.sl i n m len,some none,some h,some none =>
  match rowAt H i with
  | some r=>need (known P e&&r.es.length==n&&r.s==P.cellsOf e) (need (decide (0<=h.getD len)&&decide (h.getD len<=len)) (k (.sl i n m (h.getD len).toNat)))
  | none=>none
 | some (.slice e),.sl i n m len,some (some l),some h,some none =>
  match rowAt H i with
  | some r=>need (known P e&&r.es.length==n&&r.s==P.cellsOf e)
    (bif decide (0<=l)&&decide (l<len)&&decide (l<=h.getD len)&&decide (h.getD len<=len) then k (.sl i n (m+l.toNat) (h.getD len-l).toNat) else need (decide (l=len)&&decide (h.getD len=len)) (k (.Ac false e [])))
  | none=>none
 | _,_,_,_,_=>none
theorem sliceK_some {P:Program} {H:List Row} {T:TypeId} {x:PV} {lo hi mx:Option PV} {k:PV->Option α} {r:α} (h:sliceK P H T x lo hi mx k=some r):∃ p,sliceQ P H T x lo hi mx=some p/\k p=some r:=by
 unfold sliceK at h
 split at h
 ·rename_i h1 h2 h3 h4
  obtain ⟨g1,g2⟩:=Ae h
  simp only[Bool.and_eq_true,decide_eq_true_eq] at g1
  exact ⟨_,by simp only[sliceQ,h1,h2,h3,h4]; rw[if_pos ⟨g1.1.1,g1.1.2,g1.2⟩],g2⟩
 ·rename_i h1 h2 h3 h4
  obtain ⟨g0,g⟩:=Ae h
  obtain ⟨g1,g2⟩:=Ae g
  simp only[Bool.and_eq_true,decide_eq_true_eq] at g1
  exact ⟨_,by simp only[sliceQ,h1,h2,h3,h4]; rw[if_pos g0,if_pos ⟨g1.1.1,g1.1.2,g1.2⟩],g2⟩
 ·rename_i h1 h2 h3 h4
  obtain ⟨g0,g⟩:=Ae h
  obtain ⟨g1,g2⟩:=Ae g
  simp only[Bool.and_eq_true,decide_eq_true_eq] at g1
  exact ⟨_,by simp only[sliceQ,h1,h2,h3,h4]; rw[if_pos g0,if_pos ⟨g1.1.1.1,g1.1.1.2,g1.1.2,g1.2⟩],g2⟩
 ·rename_i h1 h2 h3 h4
  split at h
  ·rename_i hr
   obtain ⟨g0,g⟩:=Ae h
   obtain ⟨g1,g2⟩:=Ae g
   simp only[Bool.and_eq_true,decide_eq_true_eq] at g1
   exact ⟨_,by simp only[sliceQ,h1,h2,h3,h4,hr]; rw[if_pos g0,if_pos ⟨g1.1,g1.2⟩],g2⟩
  ·cases h
 ·rename_i h1 h2 h3 h4
  split at h
  ·rename_i hr
   obtain ⟨g0,g⟩:=Ae h
   cases hc:_&&_ with
   | true =>
    rw[hc,cond_true] at g
    simp only[Bool.and_eq_true,decide_eq_true_eq] at hc
    exact ⟨_,by simp only[sliceQ,h1,h2,h3,h4,hr]; rw[if_pos g0,if_pos ⟨hc.1.1.1,hc.1.1.2,hc.1.2,hc.2⟩],g⟩
   | false =>
    rw[hc,cond_false] at g
    obtain ⟨g1,g2⟩:=Ae g
    simp only[Bool.and_eq_true,decide_eq_true_eq] at g1
    exact ⟨_,by simp only[sliceQ,h1,h2,h3,h4,hr]; rw[if_pos g0,if_neg (by rintro ⟨a,b,c,d⟩; rw[decide_eq_true a,decide_eq_true b,decide_eq_true c,decide_eq_true d] at hc; cases hc),if_pos ⟨g1.1,g1.2⟩],g2⟩
  ·cases h
 ·cases h

def convHK (P:Program) (H:List Row) (src dst:TypeId) (x:PV) (k:PV->Option α) (other:Option α):Option α:=
 match x with
 | .sl i n m len =>
  match rowAt H i,P.underlying src,P.underlying dst with
  | some r,some (.slice e),some .string=>need (byteK P e&&r.t==e&&(r.es.length==n)&&r.bv) (k (.val (.string (strB ((r.es.drop m).take len)))))
  | _,_,_=>none
 | x=>match convH P H src dst x with | some p=>k p | none=>other
theorem convHK_some {P:Program} {H:List Row} {src dst:TypeId} {x:PV} {k:PV->Option α} {other:Option α} {r:α} (h:convHK P H src dst x k other=some r):
  (∃ p,convH P H src dst x=some p/\k p=some r)\/(convH P H src dst x=none/\other=some r):=by
 unfold convHK at h
 split at h
 ·split at h
  ·rename_i hr hs hd
   obtain ⟨h1,h2⟩:=Ae h
   exact .inl ⟨_,by simp only[convH,hr,hs,hd]; rw[if_pos h1],h2⟩
  ·cases h
 ·split at h
  ·rename_i hp; exact .inl ⟨_,hp,h⟩
  ·rename_i hp; exact .inr ⟨hp,h⟩
def sdK (H:List Row) (x:PV) (k:PV->Option α):Option α:=
 match x with
 | .val (.slice none 0 0)=>k (.val (.pointer none))
 | .sl i n m len =>
  match rowAt H i with
  | some r=>bif r.nl then need (r.es.length==n) (k (.val (.pointer none))) else need ((r.es.length==n)&&decide (0<len)) (k (.ptr i n m 0))
  | none=>none
 | _=>none
theorem sdK_some {H:List Row} {x:PV} {k:PV->Option α} {r:α} (h:sdK H x k=some r):∃ p,sdQ H x=some p/\k p=some r:=by
 unfold sdK at h
 split at h
 ·exact ⟨_,rfl,h⟩
 ·split at h
  ·rename_i r0 hr
   cases hn:r0.nl with
   | true =>
    rw[hn] at h
    obtain ⟨h1,h2⟩:=Ae h
    exact ⟨_,by simp only[sdQ,hr,hn]; rw[if_pos (by simpa using h1)],h2⟩
   | false =>
    rw[hn] at h
    obtain ⟨h1,h2⟩:=Ae h
    exact ⟨_,by simp only[sdQ,hr,hn]; rw[if_pos (by simpa using h1)],h2⟩
  ·cases h
 ·cases h
def popK (P:Program) (H:List Row) (f:Operand->PV) (op:Op) (k:PV->Option α) (other:Option α):Option α:=
 match op with
 | .load t a=>loadK P H t (f a) k
 | .nilCheck x=>need (okNil H (f x)) (k (f x))
 | .binOp op t x y _=>binHK P H op t x y (f x) (f y) k
 | .slice t x lo hi mx=>match P.underlying t with | some (.array n e)=>(match arrQ P n e (f x) (lo.map f) (hi.map f) (mx.map f) with | some p=>k p | none=>none) | _=>sliceK P H t (f x) (lo.map f) (hi.map f) (mx.map f) k
 | .fieldAddr t x i=>fieldAddrK P H t i (f x) k
 | .indexAddr t x ix=>indexAddrK P H t (f x) (f ix) k
 | .index t x ix=>indexK P t (f x) (f ix) k
 | .convert s d x=>match convP P H s d (f x) with | some p=>k p | none=>convHK P H s d (f x) k other
 | .call ⟨.builtin .unsafeSliceData,ags,_⟩=>match ags.toList with | [x]=>sdK H (f x) k | _=>none
 | op=>match popQ P H f op with | some p=>k p | none=>other
theorem popK_some {P:Program} {H:List Row} {f:Operand->PV} {op:Op} {k:PV->Option α} {other:Option α} {r:α} (h:popK P H f op k other=some r):
  (∃ p,popQ P H f op=some p/\k p=some r)\/(popQ P H f op=none/\other=some r):=by
 unfold popK at h
 split at h
 ·exact .inl (loadK_some h)
 ·obtain ⟨h1,h2⟩:=Ae h
  exact .inl ⟨_,by simp[popQ,h1],h2⟩
 ·exact .inl (binHK_some h)
 ·split at h
  ·rename_i hu
   split at h
   ·rename_i p hp
    exact .inl ⟨p,by simp only[popQ,hu]; exact hp,h⟩
   ·cases h
  ·rename_i hu
   obtain ⟨p,h1,h2⟩:=sliceK_some h
   refine .inl ⟨p,?_,h2⟩
   simp only[popQ]
   exact h1
 ·exact .inl (fieldAddrK_some h)
 ·exact .inl (indexAddrK_some h)
 ·exact .inl (indexK_some h)
 ·split at h
  ·rename_i p hp; exact .inl ⟨p,by simp only[popQ,hp],h⟩
  ·rename_i hp
   have:=convHK_some h
   simpa only[popQ,hp] using this
 ·split at h
  ·rename_i x hx
   obtain ⟨p,h1,h2⟩:=sdK_some h
   exact .inl ⟨p,by simp only[popQ,callQ,hx]; exact h1,h2⟩
  ·cases h
 ·split at h
  ·rename_i hp; exact .inl ⟨_,hp,h⟩
  ·rename_i hp; exact .inr ⟨hp,h⟩

def rowK (r:Row) (k:Row->Option α):Option α:=bif r.bv then k { r with bv:=true } else k { r with bv:=false }
theorem rowK_eq (r:Row) (k:Row->Option α):rowK r k=k r:=by
 unfold rowK
 cases r with | mk es s t bv live nl lp=>cases bv <;> rfl

def repK (P:Program) (e:TypeId) (z:Value) (n:Nat) (k:Row->Option α):Option α:=
 match wt P e (.val z) with
 | true=>k { es:=List.replicate n (.val z),s:=P.cellsOf e,t:=e,bv:=true }
 | false=>rowK (mkRow P e (List.replicate n (.val z))) k
theorem repK_eq (P:Program) (e:TypeId) (z:Value) (n:Nat) (k:Row->Option α):repK P e z n k=k (mkRow P e (List.replicate n (.val z))):=by
 unfold repK
 split
 ·rename_i h
  have:(List.replicate n (PV.val z)).all (wt P e)=true:=by
   rw[List.all_eq_true]
   intro x hx
   rw[(List.mem_replicate.1 hx).2]; exact h
  unfold mkRow
  rw[this]
 ·exact rowK_eq _ _

def newK (P:Program) (H:List Row) (f:Operand->PV) (op:Op) (k:PV->Row->Option α) (other:Option α):Option α:=
 match op with
 | .box T x=>need (okc (f x)&&(f x).cells.length==P.cellsOf T) (rowK (mkRow P T [f x]) fun r=>k (.ptr H.length 1 0 0) r)
 | .makeSlice T l c =>
  match P.underlying T,f l,f c with
  | some (.slice e),.val (.int _ n),.val (.int _ m) =>
   match zeroQ P e with
   | some z =>
    need (okc (.val z)&&known P e&&z.cells.size==P.cellsOf e&&decide (0<P.cellsOf e)&&decide (0<=n)&&decide (n<=m)&&decide (m<=2 ^ 40)&&decide (P.bytesOf e<=256))
     (repK P e z n.toNat fun r=>k (.sl H.length n.toNat 0 n.toNat) r)
   | none=>none
  | _,_,_=>none
 | op=>match newQ P H f op with | some (p,r)=>rowK r fun r=>k p r | none=>other
theorem newK_some {P:Program} {H:List Row} {f:Operand->PV} {op:Op} {k:PV->Row->Option α} {other:Option α} {r:α} (h:newK P H f op k other=some r):
  (∃ p rw,newQ P H f op=some (p,rw)/\k p rw=some r)\/(newQ P H f op=none/\other=some r):=by
 unfold newK at h
 split at h
 ·obtain ⟨h1,h2⟩:=Ae h
  rw[rowK_eq] at h2
  exact .inl ⟨_,_,by simp only[newQ]; rw[if_pos h1],h2⟩
 ·split at h
  ·rename_i hu hl hc
   split at h
   ·rename_i z hz
    obtain ⟨h1,h2⟩:=Ae h
    rw[repK_eq] at h2
    exact .inl ⟨_,_,by simp only[newQ,hu,hl,hc,hz]; rw[if_pos h1],h2⟩
   ·cases h
  ·cases h
 ·split at h
  ·rename_i hp; rw[rowK_eq] at h; exact .inl ⟨_,_,hp,h⟩
  ·rename_i hp; exact .inr ⟨hp,h⟩

def storeK (P:Program) (ro:Nat) (H:List Row) (T:TypeId) (a x:PV) (k:List Row->Option α):Option α:=
 match a with
 | .ptr i n m j =>
  match rowAt H i with
  | some r =>
   need (decide (ro<=i)&&okc x&&x.cells.all cellish&&r.es.length==n&&x.cells.length==P.cellsOf T&&known P T&&decide (j+x.cells.length<=r.s))
    (dflt (setCells P r m j x.cells) fun r2=>rowK r2 fun r3=>k (H.set i r3))
  | none=>none
 | _=>none
theorem storeK_some {P:Program} {ro:Nat} {H:List Row} {T:TypeId} {a x:PV} {k:List Row->Option α} {r:α} (h:storeK P ro H T a x k=some r):∃ H',storeQ P ro H T a x=some H'/\k H'=some r:=by
 unfold storeK at h
 split at h
 ·split at h
  ·rename_i hr
   obtain ⟨h1,h2⟩:=Ae h
   obtain ⟨r2,h3,h4⟩:=dflt_some h2
   rw[rowK_eq] at h4
   exact ⟨_,by simp only[storeQ,hr]; rw[if_pos h1]; simp only[h3],h4⟩
  ·cases h
 ·cases h

def srcK (H:List Row) (y:PV) (k:Bool->TypeId->List PV->Option α):Option α:=
 match y with
 | .sl i n m len =>
  match rowAt H i with
  | some r=>need (r.es.length==n) (k r.bv r.t ((r.es.drop m).take len))
  | none=>none
 | .Ac _ t es=>k true t es
 | _=>none
theorem srcK_some {H:List Row} {y:PV} {k:Bool->TypeId->List PV->Option α} {r:α} (h:srcK H y k=some r):∃ ty t news,srcOf H y=some (ty,t,news)/\k ty t news=some r:=by
 unfold srcK at h
 split at h
 ·split at h
  ·rename_i hr
   obtain ⟨h1,h2⟩:=Ae h
   exact ⟨_,_,_,by simp only[srcOf,hr]; rw[if_pos (by simpa using h1)],h2⟩
  ·cases h
 ·exact ⟨_,_,_,rfl,h⟩
 ·cases h

def strK (P:Program) (T:TypeId) (y:PV) (k:Bool->TypeId->List PV->Option α):Option α:=
 match P.underlying T,y with
 | some (.slice e),.val (.string s)=>need (byteT P e) (k true e (bytesL s))
 | _,_=>none
def srcTK (P:Program) (T T2:TypeId) (H:List Row) (y:PV) (k:Bool->TypeId->List PV->Option α):Option α:=
 match P.underlying T2 with
 | some (.slice e)=>match zsl y with | true=>k true e [] | false=>srcK H y k
 | some .string=>strK P T y k
 | _=>none
theorem srcTK_some {P:Program} {T T2:TypeId} {H:List Row} {y:PV} {k:Bool->TypeId->List PV->Option α} {r:α} (h:srcTK P T T2 H y k=some r):∃ ty t news,srcT P T T2 H y=some (ty,t,news)/\k ty t news=some r:=by
 unfold srcTK at h
 unfold srcT
 split at h
 ·rename_i hu
  simp only[hu]
  split at h
  ·rename_i hz
   simp only[hz]
   exact ⟨_,_,_,rfl,h⟩
  ·rename_i hz
   simp only[hz]
   exact srcK_some h
 ·rename_i hu
  simp only[hu]
  unfold strK at h
  split at h
  ·rename_i h1
   obtain ⟨h2,h3⟩:=Ae h
   exact ⟨_,_,_,by simp only[strSrc,h1]; rw[if_pos h2],h3⟩
  ·cases h
 ·cases h

def appendK (P:Program) (ro:Nat) (H:List Row) (c:Call) (x y:PV) (k:PV->List Row->Option α):Option α:=
 match c.argTypes[0]?,c.argTypes[1]? with
 | some T,some T2 =>
  match P.underlying T with
  | some (.slice e) =>
   srcTK P T T2 H y fun ty t news =>
   need (known P e&&t==e&&(zeroQ P e).any (fun z=>z.cells.size==P.cellsOf e)&&P.bytesOf e != 0&&(ty||cellishAll news))
    (match x with
    | .sl i n 0 len =>
     match rowAt H i with
     | some r =>
      need (decide (ro<=i)&&decide (r.es.length=n)&&decide (n=len)&&decide ((n+news.length)*P.bytesOf e<=140737488355328))
       (need (r.t==e&&r.s==P.cellsOf e && !r.fz)
        (rowK { r with es:=r.es++news,bv:=r.bv&&ty,nl:=r.nl&&news.isEmpty } fun r2=>k (.sl i (n+news.length) 0 (n+news.length)) (H.set i r2)))
     | none=>none
    | .val (.slice none 0 0) =>
     need (decide (news.length*P.bytesOf e<=140737488355328))
      (bif news.isEmpty then k x H else rowK { es:=news,s:=P.cellsOf e,t:=e,bv:=ty } fun r2=>k (.sl H.length news.length 0 news.length) (H++[r2]))
    | .Ac true t2 es =>
     need (t2==e) (need (decide ((es.length+news.length)*P.bytesOf e<=140737488355328))
      (bif news.isEmpty then k x H else rowK { es:=es++news,s:=P.cellsOf e,t:=e,bv:=ty } fun r2=>k (.sl H.length (es.length+news.length) 0 (es.length+news.length)) (H++[r2])))
    | _=>none)
  | _=>none
 | _,_=>none
theorem appendK_some {P:Program} {ro:Nat} {H:List Row} {c:Call} {x y:PV} {k:PV->List Row->Option α} {r:α} (h:appendK P ro H c x y k=some r):∃ p H',appendQ P ro H c x y=some (p,H')/\k p H'=some r:=by
 unfold appendK at h
 unfold appendQ
 split at h
 ·rename_i T T2 h1 h2
  split at h
  ·rename_i e hu
   obtain ⟨ty,t,news,hs,h⟩:=srcTK_some h
   obtain ⟨hc,h⟩:=Ae h
   simp only[h1,h2,hu,hs]
   rw[if_pos hc]
   split at h
   ·split at h
    ·rename_i hr
     obtain ⟨g1,h⟩:=Ae h
     obtain ⟨g2,h⟩:=Ae h
     simp only[Bool.and_eq_true,decide_eq_true_eq] at g1
     rw[rowK_eq] at h
     simp only[hr]
     exact ⟨_,_,by rw[if_pos ⟨g1.1.1.1,g1.1.1.2,g1.1.2,g1.2⟩,if_pos g2],h⟩
    ·cases h
   ·obtain ⟨g1,h⟩:=Ae h
    rw[if_pos (by simpa using g1)]
    cases hn:news.isEmpty with
    | true=>rw[hn] at h; exact ⟨_,_,by simp,h⟩
    | false=>rw[hn] at h; simp only[cond_false,rowK_eq] at h; exact ⟨_,_,rfl,h⟩
   ·obtain ⟨g0,h⟩:=Ae h
    obtain ⟨g1,h⟩:=Ae h
    dsimp only
    rw[if_pos g0,if_pos (by simpa using g1)]
    cases hn:news.isEmpty with
    | true=>rw[hn] at h; exact ⟨_,_,rfl,h⟩
    | false=>rw[hn] at h; simp only[cond_false,rowK_eq] at h; exact ⟨_,_,rfl,h⟩
   ·cases h
  ·cases h
 ·cases h
def moreK (P:Program) (ro:Nat) (H:List Row) (f:Operand->PV) (op:Op) (k:PV->List Row->Option α):Option α:=
 match op with
 | .call c =>
  match c.callee with
  | .builtin .clear =>
   match c.args.toList,c.argTypes[0]? with
   | [x],some T =>
    match P.underlying T with
    | some (.slice e) =>
     match zeroQ P e with
     | some z =>
      match f x with
      | .sl i n m len =>
       match rowAt H i with
       | some r=>need (decide (ro<=i)&&r.t==e&&clearOk P e z && !r.fz&&(r.es.length==n)) (bif r.nl then k (.val (.tuple #[])) H else rowK (clearRow P e z r m len) fun r2=>k (.val (.tuple #[])) (H.set i r2))
       | none=>none
      | .val (.slice none 0 0)=>k (.val (.tuple #[])) H
      | _=>none
     | none=>none
    | _=>none
   | _,_=>none
  | .builtin .unsafeString =>
   match c.args.toList,c.argTypes[0]? with
   | [x,y],some T =>
    match P.underlying T with
    | some (.pointer e) =>
     match f x,f y with
     | .ptr i n 0 0,.val (.int .i64 m) =>
      match rowAt H i with
      | some r=>need (decide (ro<=i)&&byteK P e&&r.t==e&&r.bv&&(r.es.length==n)&&decide (0<m)&&decide (m<=n)&&decide (m<=9223372036854775807))
        (rowK { r with fz:=true } fun r2=>k (.val (.string (strB ((r.es.drop 0).take m.toNat)))) (H.set i r2))
      | none=>none
     | .val (.pointer none),.val (.int .i64 0)=>k (.val (.string .empty)) H
     | _,_=>none
    | _=>none
   | _,_=>none
  | _=>none
 | _=>none
theorem moreK_some {P:Program} {ro:Nat} {H:List Row} {f:Operand->PV} {op:Op} {k:PV->List Row->Option α} {r:α} (h:moreK P ro H f op k=some r):∃ p H',moreQ P ro H f op=some (p,H')/\k p H'=some r:=by
 unfold moreK at h
 split at h
 ·rename_i c
  split at h
  ·rename_i hc
   split at h
   ·rename_i x T ha hT
    split at h
    ·rename_i e hu
     split at h
     ·rename_i z hz
      split at h
      ·rename_i i n m len hx
       split at h
       ·rename_i rw hr
        obtain ⟨h1,h2⟩:=Ae h
        refine ⟨_,if rw.nl then H else H.set i (clearRow P e z rw m len),by simp only[moreQ,hc,ha,clearQ,hT,hu,hz,hx,hr]; rw[if_pos h1],?_⟩
        cases hn:rw.nl with
        | true=>rw[hn] at h2; exact h2
        | false=>rw[hn] at h2; simp only[cond_false] at h2; rw[rowK_eq] at h2; exact h2
       ·cases h
      ·rename_i hx
       exact ⟨_,_,by simp only[moreQ,hc,ha,clearQ,hT,hu,hz,hx],h⟩
      ·cases h
     ·cases h
    ·cases h
   ·cases h
  ·rename_i hc
   split at h
   ·rename_i x y T ha hT
    split at h
    ·rename_i e hu
     split at h
     ·rename_i i n m hx hy
      split at h
      ·rename_i rw hr
       obtain ⟨h1,h2⟩:=Ae h
       rw[rowK_eq] at h2
       exact ⟨_,_,by simp only[moreQ,hc,ha,usQ,hT,hu,hx,hy,hr]; rw[if_pos h1],h2⟩
      ·cases h
     ·rename_i hx hy
      exact ⟨_,_,by simp only[moreQ,hc,ha,usQ,hT,hu,hx,hy],h⟩
     ·cases h
    ·cases h
   ·cases h
  ·cases h
 ·cases h
end
end Go.Hx
/- Hx: the machine in continuations: calls, regions, code; it says no more than the machine. -/
namespace Go.Hx

abbrev ExK (α:Type):=Nat->FuncId->Code->List PV->List Row->(PX->List PV->List Row->Option α)->Option α

section
variable {α:Type}
def resAllK (P:Program) (S:List PV) (H:List Row):List ResultVar->(List PV->Option α)->Option α
 | [],k=>k []
 | .tmp t::rs,k=>resAllK P S H rs fun ps=>k (S.getD t (.val undef)::ps)
 | .cell a t::rs,k=>need (okPtr H (S.getD a (.val undef))) (loadK P H t (S.getD a (.val undef)) fun p=>resAllK P S H rs fun ps=>k (p::ps))
theorem resAllK_some {P:Program} {S:List PV} {H:List Row}:∀ {rs:List ResultVar} {k:List PV->Option α} {r:α},resAllK P S H rs k=some r->∃ ps,resAll P S H rs=some ps/\k ps=some r
 | [],k,r,h=>⟨[],rfl,h⟩
 | .tmp t::rs,k,r,h=>by
  obtain ⟨ps,h1,h2⟩:=resAllK_some (rs:=rs) h
  exact ⟨_,by simp only[resAll,resOne,h1],h2⟩
 | .cell a t::rs,k,r,h=>by
  obtain ⟨g1,g2⟩:=Ae h
  obtain ⟨p,g3,g4⟩:=loadK_some g2
  obtain ⟨ps,h1,h2⟩:=resAllK_some (rs:=rs) g4
  exact ⟨_,by simp only[resAll,resOne,h1]; rw[if_pos g1]; simp only[g3],h2⟩
def resK (P:Program) (fn:Func) (S:List PV) (H:List Row) (k:PV->Option α):Option α:=
 resAllK P S H fn.results.toList fun ps=>match ps with | [p]=>k p | ps=>k (.tup ps)
theorem resK_some {P:Program} {fn:Func} {S:List PV} {H:List Row} {k:PV->Option α} {r:α} (h:resK P fn S H k=some r):∃ p,resQ P fn S H=some p/\k p=some r:=by
 obtain ⟨ps,h1,h2⟩:=resAllK_some h
 unfold resQ
 rw[h1]
 split at h2
 ·exact ⟨_,rfl,h2⟩
 ·rename_i hne
  refine ⟨.tup ps,?_,h2⟩
  split
  ·rename_i q hq; cases hq; exact absurd rfl (hne _)
  ·rename_i hq; cases hq; rfl
  ·rename_i hq; cases hq

def callXK (P:Program) (ex:ExK α) (ro:Nat) (f:FuncId) (args:List PV) (H:List Row) (k:PV->List Row->Option α):Option α:=
 match P.funcs[f]? with
 | some fn =>
  match fn.body with
  | some b =>
   match fn.name == "runtime.NumGoroutine" with
   | true=>none
   | false =>
    ex ro f b (args++List.replicate (fn.ntmps-args.length) (.val undef)) H fun x S' H' =>
     match x with
     | .exit _=>none
     | _=>resK P fn S' H' fun p=>k p H'
  | none=>none
 | none=>none
def callIK (P:Program) (E:Ad) (ex:ExK α) (ro:Nat) (f:FuncId) (args:List PV) (H:List Row) (k:PV->List Row->Option α):Option α:=
 match E.cal ro f args H with
 | some d=>d.go fun r=>k r.1 r.2
 | none=>callXK P ex ro f args H k
def frz0K (H:List Row) (h:Nat) (p:PV) (k:PV->Option α):Option α:=
 match p with
 | .sl i n m len =>
  bif decide (h<=i) then
   match rowAt H i with
   | some r=>bif r.bv then need (r.es.length==n) (k (.Ac false r.t ((r.es.drop m).take len))) else k (.sl i n m len)
   | none=>k (.sl i n m len)
  else k (.sl i n m len)
 | p=>k (frz H h p)
theorem frz0K_some {H:List Row} {h:Nat} {p:PV} {k:PV->Option α} {r:α} (g:frz0K H h p k=some r):k (frz H h p)=some r:=by
 unfold frz0K at g
 split at g
 ·rename_i i n m len
  rw[frz]
  by_cases hh:h<=i
  ·rw[if_pos hh]
   rw[decide_eq_true hh,cond_true] at g
   cases hr:rowAt H i with
   | none=>rw[hr] at g; exact g
   | some r0 =>
    rw[hr] at g
    dsimp only at g ⊢
    cases hb:r0.bv with
    | true =>
     rw[hb,cond_true] at g
     obtain ⟨g1,g2⟩:=Ae g
     rw[g1]
     exact g2
    | false=>rw[hb] at g; exact g
  ·rw[if_neg hh]
   rw[decide_eq_false hh,cond_false] at g
   exact g
 ·exact g
def frz0sK (H:List Row) (h:Nat):List PV->(List PV->Option α)->Option α
 | [],k=>k []
 | p::ps,k=>frz0K H h p fun q=>frz0sK H h ps fun qs=>k (q::qs)
theorem frz0sK_some {H:List Row} {h:Nat}:∀ {ps:List PV} {k:List PV->Option α} {r:α},frz0sK H h ps k=some r->k (frzs H h ps)=some r
 | [],k,r,g=>by rw[frzs]; exact g
 | p::ps,k,r,g=>by rw[frzs]; exact frz0sK_some (ps:=ps) (frz0K_some g)
def frzK (H:List Row) (h:Nat) (p:PV) (k:PV->Option α):Option α:=
 match p with
 | .agg cs=>frz0sK H h cs fun ds=>k (.agg ds)
 | p=>frz0K H h p k
theorem frzK_some {H:List Row} {h:Nat} {p:PV} {k:PV->Option α} {r:α} (g:frzK H h p k=some r):k (frz H h p)=some r:=by
 unfold frzK at g
 split at g
 ·rw[frz]; exact frz0sK_some g
 ·exact frz0K_some g
def frzsK (H:List Row) (h:Nat):List PV->(List PV->Option α)->Option α
 | [],k=>k []
 | p::ps,k=>frzK H h p fun q=>frzsK H h ps fun qs=>k (q::qs)
theorem frzsK_some {H:List Row} {h:Nat}:∀ {ps:List PV} {k:List PV->Option α} {r:α},frzsK H h ps k=some r->k (frzs H h ps)=some r
 | [],k,r,g=>by rw[frzs]; exact g
 | p::ps,k,r,g=>by rw[frzs]; exact frzsK_some (ps:=ps) (frzK_some g)
def oraK (r:PV) (ags args:List PV) (k:PV->Option α):Option α:=
 need (mlts 0 ags&&mlt 0 r&&(plain r||mlts 0 args)) (k r)
def callGK (P:Program) (E:Ad) (ex:ExK α) (ro:Nat) (f:FuncId) (args:List PV) (H:List Row) (k:PV->List Row->Option α):Option α:=
 frzsK H 0 args fun ags =>
 match E.orD f ags with
 | some d=>d.go fun r=>oraK r ags args fun p=>k p H
 | none =>
 match E.ora f ags with
 | some r=>oraK r ags args fun p=>k p H
 | none=>callIK P E ex ro f args H fun p H' =>
   bif E.keep f then k p H' else frzK H' H.length p fun q=>need (mlt H.length q&&rowsOk H.length (H'.take H.length)) (k q (H'.take H.length))
def callEK (P:Program) (E:Ad) (ex:ExK α) (f:FuncId) (args:List PV) (H:List Row) (k:PV->Option α):Option α:=
 need (mlts H.length args&&rowsOk H.length H)
  (frzsK H 0 args fun ags =>
  match E.orD f ags with
  | some d=>d.go fun r=>oraK r ags args k
  | none =>
  match E.ora f ags with
  | some r=>oraK r ags args k
  | none=>callIK P E ex H.length f args H fun p H'=>frzK H' H.length p fun q=>need (mlt H.length q) (k q))

def Ref (exK:ExK α) (ex:Ex):Prop:=∀ ro f c S H (k:PX->List PV->List Row->Option α) r,exK ro f c S H k=some r->∃ x S' H',ex ro f c S H=some (x,S',H')/\k x S' H'=some r

theorem callXK_some {P:Program} {exK:ExK α} {ex:Ex} (hr:Ref exK ex) {ro:Nat} {f:FuncId} {args:List PV} {H:List Row} {k:PV->List Row->Option α} {r:α} (h:callXK P exK ro f args H k=some r):
  ∃ p H',callX P ex ro f args H=some (p,H')/\k p H'=some r:=by
 unfold callXK at h
 split at h
 ·rename_i fn hfn
  split at h
  ·rename_i b hb
   split at h
   ·cases h
   ·rename_i hn
    obtain ⟨x,S',H',h1,h2⟩:=hr _ _ _ _ _ _ _ h
    have:x ≠ .exit (match x with | .exit i=>i | _=>0)/\resK P fn S' H' (fun p=>k p H')=some r:=by
     cases x with
     | exit i=>cases h2
     | normal=>exact ⟨by simp,h2⟩
     | ret=>exact ⟨by simp,h2⟩
    obtain ⟨p,h3,h4⟩:=resK_some this.2
    refine ⟨p,H',?_,h4⟩
    unfold callX
    simp only[hfn,hb]
    rw[if_neg (by simp[hn]),h1]
    cases x with
    | exit i=>cases h2
    | normal=>simp only[h3,Option.map_some]
    | ret=>simp only[h3,Option.map_some]
  ·cases h
 ·cases h
theorem callIK_some {P:Program} {E:Ad} {exK:ExK α} {ex:Ex} (hr:Ref exK ex) {ro:Nat} {f:FuncId} {args:List PV} {H:List Row} {k:PV->List Row->Option α} {r:α} (h:callIK P E exK ro f args H k=some r):
  ∃ p H',callI P E.env ex ro f args H=some (p,H')/\k p H'=some r:=by
 unfold callIK at h
 unfold callI Ad.env
 dsimp only
 split at h
 ·rename_i d hd
  obtain ⟨a,h1,h2⟩:=DT.go_some h
  rw[hd]
  simp only[Option.bind_some,h1]
  exact ⟨_,_,rfl,h2⟩
 ·rename_i hd
  rw[hd]
  exact callXK_some hr h
theorem oraK_some {E:Ad} {f:FuncId} {args:List PV} {H:List Row} {p:PV} {k:PV->Option α} {r:α} (ho:E.env.ora f (frzs H 0 args)=some p) (h:oraK p (frzs H 0 args) args k=some r):callO E.env f args H=some p/\k p=some r:=by
 obtain ⟨h1,h2⟩:=Ae h
 refine ⟨?_,h2⟩
 unfold callO
 rw[ho]
 dsimp only
 rw[if_pos h1]
theorem ora_of {E:Ad} {f:FuncId} {a:List PV} {p:PV} (hd:E.orD f a=none) (h:E.ora f a=some p):E.env.ora f a=some p:=by
 show (match E.orD f a with | some d=>d.run | none=>E.ora f a)=_
 rw[hd]; exact h
theorem ora_orD {E:Ad} {f:FuncId} {a:List PV} {p:PV} {d:DT PV} (hd:E.orD f a=some d) (h:d.run=some p):E.env.ora f a=some p:=by
 show (match E.orD f a with | some d=>d.run | none=>E.ora f a)=_
 rw[hd]; exact h
theorem ora_none {E:Ad} {f:FuncId} {a:List PV} (hd:E.orD f a=none) (h:E.ora f a=none):E.env.ora f a=none:=by
 show (match E.orD f a with | some d=>d.run | none=>E.ora f a)=_
 rw[hd]; exact h
theorem callGK_some {P:Program} {E:Ad} {exK:ExK α} {ex:Ex} (hr:Ref exK ex) {ro:Nat} {f:FuncId} {args:List PV} {H:List Row} {k:PV->List Row->Option α} {r:α} (h:callGK P E exK ro f args H k=some r):
  ∃ p H',callG P E.env ex ro f args H=some (p,H')/\k p H'=some r:=by
 unfold callGK at h
 replace h:=frzsK_some h
 unfold callG
 split at h
 ·rename_i d hd
  obtain ⟨p,g1,g2⟩:=DT.go_some h
  obtain ⟨h1,h2⟩:=oraK_some (ora_orD hd g1) g2
  rw[h1]
  exact ⟨_,_,rfl,h2⟩
 rename_i hd
 split at h
 ·rename_i p hp
  obtain ⟨h1,h2⟩:=oraK_some (ora_of hd hp) h
  rw[h1]
  exact ⟨_,_,rfl,h2⟩
 ·rename_i hn
  have:callO E.env f args H=none:=by
   unfold callO
   rw[ora_none hd hn]
  rw[this]
  obtain ⟨p,H',h1,h2⟩:=callIK_some hr h
  simp only[h1]
  show ∃ q H2,(if E.keep f=true then some (p,H') else some (settle H.length p H'))=some (q,H2)/\_
  cases hk:E.keep f with
  | true=>rw[hk] at h2; exact ⟨_,_,rfl,h2⟩
  | false =>
   rw[hk,cond_false] at h2
   obtain ⟨g1,g2⟩:=Ae (frzK_some h2)
   refine ⟨_,_,by rw[if_neg (by simp)]; simp only[settle]; rw[if_pos g1],g2⟩
theorem callEK_some {P:Program} {E:Ad} {exK:ExK α} {ex:Ex} (hr:Ref exK ex) {f:FuncId} {args:List PV} {H:List Row} {k:PV->Option α} {r:α} (h:callEK P E exK f args H k=some r):
  ∃ p,callE P E.env ex f args H=some p/\k p=some r:=by
 obtain ⟨h0,h⟩:=Ae h
 replace h:=frzsK_some h
 unfold callE
 rw[if_pos h0]
 split at h
 ·rename_i d hd
  obtain ⟨p,g1,g2⟩:=DT.go_some h
  obtain ⟨h1,h2⟩:=oraK_some (ora_orD hd g1) g2
  rw[h1]
  exact ⟨_,rfl,h2⟩
 rename_i hd
 split at h
 ·rename_i p hp
  obtain ⟨h1,h2⟩:=oraK_some (ora_of hd hp) h
  rw[h1]
  exact ⟨_,rfl,h2⟩
 ·rename_i hn
  have:callO E.env f args H=none:=by
   unfold callO
   rw[ora_none hd hn]
  rw[this]
  obtain ⟨p,H',h1,h2⟩:=callIK_some hr h
  obtain ⟨g1,g2⟩:=Ae (frzK_some h2)
  simp only[h1]
  exact ⟨_,by rw[if_pos g1],g2⟩

def yieldK (ex:ExK α) (ro i:Nat) (args:List PV) (H:List Row) (k:PV->List Row->Option α):Option α:=
 match loopAt H i with
 | some ⟨kk,.ready⟩ =>
  need (decide (ro<=i)&&args.length==kk.ps.size)
   (ex ro kk.f kk.asg (setPs kk.S0 kk.ps.toList args) H fun x S1 H1 =>
    match x with
    | .normal =>
     match loopAt H1 i,setSt H1 i .busy with
     | some ⟨_,.ready⟩,some H2 =>
      ex ro kk.f kk.body S1 H2 fun x _ H3 =>
       match x with
       | .normal=>dflt (setSt H3 i .ready) fun H4=>k (.val (.bool true)) H4
       | .exit id=>dflt (setSt H3 i (.done (.exit id))) fun H4=>k (.val (.bool false)) H4
       | .ret=>dflt (setSt H3 i (.done .ret)) fun H4=>k (.val (.bool false)) H4
     | _,_=>none
    | _=>none)
 | _=>none
theorem yieldK_some {exK:ExK α} {ex:Ex} (hr:Ref exK ex) {ro i:Nat} {args:List PV} {H:List Row} {k:PV->List Row->Option α} {r:α} (h:yieldK exK ro i args H k=some r):
  ∃ b H',yieldQ ex ro i args H=some (b,H')/\k (.val (.bool b)) H'=some r:=by
 unfold yieldK at h
 unfold yieldQ
 split at h
 ·rename_i kk hk
  rw[hk]
  obtain ⟨h1,h2⟩:=Ae h
  dsimp only
  rw[if_pos h1]
  obtain ⟨x,S1,H1,h3,h4⟩:=hr _ _ _ _ _ _ _ h2
  rw[h3]
  split at h4
  ·dsimp only
   split at h4
   ·rename_i H2 hl hs
    rw[hl,hs]
    obtain ⟨x,S3,H3,h5,h6⟩:=hr _ _ _ _ _ _ _ h4
    dsimp only
    rw[h5]
    cases x with
    | normal =>
     obtain ⟨H4,h7,h8⟩:=dflt_some h6
     simp only[jumpOf,h7,Option.map_some]
     exact ⟨_,_,rfl,h8⟩
    | exit id =>
     obtain ⟨H4,h7,h8⟩:=dflt_some h6
     simp only[jumpOf,h7,Option.map_some]
     exact ⟨_,_,rfl,h8⟩
    | ret =>
     obtain ⟨H4,h7,h8⟩:=dflt_some h6
     simp only[jumpOf,h7,Option.map_some]
     exact ⟨_,_,rfl,h8⟩
   ·cases h4
  ·cases h4
 ·cases h
def overK (S:List PV) (i:Nat) (H:List Row) (k:PX->List PV->List Row->Option α):Option α:=
 match loopAt H i,setSt H i .over with
 | some ⟨_,.ready⟩,some H'=>k .normal S H'
 | some ⟨_,.done .ret⟩,some H'=>k .ret S H'
 | some ⟨_,.done (.exit id)⟩,some H'=>k (.exit id) S H'
 | _,_=>none
theorem overK_some {S:List PV} {i:Nat} {H:List Row} {k:PX->List PV->List Row->Option α} {r:α} (h:overK S i H k=some r):∃ x S' H',overQ S i H=some (x,S',H')/\k x S' H'=some r:=by
 unfold overK at h
 unfold overQ
 split at h
 ·rename_i h1 h2; rw[h1,h2]; exact ⟨_,_,_,rfl,h⟩
 ·rename_i h1 h2; rw[h1,h2]; exact ⟨_,_,_,rfl,h⟩
 ·rename_i h1 h2; rw[h1,h2]; exact ⟨_,_,_,rfl,h⟩
 ·cases h

def moreEK (P:Program) (E:Ad) (ro:Nat) (H:List Row) (f:Operand->PV) (op:Op) (k:PV->List Row->Option α):Option α:=
 match E.opr ro H f op with
 | some d=>d.go fun r=>k r.1 r.2
 | none=>moreK P ro H f op k
theorem moreEK_some {P:Program} {E:Ad} {ro:Nat} {H:List Row} {f:Operand->PV} {op:Op} {k:PV->List Row->Option α} {r:α} (h:moreEK P E ro H f op k=some r):∃ p H',moreE P E.env ro H f op=some (p,H')/\k p H'=some r:=by
 unfold moreEK at h
 unfold moreE
 split at h
 ·rename_i d hd
  obtain ⟨x,h1,h2⟩:=DT.go_some h
  refine ⟨x.1,x.2,?_,h2⟩
  show (match (E.opr ro H f op).bind DT.run with | some r=>some r | none=>moreQ P ro H f op)=_
  rw[hd]; simp only[Option.bind_some,h1]
 ·rename_i hd
  obtain ⟨p,H',h1,h2⟩:=moreK_some h
  refine ⟨p,H',?_,h2⟩
  show (match (E.opr ro H f op).bind DT.run with | some r=>some r | none=>moreQ P ro H f op)=_
  rw[hd]; exact h1
def stepK (P:Program) (E:Ad) (ex:ExK α) (ro:Nat) (S:List PV) (H:List Row) (o:Oper) (k:PV->List Row->Option α):Option α:=
 match inpE E.inp ro H (ev S) o.op with
 | some r=>k r.1 r.2
 | none =>
 popK P H (ev S) o.op (fun p=>k p H) (newK P H (ev S) o.op (fun p r=>k p (H++[r]))
  (match o.op with
   | .store T a x=>storeK P ro H T (ev S a) (ev S x) fun H'=>k (.val undef) H'
   | .call c =>
    match c.callee with
    | .builtin .append=>match c.args.toList with | [x,y]=>appendK P ro H c (ev S x) (ev S y) k | _=>none
    | .value g=>match ev S g with | .fn (.func f) first cap=>callGK P E ex ro f (first++c.args.toList.map (ev S)++cap) H k | .yld i=>yieldK ex ro i (c.args.toList.map (ev S)) H k | _=>none
    | _=>moreEK P E ro H (ev S) o.op k
   | _=>moreEK P E ro H (ev S) o.op k))
theorem stepK_some {P:Program} {E:Ad} {exK:ExK α} {ex:Ex} (hr:Ref exK ex) {ro:Nat} {S:List PV} {H:List Row} {o:Oper} {k:PV->List Row->Option α} {r:α} (h:stepK P E exK ro S H o k=some r):
  ∃ p H',stepS P E.env ex ro S H o=some (p,H')/\k p H'=some r:=by
 unfold stepK at h
 unfold stepS
 split at h
 ·rename_i r0 hr0
  have hr0':inpE E.env.inp ro H (ev S) o.op=some r0:=hr0
  rw[hr0']; exact ⟨r0.1,r0.2,rfl,h⟩
 rename_i hr0
 have hr0':inpE E.env.inp ro H (ev S) o.op=none:=hr0
 rw[hr0']
 dsimp only
 rcases popK_some h with ⟨p,h1,h2⟩ | ⟨h1,h⟩
 ·exact ⟨p,H,by rw[h1],h2⟩
 ·rw[h1]
  rcases newK_some h with ⟨p,rw',h3,h4⟩ | ⟨h3,h⟩
  ·exact ⟨p,_,by rw[h3],h4⟩
  ·rw[h3]
   dsimp only
   split at h
   ·rename_i hop
    simp only[hop]
    obtain ⟨H',h5,h6⟩:=storeK_some h
    exact ⟨_,_,by rw[h5]; rfl,h6⟩
   ·rename_i c hop
    simp only[hop]
    split at h
    ·rename_i hc
     simp only[hc]
     split at h
     ·rename_i x y ha
      simp only[ha]
      exact appendK_some h
     ·cases h
    ·rename_i g hc
     simp only[hc]
     split at h
     ·rename_i f first cap hg
      simp only[hg]
      exact callGK_some hr h
     ·rename_i i hg
      simp only[hg]
      obtain ⟨b,H',h5,h6⟩:=yieldK_some hr h
      exact ⟨_,_,by rw[h5]; rfl,h6⟩
     ·cases h
    ·obtain ⟨p,H',h5,h6⟩:=moreEK_some h
     refine ⟨p,H',?_,h6⟩
     split
     ·rename_i hc; exact absurd hc (by assumption)
     ·rename_i hc; exact ((by assumption:∀ f,c.callee=.value f->False) _ hc).elim
     ·rw[<- hop]; exact h5
   ·obtain ⟨p,H',h5,h6⟩:=moreEK_some h
    refine ⟨p,H',?_,h6⟩
    split
    ·rename_i hc; exact ((by assumption:∀ T a x,o.op=.store T a x->False) _ _ _ hc).elim
    ·rename_i hc; exact ((by assumption:∀ c,o.op=.call c->False) _ hc).elim
    ·exact h5

def stepEK (P:Program) (E:Ad) (ex:ExK α) (S:List PV) (H:List Row) (o:Oper) (k:PV->List Row->Option α):Option α:=
 popK P H (ev S) o.op (fun p=>k p H) (newK P H (ev S) o.op (fun p r=>k p (H++[r]))
  (match o.op with
   | .call c =>
    match c.callee with
    | .value g=>match ev S g with | .fn (.func f) first cap=>callEK P E ex f (first++c.args.toList.map (ev S)++cap) H fun p=>k p H | _=>none
    | _=>none
   | _=>none))
theorem stepEK_some {P:Program} {E:Ad} {exK:ExK α} {ex:Ex} (hr:Ref exK ex) {S:List PV} {H:List Row} {o:Oper} {k:PV->List Row->Option α} {r:α} (h:stepEK P E exK S H o k=some r):
  ∃ p H',stepE P E.env ex S H o=some (p,H')/\k p H'=some r:=by
 unfold stepEK at h
 unfold stepE
 rcases popK_some h with ⟨p,h1,h2⟩ | ⟨h1,h⟩
 ·exact ⟨p,H,by rw[h1],h2⟩
 ·rw[h1]
  rcases newK_some h with ⟨p,rw',h3,h4⟩ | ⟨h3,h⟩
  ·exact ⟨p,_,by rw[h3],h4⟩
  ·rw[h3]
   dsimp only
   split at h
   ·rename_i c hop
    simp only[hop]
    split at h
    ·rename_i g hc
     simp only[hc]
     split at h
     ·rename_i f first cap hg
      simp only[hg]
      obtain ⟨p,h5,h6⟩:=callEK_some hr h
      exact ⟨p,H,by rw[h5]; rfl,h6⟩
     ·cases h
    ·cases h
   ·cases h

def guardK (ops:Array Oper) (S:List PV) (o:Oper) (k:Bool->List PV->Option α):Option α:=
 match o.guard with
 | none=>k true S
 | some (j,want) =>
  match (ops[j]?).bind (·.dst) with
  | none=>k false S
  | some d =>
   match S[d]? with
   | none=>k false S
   | some (.val (.bool t))=>bif t then k want (S.set d (.val (.bool true))) else k (!want) (S.set d (.val (.bool false)))
   | some (.val _)=>k false S
   | some _=>none
theorem guardK_some {ops:Array Oper} {S:List PV} {o:Oper} {k:Bool->List PV->Option α} {r:α} (h:guardK ops S o k=some r):∃ b S1,guardQ ops S o=some (b,S1)/\k b S1=some r:=by
 unfold guardK at h
 unfold guardQ
 split at h
 ·rename_i hg; rw[hg]; exact ⟨_,_,rfl,h⟩
 ·rename_i j want hg
  rw[hg]
  dsimp only
  split at h
  ·rename_i hd; rw[hd]; exact ⟨_,_,rfl,h⟩
  ·rename_i d hd
   rw[hd]
   dsimp only
   split at h
   ·rename_i hs; rw[hs]; exact ⟨_,_,rfl,h⟩
   ·rename_i t hs
    rw[hs]
    cases t
    ·exact ⟨_,_,rfl,h⟩
    ·exact ⟨_,_,rfl,h⟩
   ·rename_i v hv hs
    rw[hs]
    refine ⟨false,S,?_,h⟩
    cases v <;> first | rfl | exact absurd rfl (hv _)
   ·cases h

def opsK (step:List PV->List Row->Oper->(PV->List Row->Option α)->Option α) (ops:Array Oper):List Oper->List PV->List Row->(List PV->List Row->Option α)->Option α
 | [],S,H,k=>k S H
 | o::os,S,H,k=>guardK ops S o fun w S1 =>
  match w with
  | true=>step S1 H o fun p H1=>opsK step ops os (putS S1 o.dst p) H1 k
  | false=>opsK step ops os (putS S1 o.dst (.val undef)) H k
theorem opsK_some {stK:List PV->List Row->Oper->(PV->List Row->Option α)->Option α} {st:List PV->List Row->Oper->Option (PV × List Row)}
  (hst:∀ S H o k r,stK S H o k=some r->∃ p H',st S H o=some (p,H')/\k p H'=some r) {ops:Array Oper}:
  ∀ {os:List Oper} {S:List PV} {H:List Row} {k:List PV->List Row->Option α} {r:α},opsK stK ops os S H k=some r->∃ S' H',opsQ st ops os S H=some (S',H')/\k S' H'=some r
 | [],S,H,k,r,h=>⟨S,H,rfl,h⟩
 | o::os,S,H,k,r,h=>by
  obtain ⟨w,S1,h1,h2⟩:=guardK_some h
  simp only[opsQ,h1]
  cases w with
  | true =>
   obtain ⟨p,H1,h3,h4⟩:=hst _ _ _ _ _ h2
   simp only[h3]
   exact opsK_some hst (os:=os) h4
  | false=>exact opsK_some hst (os:=os) h2

def stepXK (P:Program) (E:Ad) (ex:ExK α) (K:List Nat) (S:List PV) (H:List Row) (o:Oper) (k:PV->List Row->Option α):Option α:=
 match K with
 | []=>stepEK P E ex S H o k
 | x::K=>popK P (kill (x::K) H) (ev S) o.op (fun p=>k p H) (newK P H (ev S) o.op (fun p r=>k p (H++[r])) none)
theorem stepXK_some {P:Program} {E:Ad} {exK:ExK α} {ex:Ex} (hr:Ref exK ex) {K:List Nat} {S:List PV} {H:List Row} {o:Oper} {k:PV->List Row->Option α} {r:α} (h:stepXK P E exK K S H o k=some r):
  ∃ p H',stepX P E.env ex K S H o=some (p,H')/\k p H'=some r:=by
 cases K with
 | nil=>exact stepEK_some hr h
 | cons x K =>
  unfold stepXK at h
  unfold stepX
  rcases popK_some h with ⟨p,h1,h2⟩ | ⟨h1,h⟩
  ·exact ⟨p,H,by simp only[h1],h2⟩
  ·rcases newK_some h with ⟨p,rw',h3,h4⟩ | ⟨h3,h⟩
   ·exact ⟨p,_,by simp only[h1,h3]; rfl,h4⟩
   ·cases h
def stepMEK (P:Program) (E:Ad) (ex:ExK α) (W R K:List Nat) (S:List PV) (H:List Row) (o:Oper) (k:PV->List Row->Option α):Option α:=
 stepXK P E ex K S (poison R H) o fun p H1 =>
  match H1.drop H.length with
  | []=>k p H
  | [r]=>need (W.contains H.length && !R.contains H.length) (k p (H++[r]))
  | _=>none
theorem stepMEK_some {P:Program} {E:Ad} {exK:ExK α} {ex:Ex} (hr:Ref exK ex) {W R K:List Nat} {S:List PV} {H:List Row} {o:Oper} {k:PV->List Row->Option α} {r:α} (h:stepMEK P E exK W R K S H o k=some r):
  ∃ p H',stepME P E.env ex W R K S H o=some (p,H')/\k p H'=some r:=by
 obtain ⟨p,H1,h1,h2⟩:=stepXK_some hr h
 unfold stepME
 rw[h1]
 dsimp only
 split at h2
 ·rename_i hd; rw[hd]; exact ⟨_,_,rfl,h2⟩
 ·rename_i hd
  rw[hd]
  obtain ⟨h3,h4⟩:=Ae h2
  dsimp only
  rw[if_pos h3]
  exact ⟨_,_,rfl,h4⟩
 ·cases h2
def stepMK (P:Program) (E:Ad) (ex:ExK α) (ro:Nat) (W R K G:List Nat) (S:List PV) (H:List Row) (o:Oper) (k:PV->List Row->Option α):Option α:=
 match o.op with
 | .store T a x =>
  match ev S a with
  | .ptr i n q j=>need (W.contains i && !R.contains i) (storeK P ro H T (.ptr i n q j) (ev S x) fun H'=>k (.val undef) H')
  | _=>none
 | _ =>
  match wcallQ S o.op with
  | some (f,args) =>
   match wRows E.pure f args with
   | []=>stepMEK P E ex W R K S H o k
   | K =>
    need (K.all (fun x=>W.contains x && !R.contains x)&&args.all (argOk H.length)&&decide (ro<=H.length)&&rowsOk 0 (maskH K H))
     (callIK P E ex ro f args (maskH K H) fun p H'=>need (plain p&&rowsOk 0 (maskH K (H'.take H.length))&&shpsB K H H') (k p (backH K H H')))
  | none =>
   match growQ S o.op with
   | some (c,i,x,y)=>need (W.contains i && !R.contains i&&G.contains i&&srcFree R y) (appendK P ro H c x y k)
   | none=>stepMEK P E ex W R K S H o k
theorem stepMK_some {P:Program} {E:Ad} {exK:ExK α} {ex:Ex} (hr:Ref exK ex) {ro:Nat} {W R K G:List Nat} {S:List PV} {H:List Row} {o:Oper} {k:PV->List Row->Option α} {r:α} (h:stepMK P E exK ro W R K G S H o k=some r):
  ∃ p H',stepM P E.env ex ro W R K G S H o=some (p,H')/\k p H'=some r:=by
 unfold stepMK at h
 unfold stepM
 split at h
 ·rename_i hop
  simp only[hop]
  split at h
  ·rename_i ha
   simp only[ha]
   obtain ⟨h1,h2⟩:=Ae h
   rw[if_pos h1]
   obtain ⟨H',h3,h4⟩:=storeK_some h2
   exact ⟨_,_,by rw[h3]; rfl,h4⟩
  ·cases h
 ·rename_i hno
  have key:(∃ p H',(match wcallQ S o.op with
    | some (f,args) =>
     match wRows E.pure f args with
     | []=>stepME P E.env ex W R K S H o
     | K =>
      if K.all (fun x=>W.contains x && !R.contains x)&&args.all (argOk H.length)&&decide (ro<=H.length)&&rowsOk 0 (maskH K H) then
       match callI P E.env ex ro f args (maskH K H) with
       | some (p,H')=>if plain p&&rowsOk 0 (maskH K (H'.take H.length))&&shpsB K H H' then some (p,backH K H H') else none
       | none=>none
      else none
    | none =>
     match growQ S o.op with
     | some (c,i,x,y)=>if W.contains i && !R.contains i&&G.contains i&&srcFree R y then appendQ P ro H c x y else none
     | none=>stepME P E.env ex W R K S H o)=some (p,H')/\k p H'=some r):=by
   split at h
   ·rename_i f args hw
    try rw[hw]
    try dsimp only
    split at h
    ·rename_i hp
     try rw[hp]
     exact stepMEK_some hr h
    ·rename_i hne
     obtain ⟨h1,h2⟩:=Ae h
     obtain ⟨p,H',h3,h4⟩:=callIK_some hr h2
     obtain ⟨h5,h6⟩:=Ae h4
     rw[if_pos h1,h3]
     dsimp only
     rw[if_pos h5]
     exact ⟨_,_,rfl,h6⟩
   ·rename_i hw
    try rw[hw]
    try dsimp only
    split at h
    ·rename_i hg
     try rw[hg]
     try dsimp only
     obtain ⟨h1,h2⟩:=Ae h
     rw[if_pos h1]
     exact appendK_some h2
    ·rename_i hg
     try rw[hg]
     exact stepMEK_some hr h
  obtain ⟨p,H',h1,h2⟩:=key
  refine ⟨p,H',?_,h2⟩
  split
  ·rename_i hop; exact absurd hop (hno _ _ _)
  ·exact h1
noncomputable def callSK (P:Program) (E:Ad) (ex:ExK α) (ro:Nat) (f:FuncId) (args:List PV) (H:List Row) (k:PV->List Row->Option α):Option α:=
 frzsK H 0 args fun ags =>
 match E.orD f ags with
 | some d=>d.go fun r=>oraK r ags args fun p=>k p H
 | none =>
 match E.ora f ags with
 | some r=>oraK r ags args fun p=>k p H
 | none=>callIK P E ex ro f args H fun p H'=>need (sameR (H'.take H.length) H) (k p H')
theorem callSK_some {P:Program} {E:Ad} {exK:ExK α} {ex:Ex} (hr:Ref exK ex) {ro:Nat} {f:FuncId} {args:List PV} {H:List Row} {k:PV->List Row->Option α} {r:α} (h:callSK P E exK ro f args H k=some r):
  ∃ p H',(match callO E.env f args H with | some r=>some (r,H) | none=>match callI P E.env ex ro f args H with | some (p,H')=>if sameR (H'.take H.length) H then some (p,H') else none | none=>none)=some (p,H')/\k p H'=some r:=by
 replace h:=frzsK_some h
 split at h
 ·rename_i d hd
  obtain ⟨p,g1,g2⟩:=DT.go_some h
  obtain ⟨h1,h2⟩:=oraK_some (ora_orD hd g1) g2
  rw[h1]
  exact ⟨_,_,rfl,h2⟩
 rename_i hd
 split at h
 ·rename_i p hp
  obtain ⟨h1,h2⟩:=oraK_some (ora_of hd hp) h
  rw[h1]
  exact ⟨_,_,rfl,h2⟩
 ·rename_i hn
  have:callO E.env f args H=none:=by
   unfold callO
   rw[ora_none hd hn]
  rw[this]
  obtain ⟨p,H',h1,h2⟩:=callIK_some hr h
  obtain ⟨g1,g2⟩:=Ae h2
  dsimp only
  rw[h1]
  dsimp only
  rw[if_pos g1]
  exact ⟨_,_,rfl,g2⟩
noncomputable def stepCK (P:Program) (E:Ad) (ex:ExK α) (ro h0:Nat) (K:List Nat) (S:List PV) (H:List Row) (o:Oper) (k:PV->List Row->Option α):Option α:=
 match stOp o.op with
 | some (T,a,x) =>
  match ev S a with
  | .ptr i n q j=>need (inW h0 K i) (storeK P ro H T (.ptr i n q j) (ev S x) fun H'=>k (.val undef) H')
  | _=>none
 | none =>
  match wcallQ S o.op with
  | some (f,args) =>
   match E.keep f with
   | true=>callSK P E ex ro f args H k
   | false =>
   need (args.all (argM (mpRows args) H.length)&&decide (ro<=H.length)&&rowsOk 0 (maskH (mpRows args) H))
    (callIK P E ex ro f args (maskH (mpRows args) H) fun p H'=>need (plain p&&rowsOk 0 (maskH (mpRows args) (H'.take H.length))&&deadsB (mpRows args) H H') (k p (backH (mpRows args) H H')))
  | none =>
   newK P H (ev S) o.op (fun p r=>k p (H++[r]))
    (match apOp o.op with
    | some (c,x,y)=>need (apOk h0 K (ev S x)) (appendK P ro H c (ev S x) (ev S y) k)
    | none =>
     match E.opr ro H (ev S) o.op with
     | some d=>d.go fun r=>match Nat.beq r.2.length H.length with | true=>k r.1 r.2 | false=>none
     | none=>none)
theorem stepCK_some {P:Program} {E:Ad} {exK:ExK α} {ex:Ex} (hr:Ref exK ex) {ro h0:Nat} {K:List Nat} {S:List PV} {H:List Row} {o:Oper} {k:PV->List Row->Option α} {r:α} (h:stepCK P E exK ro h0 K S H o k=some r):
  ∃ p H',stepC P E.env ex ro h0 K S H o=some (p,H')/\k p H'=some r:=by
 unfold stepCK at h
 unfold stepC
 split at h
 ·rename_i T a x hst
  simp only[hst]
  split at h
  ·rename_i ha
   simp only[ha]
   obtain ⟨h1,h2⟩:=Ae h
   rw[if_pos h1]
   obtain ⟨H',h3,h4⟩:=storeK_some h2
   exact ⟨_,_,by rw[h3]; rfl,h4⟩
  ·cases h
 ·rename_i hst
  simp only[hst]
  split at h
  ·rename_i f args hw
   simp only[hw]
   have hke:E.env.keep f=E.keep f:=rfl
   rw[hke]
   split at h
   ·rename_i hk
    rw[hk]
    exact callSK_some hr h
   rename_i hk
   rw[hk]
   dsimp only
   obtain ⟨h1,h2⟩:=Ae h
   obtain ⟨p,H',h3,h4⟩:=callIK_some hr h2
   obtain ⟨h5,h6⟩:=Ae h4
   rw[if_pos h1,h3]
   dsimp only
   rw[if_pos h5]
   exact ⟨_,_,rfl,h6⟩
  ·rename_i hw
   simp only[hw]
   rcases newK_some h with ⟨p,rw',h3,h4⟩ | ⟨h3,h⟩
   ·exact ⟨p,_,by rw[h3],h4⟩
   ·rw[h3]
    dsimp only
    split at h
    ·rename_i c x y hap
     simp only[hap]
     obtain ⟨h1,h2⟩:=Ae h
     rw[if_pos h1]
     exact appendK_some h2
    ·rename_i hap
     simp only[hap]
     split at h
     ·rename_i d hd
      obtain ⟨x,h1,h2⟩:=DT.go_some h
      have ho:E.env.opr ro H (ev S) o.op=some x:=by
       show (E.opr ro H (ev S) o.op).bind DT.run=some x
       rw[hd]; exact h1
      rw[ho]
      split at h2
      ·rename_i hb
       dsimp only
       rw[if_pos (Nat.eq_of_beq_eq_true hb)]
       exact ⟨_,_,rfl,h2⟩
      ·cases h2
     ·cases h
noncomputable def stepsCK (sf:Bool) (P:Program) (E:Ad) (ex:ExK α) (ro h0:Nat) (W:List (List Nat)) (m:List Nat) (n j:Nat) (S:List PV) (H:List Row) (o:Oper) (k:PV->List Row->Option α):Option α:=
 popK P (kill (confl W m n j) (H.take h0)) (ev S) o.op (fun p=>k p H) (match chainB o.op with | true=>(match sf&&isSoft o.op with | true=>(match E.sft H (ev S) o.op with | some p=>k p H | none=>none) | false=>stepCK P E ex ro h0 (W.getD j []) S H o k) | false=>none)
theorem stepsCK_some {sf:Bool} {P:Program} {E:Ad} {exK:ExK α} {ex:Ex} (hr:Ref exK ex) {ro h0:Nat} {W:List (List Nat)} {m:List Nat} {n j:Nat} {S:List PV} {H:List Row} {o:Oper} {k:PV->List Row->Option α} {r:α} (h:stepsCK sf P E exK ro h0 W m n j S H o k=some r):
  ∃ p H',stepsC sf P E.env ex ro h0 W m n j S H o=some (p,H')/\k p H'=some r:=by
 unfold stepsCK at h
 unfold stepsC
 rcases popK_some h with ⟨p,h1,h2⟩ | ⟨h1,h⟩
 ·exact ⟨p,H,by rw[h1],h2⟩
 ·rw[h1]
  dsimp only
  split at h
  ·rename_i hb
   rw[if_pos hb]
   split at h
   ·rename_i hs
    rw[if_pos hs]
    split at h
    ·rename_i p hp
     have hp':E.env.sft H (ev S) o.op=some p:=hp
     rw[hp']; exact ⟨p,H,rfl,h⟩
    ·cases h
   ·rename_i hs
    rw[if_neg (by rw[hs]; simp)]
    exact stepCK_some hr h
  ·cases h
def stepsMK (P:Program) (E:Ad) (ex:ExK α) (ro:Nat) (W G:List (List Nat)) (m:List Nat) (n j:Nat):List PV->List Row->Oper->(PV->List Row->Option α)->Option α:=
 stepMK P E ex ro (W.getD j []) (confl W m n j) (confl G m n j) (G.getD j [])
def stepPK (P:Program) (E:Ad) (ex:ExK α) (S:List PV) (H:List Row) (o:Oper) (k:PV->List Row->Option α):Option α:=
 stepEK P E ex S H o fun p H1=>match Nat.beq H1.length H.length with | true=>k p H | false=>none
theorem stepPK_some {P:Program} {E:Ad} {exK:ExK α} {ex:Ex} (hr:Ref exK ex) {S:List PV} {H:List Row} {o:Oper} {k:PV->List Row->Option α} {r:α} (h:stepPK P E exK S H o k=some r):
  ∃ p H',stepP P E.env ex S H o=some (p,H')/\k p H'=some r:=by
 obtain ⟨p,H1,h1,h2⟩:=stepEK_some hr h
 unfold stepP
 rw[h1]
 dsimp only
 split at h2
 ·rename_i hb
  rw[if_pos (Nat.eq_of_beq_eq_true hb)]
  exact ⟨_,_,rfl,h2⟩
 ·cases h2
def stepsPK (P:Program) (E:Ad) (ex:ExK α) (ro pv j:Nat) (S:List PV) (H:List Row) (o:Oper) (k:PV->List Row->Option α):Option α:=
 match Nat.beq j pv with
 | true=>stepK P E ex ro S H o k
 | false=>stepPK P E ex S H o k
theorem stepsPK_some {P:Program} {E:Ad} {exK:ExK α} {ex:Ex} (hr:Ref exK ex) {ro pv j:Nat} {S:List PV} {H:List Row} {o:Oper} {k:PV->List Row->Option α} {r:α} (h:stepsPK P E exK ro pv j S H o k=some r):
  ∃ p H',stepsP P E.env ex ro pv j S H o=some (p,H')/\k p H'=some r:=by
 unfold stepsPK at h
 unfold stepsP
 split at h
 ·rename_i hb
  rw[if_pos (Nat.eq_of_beq_eq_true hb)]
  exact stepK_some hr h
 ·rename_i hb
  rw[if_neg (Nat.ne_of_beq_eq_false hb)]
  exact stepPK_some hr h
def opsJK (step:Nat->List PV->List Row->Oper->(PV->List Row->Option α)->Option α) (ops:Array Oper):Nat->List Oper->List PV->List Row->(List PV->List Row->Option α)->Option α
 | _,[],S,H,k=>k S H
 | j,o::os,S,H,k=>guardK ops S o fun w S1 =>
  match w with
  | true=>step j S1 H o fun p H1=>opsJK step ops (j+1) os (putS S1 o.dst p) H1 k
  | false=>opsJK step ops (j+1) os (putS S1 o.dst (.val undef)) H k
theorem opsJK_some {stK:Nat->List PV->List Row->Oper->(PV->List Row->Option α)->Option α} {st:Nat->List PV->List Row->Oper->Option (PV × List Row)}
  (hst:∀ j S H o k r,stK j S H o k=some r->∃ p H',st j S H o=some (p,H')/\k p H'=some r) {ops:Array Oper}:
  ∀ {os:List Oper} {j:Nat} {S:List PV} {H:List Row} {k:List PV->List Row->Option α} {r:α},opsJK stK ops j os S H k=some r->∃ S' H',opsJ st ops j os S H=some (S',H')/\k S' H'=some r
 | [],j,S,H,k,r,h=>⟨S,H,rfl,h⟩
 | o::os,j,S,H,k,r,h=>by
  obtain ⟨w,S1,h1,h2⟩:=guardK_some h
  simp only[opsJ,h1]
  cases w with
  | true =>
   obtain ⟨p,H1,h3,h4⟩:=hst _ _ _ _ _ _ h2
   simp only[h3]
   exact opsJK_some hst (os:=os) h4
  | false=>exact opsJK_some hst (os:=os) h2

def iterK (body:List PV->List Row->(PX->List PV->List Row->Option α)->Option α) (live:Option (List Tmp)) (ro:Nat):Nat->List PV->List Row->(PX->List PV->List Row->Option α)->Option α
 | 0,_,_,_=>none
 | m+1,S,H,k =>
  body (keepS live S) H fun x S1 H1 =>
   match x with
   | .normal=>bif mlts H.length (keepS live S1)&&decide (H.length<=H1.length)&&rowsOk H.length (H1.take H.length)&&decide (ro<=H.length) then iterK body live ro m (trimS H.length (keepS live S1)) (H1.take H.length) k
    else iterK body live ro m (keepS live S1) H1 k
   | .exit i=>k (.exit i) S1 H1
   | .ret=>k .ret S1 H1
theorem iterK_some {bK:List PV->List Row->(PX->List PV->List Row->Option α)->Option α} {b:List PV->List Row->Option (PX × List PV × List Row)}
  (hb:∀ S H k r,bK S H k=some r->∃ x S' H',b S H=some (x,S',H')/\k x S' H'=some r) {live:Option (List Tmp)} {ro:Nat}:
  ∀ {m:Nat} {S:List PV} {H:List Row} {k:PX->List PV->List Row->Option α} {r:α},iterK bK live ro m S H k=some r->∃ x S' H',iterQ b live ro m S H=some (x,S',H')/\k x S' H'=some r
 | 0,_,_,_,_,h=>by cases h
 | m+1,S,H,k,r,h=>by
  obtain ⟨x,S1,H1,h1,h2⟩:=hb _ _ _ _ h
  simp only[iterQ,h1]
  cases x with
  | normal =>
   dsimp only at h2 ⊢
   split
   ·rename_i g1
    rw[g1] at h2
    exact iterK_some hb (m:=m) h2
   ·rename_i g1
    rw[Bool.not_eq_true] at g1
    rw[g1] at h2
    exact iterK_some hb (m:=m) h2
  | exit i=>exact ⟨_,_,_,rfl,h2⟩
  | ret=>exact ⟨_,_,_,rfl,h2⟩

def askSl (H:List Row) (h:Nat):PV->Bool
 | .sl i n _ _=>match decide (h<=i) with | true=>(match rowAt H i with | some r => !r.bv||(r.es.length==n) | none=>true) | false=>true
 | _=>true
def lfzU (P:Program) (H:List Row) (h:Nat):PV->PV
 | .sl i n k len =>
  match decide (h<=i) with
  | true =>
   match rowAt H i with
   | some r=>match r.bv with | true=>.Ac false r.t ((r.es.drop k).take len) | false=>lfz P H h (.sl i n k len)
   | none=>lfz P H h (.sl i n k len)
  | false=>lfz P H h (.sl i n k len)
 | p=>lfz P H h p
theorem lfzU_eq {P:Program} {H:List Row} {h:Nat} {p:PV} (ha:askSl H h p=true):lfzU P H h p=lfz P H h p:=by
 unfold lfzU
 split
 ·rename_i i n k len
  split
  ·rename_i hi
   split
   ·rename_i r hr
    split
    ·rename_i hb
     unfold askSl at ha
     simp only[hi,hr,hb,Bool.not_true,Bool.false_or,beq_iff_eq] at ha
     have hi':=of_decide_eq_true hi
     have hf:frz H h (.sl i n k len)=.Ac false r.t ((r.es.drop k).take len):=by
      unfold frz
      rw[if_pos hi',hr]
      dsimp only
      rw[if_pos (by simp[hb,ha])]
     show _=(match mlt h (frz H h (.sl i n k len)) with | true=>frz H h (.sl i n k len) | false=>.any)
     rw[hf]; rfl
    ·rfl
   ·rfl
  ·rfl
 ·rfl
def deepEU (P:Program) (H:List Row) (h:Nat) (e:PV):PV:=.agg (e.cells.map (lfzU P H h))
def deepRU (P:Program) (H:List Row) (h:Nat) (r:Row):Row:=
 match r.live with
 | false=>r
 | true=>match r.bv with | true=>r | false=>{ r with es:=r.es.map (deepEU P H h),bv:=(r.es.map (deepEU P H h)).all (wt P r.t) }
def askR (H:List Row) (h:Nat) (r:Row):Bool:=!r.live||r.bv||r.es.all fun e=>e.cells.all (askSl H h)
theorem deepRU_eq {P:Program} {H:List Row} {h:Nat} {r:Row} (ha:askR H h r=true):deepRU P H h r=deepR P H h r:=by
 unfold deepRU deepR
 cases hl:r.live with
 | false=>rfl
 | true =>
  cases hb:r.bv with
  | true=>rfl
  | false =>
   unfold askR at ha
   simp only[hl,hb,Bool.not_true,Bool.false_or,List.all_eq_true] at ha
   have he:r.es.map (deepEU P H h)=r.es.map (deepE P H h):=List.map_congr_left fun e hm=>by
    unfold deepEU deepE
    congr 1
    exact List.map_congr_left fun c hc=>lfzU_eq (ha e hm c hc)
   dsimp only
   rw[he]
def dropU (P:Program) (ro h:Nat) (S:List PV) (H:List Row):List PV × List Row:=
 match Nat.beq ro 0&&decide (h<=H.length)&&lpOk h (H.take h)&&(H.drop h).all (fun r=>r.lp.isNone) with
 | true=>(S.map (lfzU P H h),(H.take h).map (deepRU P H h)++List.replicate (H.length-h) deadRow0)
 | false=>(S,H)
def askAll (h:Nat) (S:List PV) (H:List Row):Bool:=S.all (askSl H h)&&(H.take h).all (askR H h)
theorem dropU_eq {P:Program} {ro h:Nat} {S:List PV} {H:List Row} (ha:askAll h S H=true):dropU P ro h S H=dropQ P ro (some (h,true)) S H:=by
 simp only[askAll,Bool.and_eq_true,List.all_eq_true] at ha
 have e1:S.map (lfzU P H h)=S.map (lfz P H h):=List.map_congr_left fun p hp=>lfzU_eq (ha.1 p hp)
 have e2:(H.take h).map (deepRU P H h)=(H.take h).map (deepR P H h):=List.map_congr_left fun r hr=>deepRU_eq (ha.2 r hr)
 unfold dropU dropQ
 dsimp only
 rw[e1,e2]
 cases (Nat.beq ro 0&&decide (h<=H.length)&&lpOk h (H.take h)&&(H.drop h).all (fun r=>r.lp.isNone)) <;> rfl
def dropK (P:Program) (ro:Nat) (o:Option (Nat × Bool)) (S:List PV) (H:List Row) (k:List PV->List Row->Option α):Option α:=
 match o with
 | some (h,true)=>need (askAll h S H) (k (dropU P ro h S H).1 (dropU P ro h S H).2)
 | o=>k (dropQ P ro o S H).1 (dropQ P ro o S H).2
theorem dropK_some {P:Program} {ro:Nat} {o:Option (Nat × Bool)} {S:List PV} {H:List Row} {k:List PV->List Row->Option α} {r:α} (h:dropK P ro o S H k=some r):k (dropQ P ro o S H).1 (dropQ P ro o S H).2=some r:=by
 unfold dropK at h
 split at h
 ·obtain ⟨h1,h2⟩:=Ae h
  rw[dropU_eq h1] at h2
  exact h2
 ·exact h
def setC (S:List PV) (c:Operand) (b:Bool):List PV:=match c with | .tmp d=>S.set d (.val (.bool b)) | _=>S
theorem setC_same {S:List PV} {c:Operand} {b:Bool} (h:ev S c=.val (.bool b)):setC S c b=S:=by
 cases c with
 | tmp d =>
  show S.set d (.val (.bool b))=S
  have h':S.getD d (.val undef)=.val (.bool b):=h
  apply List.ext_getElem?
  intro i
  rw[List.getElem?_set]
  split
  ·rename_i e; subst e
   split
   ·rename_i hl
    rw[<- h']
    simp[List.getD,List.getElem?_eq_getElem hl]
   ·rename_i hl; exact (List.getElem?_eq_none (by omega)).symm
  ·rfl
 | _=>rfl

noncomputable def execK (P:Program) (E:Ad):Nat->ExK α
 | 0=>fun _ _ _ _ _ _=>none
 | n+1=>fun ro f c S H k =>
  match c with
  | .skip=>k .normal S H
  | .label _=>k .normal S H
  | .region id ops draw =>
   dropK P ro (relD H.length (E.drop f id)) (forget (E.fgt f id) S) H fun S H =>
    match draw with
    | true =>
     match drawOk P ops.toList with
     | true =>
      match E.chain f id with
      | true =>
       match chainOk (E.soft f id) (masks ops.toList []) ops.toList with
       | true=>opsJK (stepsCK (E.soft f id) P E (execK P E n) ro H.length (guessK P H S ops.toList H.length) (masks ops.toList []) ops.size) ops 0 ops.toList S H fun S' H'=>k .normal S' H'
       | false=>none
      | false =>
      match pivotE (E.piv f id) ops.toList S with
      | some pv =>
       match pivotOk (masks ops.toList []) ops.size pv with
       | true=>opsJK (stepsPK P E (execK P E n) ro pv) ops 0 ops.toList S H fun S' H'=>k .normal S' H'
       | false=>none
      | none =>
       match mixed (guessW E.pure H S ops.toList H.length) with
       | true=>opsJK (stepsMK P E (execK P E n) ro ((guessW E.pure H S ops.toList H.length).map fun x=>x.2.1) ((guessW E.pure H S ops.toList H.length).map fun x=>x.2.2) (masks ops.toList []) ops.size) ops 0 ops.toList S H fun S' H'=>k .normal S' H'
       | false=>opsK (stepEK P E (execK P E n)) ops ops.toList S H fun S' H'=>k .normal S' H'
     | false=>none
    | false=>opsK (stepK P E (execK P E n) ro) ops ops.toList S H fun S' H'=>k .normal S' H'
  | .seq a b=>execK P E n ro f a S H fun x S1 H1 =>
   match x with
   | .normal=>execK P E n ro f b S1 H1 k
   | .exit i=>k (.exit i) S1 H1
   | .ret=>k .ret S1 H1
  | .cond c x y =>
   match ev S c with
   | .val (.bool t)=>bif t then execK P E n ro f x (setC S c true) H k else execK P E n ro f y (setC S c false) H k
   | _=>none
  | .block id b=>execK P E n ro f b S H fun x S1 H1 =>
   match x with
   | .exit i=>bif decide (i=id) then k .normal S1 H1 else k (.exit i) S1 H1
   | .normal=>k .normal S1 H1
   | .ret=>k .ret S1 H1
  | .loop b =>
   match nilsQ ro (E.nils f (rid b)) S H with
   | (S0,H0) =>
    match E.lo f ro (rid b) (keepS (E.live f (rid b)) S0) H0 with
    | some d=>d.go fun r=>k r.1 r.2.1 r.2.2
    | none=>iterK (execK P E n ro f b) (E.live f (rid b)) ro n S0 H0 k
  | .scope b=>execK P E n ro f b S H k
  | .exit id=>k (.exit id) S H
  | .ret=>k .ret S H
  | .rangeFunc g ps asg body =>
   match keepS (E.live f (rid asg)) S with
   | S0 =>
    match ev S0 g with
    | .fn (.func kf) first cap=>callIK P E (execK P E n) ro kf (first++[.yld H.length]++cap) (H++[loopRow f S0 ps asg body]) fun _ H2=>overK S0 H.length H2 k
    | _=>none
  | _=>none

theorem execK_ref {P:Program} {E:Ad}:∀ n,Ref (α:=α) (execK P E n) (exec P E.env n)
 | 0=>fun _ _ _ _ _ _ _ h=>by cases h
 | n+1=>fun ro f c S H k r h=>by
  have ih:=execK_ref (P:=P) (E:=E) n
  cases c <;> simp only[execK,reduceCtorEq] at h
  case skip=>exact ⟨_,_,_,rfl,h⟩
  case label=>exact ⟨_,_,_,rfl,h⟩
  case region id ops draw =>
   have h:=dropK_some h
   have hdr0:E.env.drop f id=E.drop f id:=rfl
   have hfg0:E.env.fgt f id=E.fgt f id:=rfl
   simp only[exec,hdr0,hfg0]
   generalize dropQ P ro (relD H.length (E.drop f id)) (forget (E.fgt f id) S) H=SH at h ⊢
   obtain ⟨S,H⟩:=SH
   dsimp only at h ⊢
   split at h
   ·rename_i hdr
    split at h
    ·rename_i hok
     have hch0:E.env.chain f id=E.chain f id:=rfl
     rw[if_pos rfl,if_pos hok,hch0]
     split at h
     ·rename_i hch
      rw[if_pos hch]
      split at h
      ·rename_i hco
       obtain ⟨S',H',h1,h2⟩:=opsJK_some (stK:=stepsCK (E.soft f id) P E (execK P E n) ro H.length (guessK P H S ops.toList H.length) (masks ops.toList []) ops.size) (st:=stepsC (E.soft f id) P E.env (exec P E.env n) ro H.length (guessK P H S ops.toList H.length) (masks ops.toList []) ops.size) (fun j S1 H1 o k r h=>stepsCK_some ih h) h
       exact ⟨_,_,_,by rw[show E.env.soft f id=E.soft f id from rfl,if_pos hco,h1]; rfl,h2⟩
      ·cases h
     rename_i hch
     rw[if_neg (by rw[hch]; simp)]
     split at h
     ·rename_i pv hpn
      split at h
      ·rename_i hpo
       obtain ⟨S',H',h1,h2⟩:=opsJK_some (stK:=stepsPK P E (execK P E n) ro pv) (st:=stepsP P E.env (exec P E.env n) ro pv) (fun j S1 H1 o k r h=>stepsPK_some ih h) h
       exact ⟨_,_,_,by simp only[show pivotE (E.env.piv f id) ops.toList S=_ from hpn]; rw[if_pos hpo,h1]; rfl,h2⟩
      ·cases h
     ·rename_i hpn
      split at h
      ·rename_i hm
       obtain ⟨S',H',h1,h2⟩:=opsJK_some (stK:=stepsMK P E (execK P E n) ro ((guessW E.pure H S ops.toList H.length).map (fun x:Bool × List Nat × List Nat=>x.2.1)) ((guessW E.pure H S ops.toList H.length).map (fun x:Bool × List Nat × List Nat=>x.2.2)) (masks ops.toList []) ops.size) (st:=stepsM P E.env (exec P E.env n) ro ((guessW E.env.pure H S ops.toList H.length).map (fun x:Bool × List Nat × List Nat=>x.2.1)) ((guessW E.env.pure H S ops.toList H.length).map (fun x:Bool × List Nat × List Nat=>x.2.2)) (masks ops.toList []) ops.size) (fun j S1 H1 o k r (h:stepMK P E (execK P E n) ro _ _ _ _ S1 H1 o k=some r)=>stepMK_some ih h) h
       exact ⟨_,_,_,by simp only[show pivotE (E.env.piv f id) ops.toList S=_ from hpn]; rw[if_pos (show mixed (guessW E.env.pure H S ops.toList H.length)=true from hm),h1]; rfl,h2⟩
      ·rename_i hm
       obtain ⟨S',H',h1,h2⟩:=opsK_some (st:=stepE P E.env (exec P E.env n)) (fun S H o k r h=>stepEK_some ih h) h
       exact ⟨_,_,_,by simp only[show pivotE (E.env.piv f id) ops.toList S=_ from hpn]; rw[if_neg (show ¬ mixed (guessW E.env.pure H S ops.toList H.length)=true from by rw[show mixed (guessW E.env.pure H S ops.toList H.length)=false from hm]; simp),h1]; rfl,h2⟩
    ·cases h
   ·rename_i hdr
    obtain ⟨S',H',h1,h2⟩:=opsK_some (st:=stepS P E.env (exec P E.env n) ro) (fun S H o k r h=>stepK_some ih h) h
    exact ⟨_,_,_,by rw[if_neg (by simp),h1]; rfl,h2⟩
  case seq a b =>
   obtain ⟨x,S1,H1,h1,h2⟩:=ih _ _ _ _ _ _ _ h
   simp only[exec,h1]
   cases x with
   | normal=>exact ih _ _ _ _ _ _ _ h2
   | exit i=>exact ⟨_,_,_,rfl,h2⟩
   | ret=>exact ⟨_,_,_,rfl,h2⟩
  case cond c x y =>
   split at h
   ·rename_i t ht
    simp only[exec,ht]
    cases t
    ·simp only[cond_false,setC_same ht] at h; exact ih _ _ _ _ _ _ _ h
    ·simp only[cond_true,setC_same ht] at h; exact ih _ _ _ _ _ _ _ h
   ·cases h
  case block id b =>
   obtain ⟨x,S1,H1,h1,h2⟩:=ih _ _ _ _ _ _ _ h
   simp only[exec,h1]
   cases x with
   | normal=>exact ⟨_,_,_,rfl,h2⟩
   | ret=>exact ⟨_,_,_,rfl,h2⟩
   | exit i =>
    dsimp only at h2 ⊢
    by_cases hi:i=id
    ·rw[if_pos hi]; simp only[hi,decide_true,cond_true] at h2; exact ⟨_,_,_,rfl,h2⟩
    ·rw[if_neg hi]; simp only[hi,decide_false,cond_false] at h2; exact ⟨_,_,_,rfl,h2⟩
  case loop b =>
   simp only[exec]
   show ∃ x S' H',(match (E.lo f ro (rid b) (keepS (E.live f (rid b)) (nilsQ ro (E.nils f (rid b)) S H).1) (nilsQ ro (E.nils f (rid b)) S H).2).bind DT.run with | some r=>some r | none=>iterQ (exec P E.env n ro f b) (E.live f (rid b)) ro n (nilsQ ro (E.nils f (rid b)) S H).1 (nilsQ ro (E.nils f (rid b)) S H).2)=some (x,S',H')/\_
   generalize nilsQ ro (E.nils f (rid b)) S H=SH at h ⊢
   obtain ⟨S0,H0⟩:=SH
   dsimp only at h ⊢
   split at h
   ·rename_i d hd
    obtain ⟨a,h1,h2⟩:=DT.go_some h
    rw[hd]
    simp only[Option.bind_some,h1]
    exact ⟨_,_,_,rfl,h2⟩
   ·rename_i hd
    rw[hd]
    exact iterK_some (fun S H k r h=>ih _ _ _ _ _ _ _ h) h
  case scope b=>exact ih _ _ _ _ _ _ _ h
  case exit id=>exact ⟨_,_,_,rfl,h⟩
  case ret=>exact ⟨_,_,_,rfl,h⟩
  case rangeFunc g ps asg body =>
   split at h
   ·rename_i kf first cap hg
    simp only[exec]
    rw[show E.env.live=E.live from rfl,hg]
    obtain ⟨p,H2,h1,h2⟩:=callIK_some ih h
    simp only[h1]
    exact overK_some h2
   ·cases h
end

noncomputable def Ah (P:Program) (E:Ad) (n:Nat) (f:FuncId) (args:List PV):Option PV:=
 need (mlts 0 args) (callXK P (execK P E n) 0 f args [] fun p H'=>frzK H' 0 p fun q=>need (mlt 0 q) (some q))
noncomputable def runR (P:Program) (E:Ad) (n:Nat) (ro:Nat) (f:FuncId) (args:List PV) (H:List Row):Option (PV × List Row):=
 callXK P (execK P E n) ro f args H fun p H'=>some (p,H')
theorem runR_sound {P:Program} {E:Ad} (hE:Ab P E.env) {n ro:Nat} {f:FuncId} {args:List PV} {H H':List Row} {p:PV} (h:runR P E n ro f args H=some (p,H')):Enters P f/\RCall P ro f args H p H':=by
 obtain ⟨q,H1,h1,h2⟩:=callXK_some (execK_ref n) h
 cases h2
 refine ⟨?_,fun C hH hro hR Vs hv => ?_⟩
 ·intro Vs w
  unfold callX at h1
  split at h1
  ·rename_i fn hfn
   split at h1
   ·rename_i b hb
    split at h1
    ·cases h1
    ·rename_i hn; simp[callFunc,hfn,hb]; simpa using hn
   ·cases h1
  ·cases h1
 ·subst hH
  exact (callX_sound hE (exec_ok hE n) hR hro hv h1).2
theorem callX_enters {P:Program} {ex:Ex} {ro:Nat} {f:FuncId} {args:List PV} {H H':List Row} {p:PV} (h1:callX P ex ro f args H=some (p,H')):Enters P f:=by
 intro Vs w
 unfold callX at h1
 split at h1
 ·rename_i fn hfn
  split at h1
  ·rename_i b hb
   split at h1
   ·cases h1
   ·rename_i hn; simp[callFunc,hfn,hb]; simpa using hn
  ·cases h1
 ·cases h1
theorem Aa {P:Program} {E:Ad} (hE:Ab P E.env) {n:Nat} {f:FuncId} {args:List PV} {p:PV} (h:Ah P E n f args=some p):Enters P f/\Ak P f args p:=by
 obtain ⟨hm,h⟩:=Ae h
 obtain ⟨q,H2,hI,h2⟩:=callXK_some (execK_ref n) h
 obtain ⟨hq,h2⟩:=Ae (frzK_some h2)
 cases h2
 refine ⟨callX_enters hI,fun C hR Vs hv => ?_⟩
 have hRc:RH P (C.cut 0 True 0):=hR.cut (Nat.zero_le _) (Nat.le_refl _) (by simp[rowsOk])
 have hvc:Cs P (C.cut 0 True 0) args Vs:=⟨hv.1,fun j c v h1 h2=>(hv.2 j c v h1 h2).cut (Nat.zero_le _) (mlts_get hm h1)⟩
 have g2:=(callX_sound hE (exec_ok hE n) (C:=C.cut 0 True 0) hRc rfl hvc hI).2
 refine g2.mono ?_
 rintro e w' ⟨V,C',rfl,rfl,hc⟩
 refine ⟨V,rfl,back_same hc.ext,?_⟩
 have hH2:=hc.H
 subst hH2
 have h1:=hc.rv.frz (ro:=C'.ro) hc.rh (Nat.zero_le _) hq
 have hx2:Ext (C.cut 0 True 0) (C'.cut 0 False C'.ro):=hc.ext.cut (Nat.zero_le _) (Nat.zero_le _) (Nat.zero_le _)
 exact RV.back (Ci:=C'.cut 0 False C'.ro) (Nat.zero_le _) hx2 h1 hq

def nrm:PV->PV
 | .val (.agg a)=>.agg (a.toList.map .val)
 | p=>p
theorem RV.nrm {P:Program} {C:Ctx} {p:PV} {V:Value} (h:RV P C p V):RV P C (nrm p) V:=by
 unfold Hx.nrm
 split
 ·cases h
  refine .agg (by simp) fun j c v h1 h2 => ?_
  simp only[List.getElem?_map,Option.map_eq_some_iff] at h1
  obtain ⟨x,hx,rfl⟩:=h1
  have:x=v:=Option.some.inj (hx.symm.trans (by rw[Array.getElem?_toList]; exact h2))
  subst this
  exact .val
 ·exact h
theorem Cs.nrm {P:Program} {C:Ctx} {ps:List PV} {Vs:Array Value} (h:Cs P C ps Vs):Cs P C (ps.map Hx.nrm) Vs:=by
 refine ⟨by simpa using h.1,fun j c v h1 h2 => ?_⟩
 simp only[List.getElem?_map,Option.map_eq_some_iff] at h1
 obtain ⟨x,hx,rfl⟩:=h1
 exact (h.2 j x v hx h2).nrm

def Ad.addO (E:Ad) (k:FuncId) (c:List PV->Option PV):Ad:={ E with ora:=fun f a=>if f=k then c (a.map nrm) else E.ora f a }
def Ad.addC (E:Ad) (k:FuncId) (c:Nat->List PV->List Row->Option (DT (PV × List Row))):Ad:={ E with cal:=fun ro f a H=>if f=k then c ro a H else E.cal ro f a H }
def Ad.addN (E:Ad) (k:FuncId) (i:Nat) (l:List (Tmp × TypeId × Nat)):Ad:={ E with nils:=fun f j=>if f=k then (if j=i then l else E.nils f j) else E.nils f j }
def Ad.addK (E:Ad) (k:FuncId):Ad:={ E with keep:=fun f=>if f=k then true else E.keep f }

def Ad.addDrop (E:Ad) (k:FuncId) (i h:Nat):Ad:={ E with drop:=fun f j=>if f=k then (if j=i then some (h,false) else E.drop f j) else E.drop f j }
def Ad.addFgt (E:Ad) (k:FuncId) (i:Nat) (ks:List Nat):Ad:={ E with fgt:=fun f j=>if f=k then (if j=i then ks else E.fgt f j) else E.fgt f j }
def Ad.addDeep (E:Ad) (k:FuncId) (i h:Nat):Ad:={ E with drop:=fun f j=>if f=k then (if j=i then some (h,true) else E.drop f j) else E.drop f j }

theorem LoH.mono {P:Program} {E E':Env} {f:FuncId} (h:∀ ro i S H x S' H',E'.lo f ro i S H=some (x,S',H')->E.lo f ro i S H=some (x,S',H')):∀ {c:Code},LoH P E f c->LoH P E' f c
 | .seq a b,hc=>⟨LoH.mono h (c:=a) hc.1,LoH.mono h (c:=b) hc.2⟩
 | .cond _ x y,hc=>⟨LoH.mono h (c:=x) hc.1,LoH.mono h (c:=y) hc.2⟩
 | .block _ b,hc=>LoH.mono h (c:=b) hc
 | .scope b,hc=>LoH.mono h (c:=b) hc
 | .loop b,hc=>⟨fun ro S H x S' H' g=>hc.1 ro S H x S' H' (h _ _ _ _ _ _ _ g),LoH.mono h (c:=b) hc.2⟩
 | .rangeFunc _ _ a b,hc=>⟨LoH.mono h (c:=a) hc.1,LoH.mono h (c:=b) hc.2⟩
 | .skip,_ | .label _,_ | .region _ _ _,_ | .exit _,_ | .ret,_ | .goto _,_ | .refuse _,_=>trivial

theorem Af {P:Program}:Ab P ({}:Ad).env where
 opr:=fun _ _ _ _ _ _ h=>by cases h
 inp:=fun _ _ _ _ _ _ h=>by cases h
 sft:=fun _ _ _ _ h=>by cases h
 sftE:=fun _ _ _ _ _ _ _ _ h=>by cases h
 ent:=fun _ _ _ h=>by cases h
 cal:=fun _ _ _ _ _ _ h=>by cases h
 ora:=fun _ _ _ h=>by cases h
 lo:=fun k fn b _ _=>by
  have:∀ c:Code,LoH P ({}:Ad).env k c:=by
   intro c
   induction c with
   | seq a b iha ihb=>exact ⟨iha,ihb⟩
   | cond c x y ihx ihy=>exact ⟨ihx,ihy⟩
   | block i b ih=>exact ih
   | scope b ih=>exact ih
   | loop b ih=>exact ⟨fun _ _ _ _ _ _ h=>(by cases h),ih⟩
   | rangeFunc g ps a b iha ihb=>exact ⟨iha,ihb⟩
   | _=>trivial
  exact this b
theorem ora_addO {E:Ad} {k:FuncId} {c:List PV->Option PV} {f:FuncId} {a:List PV} {r:PV} (h:(E.addO k c).env.ora f a=some r):(f=k/\c (a.map nrm)=some r)\/E.env.ora f a=some r:=by
 change (match E.orD f a with | some d=>d.run | none=>if f=k then c (a.map nrm) else E.ora f a)=some r at h
 split at h
 ·rename_i d hd; exact .inr (ora_orD hd h)
 ·rename_i hd
  split at h
  ·rename_i e; exact .inl ⟨e,h⟩
  ·exact .inr (ora_of hd h)
theorem Ab.addO {P:Program} {E:Ad} (hE:Ab P E.env) {k:FuncId} {c:List PV->Option PV} (hc:∀ args r,c args=some r->Enters P k/\Ak P k args r):Ab P (E.addO k c).env where
 opr:=hE.opr
 inp:=hE.inp
 sft:=hE.sft
 sftE:=hE.sftE
 ent:=fun f a r h=>by
  rcases ora_addO h with ⟨e,g⟩ | h
  ·subst e; exact (hc _ _ g).1
  ·exact hE.ent f a r h
 cal:=hE.cal
 ora:=fun f a r h=>by
  rcases ora_addO h with ⟨e,g⟩ | h
  ·subst e
   exact fun C hR Vs hv=>(hc _ _ g).2 C hR Vs hv.nrm
  ·exact hE.ora f a r h
 lo:=fun f fn b h1 h2=>LoH.mono (E:=E.env) (E':=(E.addO k c).env) (fun _ _ _ _ _ _ _ h=>h) (hE.lo f fn b h1 h2)
def Ad.Ag (E:Ad) (k:FuncId) (c:List PV->Option (DT PV)):Ad:={ E with orD:=fun f a=>if f=k then (match c (a.map nrm) with | some d=>some d | none=>E.orD f a) else E.orD f a }
theorem ora_addF {E:Ad} {k:FuncId} {c:List PV->Option (DT PV)} {f:FuncId} {a:List PV} {r:PV} (h:(E.Ag k c).env.ora f a=some r):(f=k/\∃ d,c (a.map nrm)=some d/\d.run=some r)\/E.env.ora f a=some r:=by
 change (match (if f=k then (match c (a.map nrm) with | some d=>some d | none=>E.orD f a) else E.orD f a) with | some d=>d.run | none=>E.ora f a)=some r at h
 by_cases e:f=k
 ·rw[if_pos e] at h
  cases hc:c (a.map nrm) with
  | some d=>rw[hc] at h; exact .inl ⟨e,d,rfl,h⟩
  | none=>rw[hc] at h; exact .inr h
 ·rw[if_neg e] at h; exact .inr h
theorem Ab.Ag {P:Program} {E:Ad} (hE:Ab P E.env) {k:FuncId} {c:List PV->Option (DT PV)} (hent:Enters P k) (hc:∀ args d r,c args=some d->d.run=some r->Ak P k args r):Ab P (E.Ag k c).env where
 opr:=hE.opr
 inp:=hE.inp
 sft:=hE.sft
 sftE:=hE.sftE
 ent:=fun f a r h=>by
  rcases ora_addF h with ⟨e,_⟩ | h
  ·subst e; exact hent
  ·exact hE.ent f a r h
 cal:=hE.cal
 ora:=fun f a r h=>by
  rcases ora_addF h with ⟨e,d,h1,h2⟩ | h
  ·subst e
   exact fun C hR Vs hv=>hc _ _ _ h1 h2 C hR Vs hv.nrm
  ·exact hE.ora f a r h
 lo:=fun f fn b h1 h2=>LoH.mono (E:=E.env) (E':=(E.Ag k c).env) (fun _ _ _ _ _ _ _ h=>h) (hE.lo f fn b h1 h2)
theorem Ab.addC {P:Program} {E:Ad} (hE:Ab P E.env) {k:FuncId} {c:Nat->List PV->List Row->Option (DT (PV × List Row))} (hent:Enters P k)
  (hc:∀ ro args H d p H',c ro args H=some d->d.run=some (p,H')->RCall P ro k args H p H'):Ab P (E.addC k c).env where
 opr:=hE.opr
 inp:=hE.inp
 sft:=hE.sft
 sftE:=hE.sftE
 ent:=hE.ent
 cal:=fun ro f a H p H' h=>by
  change (if f=k then c ro a H else E.cal ro f a H).bind DT.run=some (p,H') at h
  split at h
  ·rename_i e; subst e
   obtain ⟨d,h1,h2⟩:=Option.bind_eq_some_iff.1 h
   exact ⟨hent,hc _ _ _ _ _ _ h1 h2⟩
  ·exact hE.cal ro f a H p H' h
 ora:=hE.ora
 lo:=fun f fn b h1 h2=>LoH.mono (E:=E.env) (E':=(E.addC k c).env) (fun _ _ _ _ _ _ _ h=>h) (hE.lo f fn b h1 h2)
def loops:Code->List Code
 | .seq a b=>loops a++loops b
 | .cond _ x y=>loops x++loops y
 | .block _ b=>loops b
 | .scope b=>loops b
 | .loop b=>b::loops b
 | .rangeFunc _ _ a b=>loops a++loops b
 | _=>[]
theorem LoH.of {P:Program} {E:Env} {f:FuncId}:∀ {c:Code},(∀ b,b ∈ loops c->SubC (.loop b) c->∀ ro S H x S' H',E.lo f ro (rid b) S H=some (x,S',H')->WpTo P (.loop b) ro S H x S' H')->LoH P E f c
 | .seq a b,h=>⟨LoH.of (c:=a) fun b hb hs=>h b (by simp[loops,hb]) (.seq1 hs),LoH.of (c:=b) fun b hb hs=>h b (by simp[loops,hb]) (.seq2 hs)⟩
 | .cond _ a b,h=>⟨LoH.of (c:=a) fun b hb hs=>h b (by simp[loops,hb]) (.cond1 hs),LoH.of (c:=b) fun b hb hs=>h b (by simp[loops,hb]) (.cond2 hs)⟩
 | .block _ b,h=>LoH.of (c:=b) fun b hb hs=>h b (by simpa [loops] using hb) (.block hs)
 | .scope b,h=>LoH.of (c:=b) fun b hb hs=>h b (by simpa [loops] using hb) (.scope hs)
 | .loop b,h=>⟨h b (by simp[loops]) .here,LoH.of (c:=b) fun b hb hs=>h b (by simp[loops,hb]) (.loop hs)⟩
 | .rangeFunc _ _ a b,h=>⟨LoH.of (c:=a) fun b hb hs=>h b (by simp[loops,hb]) (.range1 hs),LoH.of (c:=b) fun b hb hs=>h b (by simp[loops,hb]) (.range2 hs)⟩
 | .skip,_ | .label _,_ | .region _ _ _,_ | .exit _,_ | .ret,_ | .goto _,_ | .refuse _,_=>trivial
theorem Ab.addN {P:Program} {E:Ad} (hE:Ab P E.env) (k:FuncId) (i:Nat) (l:List (Tmp × TypeId × Nat)):Ab P (E.addN k i l).env where
 opr:=hE.opr
 inp:=hE.inp
 sft:=hE.sft
 sftE:=hE.sftE
 ent:=hE.ent
 cal:=hE.cal
 ora:=hE.ora
 lo:=fun f fn b h1 h2=>LoH.mono (E:=E.env) (E':=(E.addN k i l).env) (fun _ _ _ _ _ _ _ h=>h) (hE.lo f fn b h1 h2)
theorem Ab.addK {P:Program} {E:Ad} (hE:Ab P E.env) (k:FuncId):Ab P (E.addK k).env where
 opr:=hE.opr
 inp:=hE.inp
 sft:=hE.sft
 sftE:=hE.sftE
 ent:=hE.ent
 cal:=hE.cal
 ora:=hE.ora
 lo:=fun f fn b h1 h2=>LoH.mono (E:=E.env) (E':=(E.addK k).env) (fun _ _ _ _ _ _ _ h=>h) (hE.lo f fn b h1 h2)
theorem Ab.addDrop {P:Program} {E:Ad} (hE:Ab P E.env) (k:FuncId) (i h:Nat):Ab P (E.addDrop k i h).env where
 opr:=hE.opr
 inp:=hE.inp
 sft:=hE.sft
 sftE:=hE.sftE
 ent:=hE.ent
 cal:=hE.cal
 ora:=hE.ora
 lo:=fun f fn b h1 h2=>LoH.mono (E:=E.env) (E':=(E.addDrop k i h).env) (fun _ _ _ _ _ _ _ h=>h) (hE.lo f fn b h1 h2)
def Ad.addChain (E:Ad) (k:FuncId) (i:Nat):Ad:={ E with chain:=fun f j=>if f=k then (if j=i then true else E.chain f j) else E.chain f j }
theorem Ab.addChain {P:Program} {E:Ad} (hE:Ab P E.env) (k:FuncId) (i:Nat):Ab P (E.addChain k i).env where
 opr:=hE.opr
 inp:=hE.inp
 sft:=hE.sft
 sftE:=hE.sftE
 ent:=hE.ent
 cal:=hE.cal
 ora:=hE.ora
 lo:=fun f fn b h1 h2=>LoH.mono (E:=E.env) (E':=(E.addChain k i).env) (fun _ _ _ _ _ _ _ h=>h) (hE.lo f fn b h1 h2)
theorem Ab.addDeep {P:Program} {E:Ad} (hE:Ab P E.env) (k:FuncId) (i h:Nat):Ab P (E.addDeep k i h).env where
 opr:=hE.opr
 inp:=hE.inp
 sft:=hE.sft
 sftE:=hE.sftE
 ent:=hE.ent
 cal:=hE.cal
 ora:=hE.ora
 lo:=fun f fn b h1 h2=>LoH.mono (E:=E.env) (E':=(E.addDeep k i h).env) (fun _ _ _ _ _ _ _ h=>h) (hE.lo f fn b h1 h2)
theorem Ab.addFgt {P:Program} {E:Ad} (hE:Ab P E.env) (k:FuncId) (i:Nat) (ks:List Nat):Ab P (E.addFgt k i ks).env where
 opr:=hE.opr
 inp:=hE.inp
 sft:=hE.sft
 sftE:=hE.sftE
 ent:=hE.ent
 cal:=hE.cal
 ora:=hE.ora
 lo:=fun f fn b h1 h2=>LoH.mono (E:=E.env) (E':=(E.addFgt k i ks).env) (fun _ _ _ _ _ _ _ h=>h) (hE.lo f fn b h1 h2)
end Go.Hx
/- Hx: maps: what is in them, look-ups, updates, new maps, their length. -/
namespace Go.Hx
open Go.MapKept

def ceq:PV->PV->Bool
 | .val (.int _ a),.val (.int _ b)=>a==b
 | .val (.bool a),.val (.bool b)=>a==b
 | .val (.string a),.val (.string b)=>a.toList==b.toList
 | _,_=>false
def leqC:List PV->List PV->Bool
 | [],[]=>true
 | a::ags,b::bs=>ceq a b&&leqC ags bs
 | _,_=>false
def keq (a b:PV):Bool:=leqC a.cells b.cells
def mhas:List (PV × PV)->PV->Bool
 | [],_=>false
 | (a,_)::D,k=>keq k a||mhas D k
def mget (z:PV):List (PV × PV)->PV->PV
 | [],_=>z
 | (a,v)::D,k=>bif keq k a then v else mget z D k
def mput:List (PV × PV)->PV->PV->List (PV × PV)
 | [],k,v=>[(k,v)]
 | (a,w)::D,k,v=>bif keq k a then (k,v)::D else (a,w)::mput D k v
def midx:List (PV × PV)->PV->Option Nat
 | [],_=>none
 | (a,_)::D,k=>bif keq k a then some 0 else (midx D k).map (· + 1)

def sc:Value->Bool
 | .int _ _ | .bool _ | .string _=>true
 | _=>false
theorem wtc_cell {k:Kind} {p:PV} (h:wtc k p=true) (hp:p.flat=true):∃ v,p=.val v/\sc v=true:=by
 unfold wtc at h
 split at h
 ·exact ⟨_,rfl,rfl⟩
 ·exact ⟨_,rfl,rfl⟩
 ·exact ⟨_,rfl,rfl⟩
 ·simp[PV.flat] at hp
 ·cases h
theorem wtcs_cells:∀ {ks:List Kind} {ps:List PV},wtcs ks ps=true->(∀ p ∈ ps,p.flat=true)->∀ p ∈ ps,∃ v,p=.val v/\sc v=true
 | [],[],_,_,p,hp=>by cases hp
 | [],_::_,h,_,_,_=>by simp[wtcs] at h
 | _::_,[],h,_,_,_=>by simp[wtcs] at h
 | k::ks,q::ps,h,hf,p,hp=>by
  simp only[wtcs,Bool.and_eq_true] at h
  rcases List.mem_cons.1 hp with rfl | hp
  ·exact wtc_cell h.1 (hf _ (List.mem_cons_self ..))
  ·exact wtcs_cells h.2 (fun x hx=>hf x (List.mem_cons_of_mem _ hx)) p hp
theorem mv_cells {P:Program} {T:TypeId} {p:PV} (h:mvOk P T p=true):∀ c ∈ p.cells,∃ v,c=.val v/\sc v=true:=by
 simp only[mvOk,wt,Bool.and_eq_true,beq_iff_eq] at h
 obtain ⟨⟨hf,hw,_⟩,_⟩:=h
 refine wtcs_cells hw fun c hc => ?_
 unfold PV.cells at hc
 split at hc
 ·simp only[PV.flat,List.all_eq_true] at hf
  have:=hf c hc
  split at this
  ·rfl
  ·cases this
 ·obtain ⟨x,_,rfl⟩:=List.mem_map.1 hc; rfl
 ·rw[List.mem_singleton] at hc; rw[hc]; exact hf
theorem mv_val {P:Program} {C:Ctx} {T:TypeId} {p:PV} {V:Value} (h:mvOk P T p=true) (hv:RV P C p V):
  V.cells.toList.map PV.val=p.cells/\(if Aj P T then V=.agg V.cells else V.cells = #[V])/\∀ v ∈ V.cells.toList,sc v=true:=by
 have hc:=mv_cells h
 have hag:p.isAgg=Aj P T:=by simp only[mvOk,Bool.and_eq_true,beq_iff_eq] at h; exact h.2
 have hflat:=flat_of_mv h
 cases hv with
 | val =>
  cases V with
  | agg a =>
   have e:Aj P T=true:=by rw[<- hag]; rfl
   rw[if_pos e]
   refine ⟨by simp[Value.cells,PV.cells],rfl,fun v hv => ?_⟩
   obtain ⟨u,hu,hs⟩:=hc (.val v) (by simp only[PV.cells]; exact List.mem_map.2 ⟨v,by simpa [Value.cells] using hv,rfl⟩)
   cases hu; exact hs
  | _ =>
   have e:Aj P T=false:=by rw[<- hag]; rfl
   rw[if_neg (by simp[e])]
   refine ⟨by simp[Value.cells,PV.cells],rfl,fun v hv => ?_⟩
   obtain ⟨u,hu,hs⟩:=hc _ (by simp only[PV.cells]; exact List.mem_singleton.2 rfl)
   cases hu
   simp only[Value.cells,List.mem_singleton] at hv
   rw[hv]; exact hs
 | agg hs hh =>
  rename_i cs a
  have e:Aj P T=true:=by rw[<- hag]; rfl
  rw[if_pos e]
  have key:∀ (j:Nat) v,a[j]? = some v->cs[j]? = some (.val v)/\sc v=true:=fun j v hv=>by
   have hj:j<cs.length:=by rw[<- hs]; exact (Array.getElem?_eq_some_iff.1 hv).1
   have h1:cs[j]? = some cs[j]:=List.getElem?_eq_getElem hj
   obtain ⟨u,hu,hsc⟩:=hc cs[j] (by simp only[PV.cells]; exact List.getElem_mem hj)
   have:=hh j _ _ h1 hv
   rw[hu] at this h1
   cases this
   exact ⟨h1,hsc⟩
  refine ⟨?_,rfl,fun v hv => ?_⟩
  ·simp only[Value.cells,PV.cells]
   refine List.ext_getElem? fun j => ?_
   rw[List.getElem?_map,Array.getElem?_toList]
   cases hj:a[j]? with
   | none=>rw[Option.map_none,List.getElem?_eq_none (by rw[<- hs]; exact Array.getElem?_eq_none_iff.1 hj)]
   | some v=>rw[Option.map_some,(key j v hj).1]
  ·simp only[Value.cells] at hv
   obtain ⟨j,hj⟩:=List.getElem?_of_mem hv
   exact (key j v (by rw[Array.getElem?_toList] at hj; exact hj)).2
 | _=>simp[PV.flat] at hflat
theorem mv_agg {P:Program} {C:Ctx} {T:TypeId} {p:PV} {V:Value} (h:mvOk P T p=true) (hv:RV P C p V) (ha:Aj P T=true):V.cells.toList.map PV.val=p.cells/\V=.agg V.cells:=by
 obtain ⟨a1,a2,_⟩:=mv_val h hv
 rw[if_pos ha] at a2
 exact ⟨a1,a2⟩
theorem mv_inj {P:Program} {C:Ctx} {T:TypeId} {p q:PV} {V U:Value} (h:mvOk P T p=true) (k:mvOk P T q=true) (hv:RV P C p V) (hu:RV P C q U) (e:p.cells=q.cells):V=U:=by
 obtain ⟨a1,a2,_⟩:=mv_val h hv
 obtain ⟨b1,b2,_⟩:=mv_val k hu
 have:V.cells.toList=U.cells.toList:=List.map_inj_right (fun x y hxy=>by cases hxy; rfl) |>.1 (a1.trans (e.trans b1.symm))
 have hc:V.cells=U.cells:=Array.ext' this
 by_cases hag:Aj P T=true
 ·rw[if_pos hag] at a2 b2; rw[a2,b2,hc]
 ·rw[if_neg hag] at a2 b2
  rw[a2,b2] at hc
  simpa using hc
theorem ceq_eq {k:Kind} {a b:PV} (ha:wtc k a=true) (hb:wtc k b=true) (h:ceq a b=true):a=b:=by
 unfold ceq at h
 split at h
 ·rename_i k1 x k2 y
  unfold wtc at ha hb
  cases k <;> simp at ha hb
  subst ha; subst hb
  simp only[beq_iff_eq] at h; rw[h]
 ·simp only[beq_iff_eq] at h; rw[h]
 ·rename_i x y
  simp only[beq_iff_eq] at h
  rw[ByteArray.toList_eq,ByteArray.toList_eq] at h
  rw[show x=y from ByteArray.ext (Array.ext' h)]
 ·cases h
theorem leqC_eq:∀ {ks:List Kind} {ags bs:List PV},wtcs ks ags=true->wtcs ks bs=true->leqC ags bs=true->ags=bs
 | [],[],[],_,_,_=>rfl
 | [],_::_,_,h,_,_=>by simp[wtcs] at h
 | [],[],_::_,_,h,_=>by simp[wtcs] at h
 | _::_,[],_,h,_,_=>by simp[wtcs] at h
 | _::_,_::_,[],_,h,_=>by simp[wtcs] at h
 | k::ks,a::ags,b::bs,h1,h2,h3=>by
  simp only[wtcs,leqC,Bool.and_eq_true] at h1 h2 h3
  rw[ceq_eq h1.1 h2.1 h3.1,leqC_eq h1.2 h2.2 h3.2]
theorem mv_wt {P:Program} {T:TypeId} {p:PV} (h:mvOk P T p=true):wtcs (kinds P T) p.cells=true/\(kinds P T).length=P.cellsOf T:=by
 simp only[mvOk,wt,Bool.and_eq_true,beq_iff_eq] at h; exact h.1.2
theorem keq_eq {P:Program} {T:TypeId} {p q:PV} (h:mvOk P T p=true) (k:mvOk P T q=true) (e:keq p q=true):p.cells=q.cells:=leqC_eq (mv_wt h).1 (mv_wt k).1 e
theorem sameBits_sc {v:Value} (n:Nat) (h:sc v=true):Instr.sameBits n v v=true:=by
 cases v <;> simp[sc] at h <;> cases n <;> simp[Instr.sameBits,beq_toListBytes]
theorem run_stays {P:Program} {C:Ctx} {T:TypeId} {p:PV} {V:Value} (h:mvOk P T p=true) (hv:RV P C p V) (w:World):(Instr.keyThatStays V V).run P w=.ok V w:=by
 obtain ⟨a1,a2,a3⟩:=mv_val h hv
 have:Instr.sameBits 10000 V V=true:=by
  by_cases hag:Aj P T=true
  ·rw[if_pos hag] at a2
   rw[a2]
   show ((V.cells.size==V.cells.size)&&(V.cells.toList.zip V.cells.toList).all fun x=>Instr.sameBits 9999 x.1 x.2)=true
   rw[Bool.and_eq_true]
   refine ⟨by simp,List.all_eq_true.2 fun x hx => ?_⟩
   rw[List.zip_eq_zipWith,List.zipWith_self] at hx
   obtain ⟨y,hy,rfl⟩:=List.mem_map.1 hx
   exact sameBits_sc _ (a3 y hy)
  ·rw[if_neg hag] at a2
   exact sameBits_sc _ (a3 V (by rw[a2]; simp))
 unfold Instr.keyThatStays
 rw[if_pos this]
 rfl

structure KeyOK (P:Program) (K:TypeId):Prop where
 check:∀ (C:Ctx) (p:PV) (V:Value),mvOk P K p=true->RV P C p V->∀ (em:Bool) (w:World),(Instr.checkKey em 10000 K V).run P w=.ok () w
 find:∀ (C:Ctx) (p:PV) (V:Value),mvOk P K p=true->RV P C p V->∀ (D:List (PV × PV)) (es:List MapEntry),es.length=D.length->(∀ x ∈ D,mvOk P K x.1=true) ->
  (∀ (i:Nat) k v e,D[i]? = some (k,v)->es[i]? = some e->RV P C k e.key)->∀ w,(Instr.findKey K V es).run P w=.ok ((midx D p).bind fun i=>es[i]?.map fun e=>(i,e.val)) w
theorem map_bind_succ {α:Type} (m:Option Nat) (e:MapEntry) (es:List MapEntry) (f:Nat->MapEntry->α):((m.map (· + 1)).bind fun j=>((e::es)[j]?).map fun x=>f j x)=m.bind fun j=>(es[j]?).map fun x=>f (j+1) x:=by
 cases m <;> simp
theorem asking_run {P:Program} {C:Ctx} {K:TypeId} {p:PV} {V:Value} {w:World} (he:∀ q U,mvOk P K q=true->RV P C q U->(Op.equal K V U).run P w=.ok (keq p q) w):∀ (D:List (PV × PV)) (es:List MapEntry) (i:Nat),es.length=D.length ->
  (∀ x ∈ D,mvOk P K x.1=true)->(∀ (i:Nat) k v e,D[i]? = some (k,v)->es[i]? = some e->RV P C k e.key)->(Instr.findAsking K V es i).run P w=.ok ((midx D p).bind fun j=>es[j]?.map fun e=>(i+j,e.val)) w
 | [],[],i,_,_,_=>by simp[Instr.findAsking,midx]
 | [],_::_,_,h,_,_=>by simp at h
 | _::_,[],_,h,_,_=>by simp at h
 | (a,v)::D,e::es,i,hl,hk,hr=>by
  have h1:=he a e.key (hk (a,v) (List.mem_cons_self ..)) (hr 0 a v e rfl rfl)
  have ih:=asking_run he D es (i+1) (by simpa using hl) (fun x hx=>hk x (List.mem_cons_of_mem _ hx)) (fun j k v e g1 g2=>hr (j+1) k v e (by simpa using g1) (by simpa using g2))
  simp only[Instr.findAsking,Sem.run_bind,h1,Result.andThen_ok]
  unfold midx
  cases hq:keq p a with
  | true=>simp
  | false =>
   simp only[Bool.false_eq_true,if_false,cond_false,ih,map_bind_succ (f:=fun j x=>(i+j,x.val))]
   congr 2
   funext j
   rw[show i+1+j=i+(j+1) by omega]
theorem now_run {P:Program} {C:Ctx} {K:TypeId} {d:TypeDesc} {p:PV} {V:Value} (he:∀ q U,mvOk P K q=true->RV P C q U->Instr.sameNow d V U=some (keq p q)):∀ (D:List (PV × PV)) (es:List MapEntry) (i:Nat),es.length=D.length ->
  (∀ x ∈ D,mvOk P K x.1=true)->(∀ (i:Nat) k v e,D[i]? = some (k,v)->es[i]? = some e->RV P C k e.key)->Instr.findNow d V es i=some ((midx D p).bind fun j=>es[j]?.map fun e=>(i+j,e.val))
 | [],[],i,_,_,_=>by simp[Instr.findNow,midx]
 | [],_::_,_,h,_,_=>by simp at h
 | _::_,[],_,h,_,_=>by simp at h
 | (a,v)::D,e::es,i,hl,hk,hr=>by
  have h1:=he a e.key (hk (a,v) (List.mem_cons_self ..)) (hr 0 a v e rfl rfl)
  have ih:=now_run he D es (i+1) (by simpa using hl) (fun x hx=>hk x (List.mem_cons_of_mem _ hx)) (fun j k v e g1 g2=>hr (j+1) k v e (by simpa using g1) (by simpa using g2))
  simp only[Instr.findNow,h1]
  unfold midx
  cases hq:keq p a with
  | true=>simp
  | false =>
   simp only[cond_false,ih,map_bind_succ (f:=fun j x=>(i+j,x.val))]
   congr 2
   funext j
   rw[show i+1+j=i+(j+1) by omega]
theorem KeyOK.wide {P:Program} {K:TypeId} (hw:Aj P K=true) (hc:∀ (C:Ctx) (p:PV) (V:Value),mvOk P K p=true->RV P C p V->∀ (em:Bool) (w:World),(Instr.checkKey em 10000 K V).run P w=.ok () w)
  (he:∀ (xs ys:List PV),wtcs (kinds P K) xs=true->wtcs (kinds P K) ys=true->eqAt P 40 K xs ys=some (leqC xs ys)):KeyOK P K where
 check:=hc
 find:=fun C p V hp hv D es hl hk hr w=>by
  have hwide:(match P.underlying K with | some (.array _ _) | some (.struct _)=>true | _=>false)=true:=by
   unfold Aj at hw; revert hw; cases P.underlying K with
   | none=>simp
   | some d=>cases d <;> simp
  rw[run_findKey_eq w hwide]
  have:=asking_run (P:=P) (C:=C) (K:=K) (p:=p) (V:=V) (w:=w) (fun q U hq hu => ?_) D es 0 hl hk hr
  ·rw[this]; simp only[Nat.zero_add]
  ·obtain ⟨a1,a2,_⟩:=mv_val hp hv
   obtain ⟨b1,b2,_⟩:=mv_val hq hu
   rw[if_pos hw] at a2 b2
   have cs:∀ {p:PV} {V:Value},V.cells.toList.map PV.val=p.cells->Cs P C p.cells V.cells:=fun {p V} h=>by
    rw[<- h]
    refine ⟨by simp,fun j c v h1 h2 => ?_⟩
    rw[List.getElem?_map,Array.getElem?_toList,h2] at h1
    cases h1; exact .val
   have hs:=eqAt_sound (P:=P) 40 (he p.cells q.cells (mv_wt hp).1 (mv_wt hq).1) _ _ (cs a1) (cs b1) 10000 w (by decide)
   unfold vOf at hs
   rw[if_pos hw,if_pos hw,<- a2,<- b2] at hs
   exact hs
theorem kinds_int {P:Program} {K:TypeId} {q:IntKind} (hu:P.underlying K=some (.int q)):kinds P K=[.int q]:=by unfold kinds kindsAt; rw[hu]
theorem mv_int {P:Program} {K:TypeId} {q:IntKind} (hu:P.underlying K=some (.int q)) {C:Ctx} {p:PV} {V:Value} (h:mvOk P K p=true) (hv:RV P C p V):∃ n,p.cells=[.val (.int q n)]/\V=.int q n:=by
 have hw:=(mv_wt h).1
 rw[kinds_int hu] at hw
 obtain ⟨a1,a2,_⟩:=mv_val h hv
 rw[if_neg (by simp[Aj,hu])] at a2
 rw[a2] at a1
 have e:p.cells=[.val V]:=by rw[<- a1]; rfl
 rw[e] at hw
 simp only[wtcs,Bool.and_true] at hw
 unfold wtc at hw
 cases V <;> simp at hw
 subst hw
 exact ⟨_,e,rfl⟩
theorem KeyOK.int {P:Program} {K:TypeId} {q:IntKind} (hu:P.underlying K=some (.int q)):KeyOK P K where
 check:=fun C p V hp hv em w=>by
  obtain ⟨n,_,rfl⟩:=mv_int hu hp hv
  exact run_checkKey hu (by simp[IsKey]) em 9999
 find:=fun C p V hp hv D es hl hk hr w=>by
  have:=now_run (P:=P) (C:=C) (K:=K) (d:=.int q) (p:=p) (V:=V) (fun q' U hq hu' => ?_) D es 0 hl hk hr
  ·rw[run_findKey hu this]; simp only[Nat.zero_add]
  ·obtain ⟨n,e1,rfl⟩:=mv_int hu hp hv
   obtain ⟨m,e2,rfl⟩:=mv_int hu hq hu'
   unfold keq
   rw[e1,e2]
   simp[Instr.sameNow,leqC,ceq]

theorem mhas_idx:∀ (D:List (PV × PV)) (k:PV),mhas D k=(midx D k).isSome
 | [],_=>rfl
 | (a,v)::D,k=>by
  unfold mhas midx
  cases keq k a with
  | true=>rfl
  | false=>rw[Bool.false_or,cond_false,mhas_idx D k]; cases midx D k <;> rfl
theorem midx_some:∀ {D:List (PV × PV)} {k:PV} {j:Nat},midx D k=some j->∃ a v,D[j]? = some (a,v)/\keq k a=true/\(∀ z,mget z D k=v)/\∀ w,mput D k w=D.set j (k,w)
 | [],_,_,h=>by simp[midx] at h
 | (a,v)::D,k,j,h=>by
  unfold midx at h
  cases hq:keq k a with
  | true =>
   rw[hq] at h
   cases h
   exact ⟨a,v,rfl,hq,fun z=>by simp[mget,hq],fun w=>by simp[mput,hq]⟩
  | false =>
   rw[hq,cond_false] at h
   obtain ⟨i,hi,rfl⟩:=Option.map_eq_some_iff.1 h
   obtain ⟨b,u,h1,h2,h3,h4⟩:=midx_some hi
   exact ⟨b,u,by simpa using h1,h2,fun z=>by simp[mget,hq,h3 z],fun w=>by simp[mput,hq,h4 w]⟩
theorem midx_none:∀ {D:List (PV × PV)} {k:PV},midx D k=none->(∀ z,mget z D k=z)/\∀ w,mput D k w=D++[(k,w)]
 | [],_,_=>⟨fun _=>rfl,fun _=>rfl⟩
 | (a,v)::D,k,h=>by
  unfold midx at h
  cases hq:keq k a with
  | true=>rw[hq] at h; cases h
  | false =>
   rw[hq,cond_false] at h
   obtain ⟨h1,h2⟩:=midx_none (Option.map_eq_none_iff.1 h)
   exact ⟨fun z=>by simp[mget,hq,h1 z],fun w=>by simp[mput,hq,h2 w]⟩
def expT (P:Program) (T:TypeId) (p:PV):PV:=if Aj P T then .agg ((List.range (P.cellsOf T)).map fun x=>expc ((kinds P T).getD x .other) (p.cellAt x)) else expc ((kinds P T).getD 0 .other) (p.cellAt 0)
theorem wtcs_wtc {ks:List Kind} {ps:List PV} (h:wtcs ks ps=true) {j:Nat} {p:PV} (hp:ps[j]? = some p):wtc (ks.getD j .other) p=true:=by
 have hl:=wtcs_length h
 have hj:j<ks.length:=by rw[<- hl]; exact (List.getElem?_eq_some_iff.1 hp).1
 have hk:ks[j]? = some ks[j]:=List.getElem?_eq_getElem hj
 have:=wtcs_get h hk hp
 rw[List.getD_eq_getElem?_getD,hk]; exact this
theorem expc_val {k:Kind} {v:Value} (h:wtc k (.val v)=true):expc k (.val v)=.val v:=by
 unfold wtc at h
 cases k <;> cases v <;> simp at h <;> simp[expc,PV.getI,PV.getB,PV.getS,h]
theorem RV.expT {P:Program} {C:Ctx} {T:TypeId} {p:PV} {V:Value} (h:mvOk P T p=true) (hv:RV P C p V):RV P C (expT P T p) V:=by
 obtain ⟨a1,a2,_⟩:=mv_val h hv
 obtain ⟨hw,hl⟩:=mv_wt h
 have hcell:∀ (j:Nat) v,V.cells[j]? = some v->Hx.expc ((kinds P T).getD j .other) (p.cellAt j)=.val v:=fun j v hj=>by
  have h1:p.cells[j]? = some (.val v):=by rw[<- a1,List.getElem?_map,Array.getElem?_toList,hj]; rfl
  have h2:p.cellAt j=.val v:=by unfold PV.cellAt; rw[List.getD_eq_getElem?_getD,h1]; rfl
  rw[h2]; exact expc_val (wtcs_wtc hw h1)
 unfold Hx.expT
 by_cases hag:Aj P T=true
 ·rw[if_pos hag] at a2 ⊢
  rw[a2]
  have hsz:V.cells.size=P.cellsOf T:=by rw[<- hl,<- wtcs_length hw,<- a1]; simp
  refine .agg (by simp[hsz]) fun j c v h1 h2 => ?_
  rw[List.getElem?_map] at h1
  obtain ⟨x,hx,rfl⟩:=Option.map_eq_some_iff.1 h1
  have hj:j<V.cells.size:=(Array.getElem?_eq_some_iff.1 h2).1
  rw[List.getElem?_range (by rw[<- hsz]; exact hj)] at hx
  cases hx
  rw[hcell j v h2]; exact .val
 ·rw[if_neg hag] at a2 ⊢
  rw[hcell 0 V (by rw[a2]; rfl)]; exact .val

def mapAt (H:List Row) (i:Nat):Option (LoopK × TypeId × TypeId × List (PV × PV)):=
 match H[i]? with
 | some r=>match r.live,r.lp with | false,some ⟨k,.map K E D⟩=>some (k,K,E,D) | _,_=>none
 | none=>none
theorem mapAt_some {H:List Row} {i:Nat} {k:LoopK} {K E:TypeId} {D:List (PV × PV)} (h:mapAt H i=some (k,K,E,D)):∃ r,H[i]? = some r/\r.live=false/\r.lp=some ⟨k,.map K E D⟩:=by
 unfold mapAt at h
 split at h
 ·rename_i r hr
  split at h
  ·rename_i hl hp; cases h; exact ⟨r,hr,hl,hp⟩
  ·cases h
 ·cases h
def k0:LoopK:=⟨0,[],#[],.skip,.skip⟩
def mapRow (k:LoopK) (K E:TypeId) (D:List (PV × PV)):Row:={ es:=[],s:=0,t:=0,bv:=true,live:=false,lp:=some ⟨k,.map K E D⟩ }

theorem map_blk {P:Program} {C:Ctx} (hR:RH P C) {i:Nat} {V:Value} (hv:RV P C (.mp i) V) {k:LoopK} {K E:TypeId} {D:List (PV × PV)} (h:mapAt C.H i=some (k,K,E,D)):∃ b,V=.map (some b)/\C.ρ i=some b/\MapB P C b K E D:=by
 obtain ⟨r,h1,h2,h3⟩:=mapAt_some h
 cases hv with
 | mp hi hl hb=>exact ⟨_,rfl,hb,(hR.lps i _ r _ hb h1 h3 h2).map K E D rfl⟩

theorem setMap_sound {P:Program} {C:Ctx} (hR:RH P C) {i b:Nat} {k:LoopK} {K E:TypeId} {D D':List (PV × PV)} (h:mapAt C.H i=some (k,K,E,D)) (hρ:C.ρ i=some b) (hro:C.ro<=i) {es es':Array MapEntry} {c c':Nat} (hes:C.w.heap[b]? = some (.map es c))
  (hm:∀ C':Ctx,C'.w.heap[b]? = some (.map es' c')->MapB P C' b K E D'):Turn P C { C with H:=C.H.set i (mapRow k K E D'),w:=C.w.putObj b (.map es' c') } (C.H.set i (mapRow k K E D')):=by
 obtain ⟨r,g1,g3,g2⟩:=mapAt_some h
 have hi:i<C.H.length:=(List.getElem?_eq_some_iff.1 g1).1
 have hblt:b<C.w.heap.size:=hR.lt hρ
 have hb':∀ (x:Nat),x ≠ b->(C.w.putObj b (.map es' c')).heap[x]? = C.w.heap[x]?:=fun x hx=>World.putObj_heap_other hx
 have hrowi:C.row? i=none:=by unfold Ctx.row? rowAt; rw[g1]; simp[g3]
 have hrow:∀ x,rowAt (C.H.set i (mapRow k K E D')) x=C.row? x:=by
  intro x
  unfold rowAt
  rw[List.getElem?_set]
  by_cases hx:i=x
  ·subst hx
   simp only[if_true,hi,mapRow,Bool.false_eq_true,if_false,hrowi]
  ·rw[if_neg hx]; rfl
 have hx:Ext C { C with H:=C.H.set i (mapRow k K E D'),w:=C.w.putObj b (.map es' c') }:=by
  refine ⟨rfl,rfl,rfl,by simp,fun x hx ho=>hb' x (fun e=>ho ⟨i,hro,e ▸ hρ⟩),fun x c e fr hh => ?_,by simp,fun x r' _ hr=>⟨r',by rw[<- hr]; exact (hrow x).symm,rfl,rfl,Nat.le_refl _,fun _=>⟨rfl,fun _ h=>h⟩⟩,fun _ h=>.inl h,fun _ h=>.inl h,rfl,rfl,fun x hx=>⟨?_,rfl⟩,fun x q info' q1 q2 q3=>⟨?_,fun _ h=>h⟩,fun x rc hh => ?_⟩
  ·have hne:x ≠ b:=fun e=>by subst e; rw[hes] at hh; cases hh
   exact ⟨c,fr,by rw[<- hh]; exact hb' x hne,rfl⟩
  ·show (C.H.set i _)[x]? = _
   rw[List.getElem?_set,if_neg (by omega)]
  ·show ∃ r' st,(C.H.set i _)[x]? = some r'/\_
   by_cases hxi:i=x
   ·subst hxi
    rw[g1] at q1; cases q1
    rw[g2] at q2; cases q2
    exact ⟨mapRow k K E D',_,by rw[List.getElem?_set,if_pos rfl,if_pos hi],rfl,rfl⟩
   ·exact ⟨q,info'.st,by rw[List.getElem?_set,if_neg hxi]; exact q1,q2,q3⟩
  ·have hne:x ≠ b:=fun e=>by subst e; rw[hes] at hh; cases hh
   exact ⟨rc,by rw[<- hh]; exact hb' x hne⟩
 refine ⟨rfl,hx,hR.inj,fun x c hx' => ?_,fun x c q q1 q2 => ?_,by simpa using hR.ro,hR.nfo,fun x hx'=>by simpa using hR.fol x hx',fun x c q info' q1 q2 q3 q4 => ?_,hR.glb.mono hx⟩
 ·rcases hR.dom x c hx' with ⟨q,hq⟩ | ⟨q,info',q1,q2,q3⟩
  ·exact .inl ⟨q,by rw[<- hq]; exact hrow x⟩
  ·obtain ⟨⟨q',st',z1,z2,z3⟩,_⟩:=hx.lp x q info' q1 q2 q3
   exact .inr ⟨q',_,z1,z2,z3⟩
 ·have q2':C.row? x=some q:=by rw[<- q2]; exact (hrow x).symm
  have hB:=hR.blk x c q q1 q2'
  have hne:c ≠ b:=fun e=>by
   subst e
   obtain ⟨cc,fr,cv,hh,_⟩:=hB.mem
   rw[hes] at hh; cases hh
  exact hB.mono hx (hb' c hne)
 ·have hq2:(C.H.set i (mapRow k K E D'))[x]? = some q:=q2
  rw[List.getElem?_set] at hq2
  by_cases hxi:i=x
  ·subst hxi
   rw[if_pos rfl,if_pos hi] at hq2
   cases hq2
   cases q3
   have hcb:c=b:=Option.some.inj ((show C.ρ i=some c from q1).symm.trans hρ)
   subst hcb
   exact ⟨fun hf=>by simp[LSt.isMap] at hf,fun K2 E2 D2 he=>by cases he; exact hm _ (World.putObj_heap_same hblt)⟩
  ·rw[if_neg hxi] at hq2
   have hL:=hR.lps x c q info' q1 hq2 q3 q4
   have hne:c ≠ b:=fun e=>hxi (hR.inj i x b hρ (e ▸ q1))
   exact hL.mono hx (hb' c hne)

theorem newMap_sound {P:Program} {C:Ctx} (hR:RH P C) (K E:TypeId):
  Ext C ((C.more (mapRow k0 K E [])).bind C.H.length (.map #[] 0))/\RH P ((C.more (mapRow k0 K E [])).bind C.H.length (.map #[] 0))/\RV P ((C.more (mapRow k0 K E [])).bind C.H.length (.map #[] 0)) (.mp C.H.length) (.map (some C.w.heap.size)):=by
 have hx1:=more_ext hR (mapRow k0 K E [])
 have hR1:=more_rh hR (mapRow k0 K E [])
 have hn:(C.more (mapRow k0 K E [])).ρ C.H.length=none:=hR.ρ_none (Nat.le_refl _)
 have hx2:=Ctx.bind_ext (C:=C.more (mapRow k0 K E [])) hn hR.ro (.map #[] 0)
 have hrow:(C.H++[mapRow k0 K E []])[C.H.length]? = some (mapRow k0 K E []):=by simp
 refine ⟨hx1.trans hx2,⟨fun x y b hx hy => ?_,fun x b hx => ?_,fun x b r' g1 g2 => ?_,hR1.ro,fun x b hx => ?_,fun b hb=>Nat.lt_of_lt_of_le (hR1.fol b hb) hx2.size,fun x b r' info g1 g2 g3 g4 => ?_,hR1.glb.mono hx2⟩,?_⟩
 ·simp only[Ctx.bind] at hx hy
  split at hx <;> split at hy
  ·omega
  ·cases hx; have:=hR1.lt hy; exact absurd this (by simp[Ctx.more])
  ·cases hy; have:=hR1.lt hx; exact absurd this (by simp[Ctx.more])
  ·exact hR1.inj x y b hx hy
 ·simp only[Ctx.bind] at hx
  split at hx
  ·rename_i e; subst e; exact .inr ⟨_,_,hrow,rfl,rfl⟩
  ·exact hR1.dom x b hx
 ·simp only[Ctx.bind] at g1
  split at g1
  ·rename_i e
   subst e
   have:(C.more (mapRow k0 K E [])).row? C.H.length=none:=by unfold Ctx.row? rowAt; rw[show (C.more (mapRow k0 K E [])).H[C.H.length]? = _ from hrow]; rfl
   rw[show (C.more (mapRow k0 K E [])).row? C.H.length=some r' from g2] at this
   cases this
  ·have hb:=hR1.blk x b r' g1 g2
   exact hb.mono hx2 (Go.heap_alloc_old C.w _ hb.lt)
 ·simp only[Ctx.bind] at hx ⊢
  split at hx
  ·cases hx; exact fun hf=>Nat.lt_irrefl _ (hR.fol _ hf)
  ·exact hR1.nfo x b hx
 ·simp only[Ctx.bind] at g1
  split at g1
  ·rename_i e
   subst e
   cases g1
   have g2':(C.H++[mapRow k0 K E []])[C.H.length]? = some r':=g2
   rw[hrow] at g2'
   cases g2'
   cases g3
   exact ⟨fun hf=>by simp[LSt.isMap] at hf,fun K2 E2 D2 he=>by
    cases he
    exact ⟨⟨#[],0,heap_alloc_new C.w _,rfl,rfl,fun i k v e g _=>by simp at g⟩,fun p hp=>(by cases hp),fun p hp=>(by cases hp)⟩⟩
  ·have hL:=hR1.lps x b r' info g1 g2 g3 g4
   exact hL.mono hx2 (Go.heap_alloc_old C.w _ hL.lt)
 ·exact .mp (List.getElem?_eq_some_iff.1 hrow).1 ⟨_,_,hrow,rfl,rfl⟩ (by simp[Ctx.bind]; rfl)

theorem map_entries {P:Program} {C:Ctx} {b:Nat} {K E:TypeId} {D:List (PV × PV)} {es:Array MapEntry} {c:Nat} (h:MapB P C b K E D) (hes:C.w.heap[b]? = some (.map es c)):
  es.size=D.length/\c=D.length/\∀ (i:Nat) k v e,D[i]? = some (k,v)->es[i]? = some e->e.born=i/\RV P C k e.key/\RV P C v e.val:=by
 obtain ⟨es',c',h1,h2,h3,h4⟩:=h.mem
 rw[hes] at h1; cases h1
 exact ⟨h2,h3,h4⟩
theorem find_map {P:Program} {C:Ctx} {b:Nat} {K E:TypeId} {D:List (PV × PV)} (hK:KeyOK P K) (h:MapB P C b K E D) {p:PV} {V:Value} (hp:mvOk P K p=true) (hv:RV P C p V) {es:Array MapEntry} {c:Nat} (hes:C.w.heap[b]? = some (.map es c)) (w:World):
  (Instr.findKey K V es.toList).run P w=.ok ((midx D p).bind fun i=>es[i]?.map fun e=>(i,e.val)) w:=by
 obtain ⟨h1,h2,h3⟩:=map_entries h hes
 have:=hK.find C p V hp hv D es.toList (by simpa using h1) (fun x hx=>h.keys x hx) (fun i k v e g1 g2=>(h3 i k v e g1 (by rw[Array.getElem?_toList] at g2; exact g2)).2.1) w
 simpa only[Array.getElem?_toList] using this
theorem mget_ok {P:Program} {E:TypeId} {D:List (PV × PV)} (hv:∀ x ∈ D,mvOk P E x.2=true) {z:PV} (hz:mvOk P E z=true) (k:PV):mvOk P E (mget z D k)=true:=by
 cases hm:midx D k with
 | none=>rw[(midx_none hm).1]; exact hz
 | some j =>
  obtain ⟨a,v,h1,_,h3,_⟩:=midx_some hm
  rw[h3]; exact hv _ (List.mem_of_getElem? h1)
def lookQ (P:Program) (ks:List TypeId) (H:List Row) (T:TypeId) (x k:PV) (ok:Bool):Option PV:=
 match P.underlying T,x with
 | some (.map K E),.mp i =>
  match mapAt H i,zeroQ P E with
  | some (_,K',E',D),some z =>
   if ks.contains K&&(K==K')&&(E==E')&&mvOk P K k&&mvOk P E (.val z) then
    some (if ok then .tup [expT P E (mget (.val z) D k),.val (.bool (mhas D k))] else expT P E (mget (.val z) D k)) else none
  | _,_=>none
 | _,_=>none
theorem lookQ_sound {P:Program} {ks:List TypeId} (hks:∀ K,K ∈ ks->KeyOK P K) {C:Ctx} (hR:RH P C) {T:TypeId} {x k p:PV} {X KV:Value} {ok:Bool} (hx:RV P C x X) (hk:RV P C k KV) (h:lookQ P ks C.H T x k ok=some p):
  ∃ v,(Instr.lookup T X KV ok).run P C.w=.ok v C.w/\RV P C p v:=by
 unfold lookQ at h
 split at h
 ·rename_i K E i hu
  split at h
  ·rename_i kk K' E' D z hm hz
   split at h
   ·rename_i hc
    simp only[Bool.and_eq_true,beq_iff_eq,List.contains_eq_mem,decide_eq_true_eq] at hc
    obtain ⟨⟨⟨⟨hc1,rfl⟩,rfl⟩,hmk⟩,hmz⟩:=hc
    have hKO:=hks _ hc1
    obtain ⟨b,rfl,hρ,hB⟩:=map_blk hR hx hm
    obtain ⟨es,c,hes,_⟩:=hB.mem
    obtain ⟨h1,h2,h3⟩:=map_entries hB hes
    have hf:=find_map hKO hB hmk hk hes C.w
    have hch:=hKO.check C k KV hmk hk es.isEmpty C.w
    have key:∃ v,(Instr.lookup T (.map (some b)) KV ok).run P C.w=.ok (if ok then .tuple #[v,.bool (mhas D k)] else v) C.w/\RV P C (mget (.val z) D k) v:=by
     cases hi:midx D k with
     | none =>
      refine ⟨z,?_,by rw[(midx_none hi).1]; exact .val⟩
      rw[hi] at hf
      unfold Instr.lookup
      simp only[Sem.run_bind,run_underlying hu,Result.andThen_ok,MapKept.run_getObj_map hes,Sem.run_pure,hch,hf,Option.bind_none,run_zeroQ hz,mhas_idx,hi,Option.isSome_none]
     | some j =>
      obtain ⟨a,v,g1,_,g3,_⟩:=midx_some hi
      have hj:j<es.size:=by rw[h1]; exact (List.getElem?_eq_some_iff.1 g1).1
      have he:es[j]? = some es[j]:=Array.getElem?_eq_getElem hj
      refine ⟨es[j].val,?_,by rw[g3]; exact (h3 j a v _ g1 he).2.2⟩
      rw[hi] at hf
      unfold Instr.lookup
      simp only[Sem.run_bind,run_underlying hu,Result.andThen_ok,MapKept.run_getObj_map hes,Sem.run_pure,hch,hf,Option.bind_some,he,Option.map_some,mhas_idx,hi,Option.isSome_some]
    obtain ⟨v,k1,k2⟩:=key
    refine ⟨_,k1,?_⟩
    have hE:=RV.expT (mget_ok (fun x hx=>hB.vals x hx) hmz k) k2
    cases h
    cases ok
    ·exact hE
    ·refine .tup rfl fun j c u g1 g2 => ?_
     match j with
     | 0=>simp at g1 g2; subst g1; subst g2; exact hE
     | 1=>simp at g1 g2; subst g1; subst g2; exact .val
     | j+2=>simp at g1
   ·cases h
  ·cases h
 ·cases h
def updQ (P:Program) (ks:List TypeId) (ro:Nat) (H:List Row) (T:TypeId) (x k v:PV):Option (List Row):=
 match P.underlying T,x with
 | some (.map K E),.mp i =>
  match mapAt H i with
  | some (kk,K',E',D)=>if ks.contains K&&(K==K')&&(E==E')&&mvOk P K k&&mvOk P E v&&decide (ro<=i) then some (H.set i (mapRow kk K E (mput D k v))) else none
  | none=>none
 | _,_=>none
theorem updQ_sound {P:Program} {ks:List TypeId} (hks:∀ K,K ∈ ks->KeyOK P K) {C:Ctx} (hR:RH P C) {T:TypeId} {x k v:PV} {X KV VV:Value} {H':List Row} (hx:RV P C x X) (hk:RV P C k KV) (hv:RV P C v VV) (h:updQ P ks C.ro C.H T x k v=some H'):
  ∃ C',(Instr.mapUpdate T X KV VV).run P C.w=.ok () C'.w/\Turn P C C' H':=by
 unfold updQ at h
 split at h
 ·rename_i K E i hu
  split at h
  ·rename_i kk K' E' D hm
   split at h
   ·rename_i hc
    simp only[Bool.and_eq_true,beq_iff_eq,List.contains_eq_mem,decide_eq_true_eq] at hc
    obtain ⟨⟨⟨⟨⟨hc1,rfl⟩,rfl⟩,hmk⟩,hmv⟩,hro⟩:=hc
    cases h
    have hKO:=hks _ hc1
    obtain ⟨b,rfl,hρ,hB⟩:=map_blk hR hx hm
    obtain ⟨es,c,hes,_⟩:=hB.mem
    obtain ⟨h1,h2,h3⟩:=map_entries hB hes
    have hf:=find_map hKO hB hmk hk hes C.w
    have hch:=hKO.check C k KV hmk hk false C.w
    cases hi:midx D k with
    | none =>
     have hrun:(Instr.mapUpdate T (.map (some b)) KV VV).run P C.w=.ok () (C.w.putObj b (.map (es.push { key:=KV,val:=VV,born:=c }) (c+1))):=by
      unfold Instr.mapUpdate
      rw[hi] at hf
      simp only[Sem.run_bind,run_underlying hu,Result.andThen_ok,MapKept.run_getObj_map hes,hch,hf,Option.bind_none,run_setObj_map _ hes]
      rfl
     refine ⟨{ C with H:=C.H.set i (mapRow kk K E (mput D k v)),w:=C.w.putObj b (.map (es.push { key:=KV,val:=VV,born:=c }) (c+1)) },hrun,?_⟩
     rw[(midx_none hi).2]
     refine setMap_sound hR hm hρ hro hes fun C' hh=>⟨⟨_,_,hh,by simp[h1],by simp[h2],fun j a u e g1 g2 => ?_⟩,fun p hp => ?_,fun p hp => ?_⟩
     ·rw[List.getElem?_append] at g1
      rw[Array.getElem?_push] at g2
      split at g1
      ·rename_i hj
       rw[if_neg (by omega)] at g2
       obtain ⟨q1,q2,q3⟩:=h3 j a u e g1 g2
       exact ⟨q1,q2.flat (flat_of_mv (hB.keys _ (List.mem_of_getElem? g1))),q3.flat (flat_of_mv (hB.vals _ (List.mem_of_getElem? g1)))⟩
      ·rename_i hj
       have hj2:j=D.length:=by
        have:=(List.getElem?_eq_some_iff.1 g1).1
        simp at this; omega
       subst hj2
       simp only[Nat.sub_self,List.getElem?_cons_zero,Option.some.injEq,Prod.mk.injEq] at g1
       rw[if_pos (by omega)] at g2
       obtain ⟨rfl,rfl⟩:=g1
       cases g2
       exact ⟨h2,hk.flat (flat_of_mv hmk),hv.flat (flat_of_mv hmv)⟩
     ·rcases List.mem_append.1 hp with hp | hp
      ·exact hB.keys p hp
      ·rw[List.mem_singleton] at hp; subst hp; exact hmk
     ·rcases List.mem_append.1 hp with hp | hp
      ·exact hB.vals p hp
      ·rw[List.mem_singleton] at hp; subst hp; exact hmv
    | some j =>
     obtain ⟨a,u0,g1,g2,g3,g4⟩:=midx_some hi
     have hj:j<es.size:=by rw[h1]; exact (List.getElem?_eq_some_iff.1 g1).1
     have he:es[j]? = some es[j]:=Array.getElem?_eq_getElem hj
     have hkey:es[j].key=KV:=(mv_inj hmk (hB.keys _ (List.mem_of_getElem? g1)) hk (h3 j a u0 _ g1 he).2.1 (keq_eq hmk (hB.keys _ (List.mem_of_getElem? g1)) g2)).symm
     have hrun:(Instr.mapUpdate T (.map (some b)) KV VV).run P C.w=.ok () (C.w.putObj b (.map (es.modify j fun e=>{ e with key:=KV,val:=VV }) c)):=by
      unfold Instr.mapUpdate
      rw[hi] at hf
      simp only[Sem.run_bind,run_underlying hu,Result.andThen_ok,MapKept.run_getObj_map hes,hch,hf,Option.bind_some,he,Option.map_some,Option.getD_some,hkey,run_stays hmk hk,run_setObj_map _ hes]
      rfl
     refine ⟨{ C with H:=C.H.set i (mapRow kk K E (mput D k v)),w:=C.w.putObj b (.map (es.modify j fun e=>{ e with key:=KV,val:=VV }) c) },hrun,?_⟩
     rw[g4]
     refine setMap_sound hR hm hρ hro hes fun C' hh=>⟨⟨_,_,hh,by simp[h1],by simp[h2],fun l a' u e k1 k2 => ?_⟩,fun p hp => ?_,fun p hp => ?_⟩
     ·rw[Array.getElem?_modify] at k2
      rw[List.getElem?_set] at k1
      by_cases hjl:j=l
      ·subst hjl
       rw[if_pos rfl,if_pos (by rw[<- h1]; exact hj)] at k1
       cases k1
       rw[if_pos rfl,he] at k2
       cases k2
       exact ⟨(h3 j a u0 _ g1 he).1,hk.flat (flat_of_mv hmk),hv.flat (flat_of_mv hmv)⟩
      ·rw[if_neg hjl] at k1 k2
       obtain ⟨q1,q2,q3⟩:=h3 l a' u e k1 k2
       exact ⟨q1,q2.flat (flat_of_mv (hB.keys _ (List.mem_of_getElem? k1))),q3.flat (flat_of_mv (hB.vals _ (List.mem_of_getElem? k1)))⟩
     ·rcases List.mem_or_eq_of_mem_set hp with hp | hp
      ·exact hB.keys p hp
      ·subst hp; exact hmk
     ·rcases List.mem_or_eq_of_mem_set hp with hp | hp
      ·exact hB.vals p hp
      ·subst hp; exact hmv
   ·cases h
  ·cases h
 ·cases h
def mapQ (P:Program) (ks:List TypeId) (ro:Nat) (H:List Row) (f:Operand->PV):Op->Option (PV × List Row)
 | .makeMap T none=>match P.underlying T with | some (.map K E)=>some (.mp H.length,H++[mapRow k0 K E []]) | _=>none
 | .lookup T x k ok=>(lookQ P ks H T (f x) (f k) ok).map fun p=>(p,H)
 | .mapUpdate T x k v=>(updQ P ks ro H T (f x) (f k) (f v)).map fun H'=>(.val undef,H')
 | .call c =>
  match c.callee,c.args.toList,c.argTypes[0]? with
  | .builtin .len,[x],some T =>
   match P.underlying T,f x with
   | some (.map _ _),.mp i=>(mapAt H i).map fun r=>(.val (.int .i64 (r.2.2.2.length:Int)),H)
   | _,_=>none
  | _,_,_=>none
 | _=>none
theorem set_row {H:List Row} {i:Nat} {k k':LoopK} {K E K' E':TypeId} {D D':List (PV × PV)} (h:mapAt H i=some (k,K,E,D)) (x:Nat):rowAt (H.set i (mapRow k' K' E' D')) x=rowAt H x:=by
 obtain ⟨r,g1,g3,g2⟩:=mapAt_some h
 have hi:i<H.length:=(List.getElem?_eq_some_iff.1 g1).1
 unfold rowAt
 rw[List.getElem?_set]
 by_cases hx:i=x
 ·subst hx
  rw[if_pos rfl,if_pos hi,g1]
  simp[mapRow,g3]
 ·rw[if_neg hx]
theorem mapQ_rows {P:Program} {ks:List TypeId} {ro:Nat} {H:List Row} {f:Operand->PV} {op:Op} {p:PV} {H':List Row} (h:mapQ P ks ro H f op=some (p,H')) (x:Nat):rowAt H' x=rowAt H x:=by
 cases op <;> simp only[mapQ,reduceCtorEq] at h
 case makeMap T r =>
  cases r with
  | some _=>cases h
  | none =>
   simp only at h
   split at h
   ·cases h
    by_cases hx:x<H.length
    ·exact rowAt_append hx
    ·unfold rowAt
     rw[List.getElem?_append_right (by omega),List.getElem?_eq_none (by omega:H.length<=x)]
     cases hm:x-H.length with
     | zero=>simp[mapRow]
     | succ n=>simp
   ·cases h
 case lookup T x k ok =>
  obtain ⟨q,hq,he⟩:=Option.map_eq_some_iff.1 h
  cases he; rfl
 case mapUpdate T y k v =>
  obtain ⟨q,hq,he⟩:=Option.map_eq_some_iff.1 h
  cases he
  unfold updQ at hq
  split at hq
  ·split at hq
   ·rename_i hm
    split at hq
    ·cases hq; exact set_row hm x
    ·cases hq
   ·cases hq
  ·cases hq
 case call c =>
  split at h
  ·split at h
   ·obtain ⟨q,hq,he⟩:=Option.map_eq_some_iff.1 h
    cases he; rfl
   ·cases h
  ·cases h
theorem mapQ_sound {P:Program} {ks:List TypeId} (hks:∀ K,K ∈ ks->KeyOK P K) {ro:Nat} {H:List Row} {f:Operand->PV} {op:Op} {p:PV} {H':List Row} (h:mapQ P ks ro H f op=some (p,H')):OprS P ro H f op p H':=by
 intro C g o ho hro hH hR hv
 subst hro; subst hH
 cases op <;> simp only[mapQ,reduceCtorEq] at h
 case makeMap T r =>
  cases r with
  | some _=>cases h
  | none =>
   simp only at h
   split at h
   ·rename_i K E hu
    cases h
    obtain ⟨h1,h2,h3⟩:=newMap_sound hR K E
    refine ⟨_,.map (some C.w.heap.size),_,?_,.inl rfl,⟨rfl,h1,h2⟩,h3⟩
    unfold execOp
    simp only[ho,Option.map_none,Instr.makeMap,Sem.run_bind,Sem.run_pure,Result.andThen_ok,run_newObj_alloc]
    rfl
   ·cases h
 case lookup T x k ok =>
  obtain ⟨q,hq,he⟩:=Option.map_eq_some_iff.1 h
  cases he
  obtain ⟨v,h1,h2⟩:=lookQ_sound hks hR (hv x (by simp[Op.operands])) (hv k (by simp[Op.operands])) hq
  refine ⟨_,v,C,?_,.inl rfl,⟨rfl,.refl C,hR⟩,h2⟩
  unfold execOp
  simp only[ho,Sem.run_bind,h1,Result.andThen_ok]
  rfl
 case mapUpdate T x k v =>
  obtain ⟨q,hq,he⟩:=Option.map_eq_some_iff.1 h
  cases he
  obtain ⟨C',h1,h2⟩:=updQ_sound hks hR (hv x (by simp[Op.operands])) (hv k (by simp[Op.operands])) (hv v (by simp[Op.operands])) hq
  refine ⟨_,undef,C',?_,.inr ⟨rfl,rfl⟩,h2,.val⟩
  unfold execOp
  simp only[ho,Sem.run_bind,h1,Result.andThen_ok]
  rfl
 case call c =>
  split at h
  ·rename_i x T hc ha hT
   split at h
   ·rename_i K E i hu hfx
    obtain ⟨⟨kk,K',E',D⟩,hm,he⟩:=Option.map_eq_some_iff.1 h
    cases he
    have hca:c.args = #[x]:=by apply Array.ext'; simpa using ha
    have hx:=hv x (by simp[Op.operands,Call.operands,hc,hca])
    rw[hfx] at hx
    obtain ⟨b,hX,hρ,hB⟩:=map_blk hR hx hm
    obtain ⟨es,c0,hes,_⟩:=hB.mem
    obtain ⟨h1,h2,h3⟩:=map_entries hB hes
    refine ⟨_,.int .i64 (D.length:Int),C,?_,.inl rfl,⟨rfl,.refl C,hR⟩,.val⟩
    have hlen:(Builtin.len_ c.argTypes o.type #[g x]).run P C.w=.ok (.int .i64 (D.length:Int)) C.w:=by
     rw[hX]
     simp only[Builtin.len_,hT,List.getElem?_toArray,List.getElem?_cons_zero,Sem.run_bind,run_underlying hu,Result.andThen_ok,MapKept.run_getObj_map hes,Sem.run_pure,h1]
     rfl
    simp only[execOp,ho,resolve,hc,hca,Sem.run_bind,Sem.run_pure,Result.andThen_ok,invoke,builtin,List.map_toArray,List.map_cons,List.map_nil,hlen]
   ·cases h
  ·cases h
def Ad.addKeys (E:Ad) (P:Program) (ks:List TypeId):Ad:={ E with opr:=fun ro H f op=>match mapQ P ks ro H f op with | some r=>some (.leaf r) | none=>E.opr ro H f op }
theorem Ab.addKeys {P:Program} {E:Ad} (hE:Ab P E.env) {ks:List TypeId} (hks:∀ K,K ∈ ks->KeyOK P K):Ab P (E.addKeys P ks).env where
 ent:=hE.ent
 cal:=hE.cal
 ora:=hE.ora
 lo:=fun f fn b h1 h2=>LoH.mono (E:=E.env) (E':=(E.addKeys P ks).env) (fun _ _ _ _ _ _ _ h=>h) (hE.lo f fn b h1 h2)
 inp:=hE.inp
 sft:=hE.sft
 sftE:=fun ro H f T x k p H' h=>hE.sftE ro H f T x k p H' h
 opr:=fun ro H f op p H' h=>by
  change (match mapQ P ks ro H f op with | some r=>some (DT.leaf r) | none=>E.opr ro H f op).bind DT.run=some (p,H') at h
  split at h
  ·rename_i r hr
   have:r=(p,H'):=by simpa [DT.run] using h
   subst this
   exact ⟨mapQ_sound hks hr,mapQ_rows hr⟩
  ·exact hE.opr ro H f op p H' h

def lookD (P:Program) (E:TypeId) (z:PV) (k:PV) (H:List Row) (ok:Bool):List (PV × PV)->DT (PV × List Row)
 | []=>.leaf (if ok then .tup [expT P E z,.val (.bool false)] else expT P E z,H)
 | (a,v)::D=>.br (keq k a) (.leaf (if ok then .tup [expT P E v,.val (.bool true)] else expT P E v,H)) (lookD P E z k H ok D)
theorem lookD_run {P:Program} {E:TypeId} {z k:PV} {H:List Row} {ok:Bool}:∀ {D:List (PV × PV)},(lookD P E z k H ok D).run=some (if ok then .tup [expT P E (mget z D k),.val (.bool (mhas D k))] else expT P E (mget z D k),H)
 | []=>rfl
 | (a,v)::D=>by
  unfold lookD mget mhas
  cases hq:keq k a with
  | true=>rfl
  | false =>
   show (lookD P E z k H ok D).run=_
   rw[lookD_run]; rfl
def updD (k:PV) (r:PV × List Row):List (PV × PV)->DT (PV × List Row)
 | []=>.leaf r
 | (a,_)::D=>.br (keq k a) .no (updD k r D)
theorem updD_run {k:PV} {r q:PV × List Row}:∀ {D:List (PV × PV)},(updD k r D).run=some q->q=r/\midx D k=none
 | [],h=>by cases h; exact ⟨rfl,rfl⟩
 | (a,v)::D,h=>by
  unfold updD at h
  unfold midx
  cases hq:keq k a with
  | true=>rw[hq] at h; cases h
  | false =>
   rw[hq] at h
   obtain ⟨h1,h2⟩:=updD_run (D:=D) h
   exact ⟨h1,by rw[h2]; rfl⟩
def mapDT (P:Program) (ks bs:List TypeId) (ro:Nat) (H:List Row) (f:Operand->PV) (op:Op):Option (DT (PV × List Row)):=
 match op with
 | .lookup T x k ok =>
  match bs.contains T,P.underlying T,f x with
  | true,some (.map K E),.mp i =>
   match mapAt H i,zeroQ P E with
   | some (_,K',E',D),some z =>
    if ks.contains K&&(K==K')&&(E==E')&&mvOk P K (f k)&&mvOk P E (.val z) then some (lookD P E (.val z) (f k) H ok D) else none
   | _,_=>none
  | _,_,_=>(mapQ P ks ro H f op).map .leaf
 | .mapUpdate T x k v =>
  match bs.contains T,P.underlying T,f x with
  | true,some (.map K E),.mp i =>
   match mapAt H i with
   | some (kk,K',E',D) =>
    if ks.contains K&&(K==K')&&(E==E')&&mvOk P K (f k)&&mvOk P E (f v)&&decide (ro<=i) then some (updD (f k) (.val undef,H.set i (mapRow kk K E (D++[(f k,f v)]))) D) else none
   | _=>none
  | _,_,_=>(mapQ P ks ro H f op).map .leaf
 | _=>(mapQ P ks ro H f op).map .leaf
theorem mapDT_run {P:Program} {ks bs:List TypeId} {ro:Nat} {H:List Row} {f:Operand->PV} {op:Op} {d:DT (PV × List Row)} {r:PV × List Row} (h:mapDT P ks bs ro H f op=some d) (hr:d.run=some r):mapQ P ks ro H f op=some r:=by
 have plain:(mapQ P ks ro H f op).map DT.leaf=some d->mapQ P ks ro H f op=some r:=fun h=>by
  obtain ⟨q,hq,rfl⟩:=Option.map_eq_some_iff.1 h
  cases hr; exact hq
 unfold mapDT at h
 split at h
 ·rename_i T x k ok
  split at h
  ·rename_i K E i hb hu hx
   split at h
   ·rename_i kk K' E' D z hm hz
    split at h
    ·rename_i hc
     cases h
     rw[lookD_run] at hr
     cases hr
     simp only[mapQ,lookQ,hu,hx,hm,hz]
     rw[if_pos hc]
     rfl
    ·cases h
   ·cases h
  ·exact plain h
 ·rename_i T x k v
  split at h
  ·rename_i K E i hb hu hx
   split at h
   ·rename_i kk K' E' D hm
    split at h
    ·rename_i hc
     cases h
     obtain ⟨rfl,hi⟩:=updD_run hr
     simp only[mapQ,updQ,hu,hx,hm]
     rw[if_pos hc,(midx_none hi).2]
     rfl
    ·cases h
   ·cases h
  ·exact plain h
 ·exact plain h
def Ad.addMaps (E:Ad) (P:Program) (ks bs:List TypeId):Ad:={ E with opr:=fun ro H f op=>match mapDT P ks bs ro H f op with | some d=>some d | none=>E.opr ro H f op }
theorem Ab.addMaps {P:Program} {E:Ad} (hE:Ab P E.env) {ks bs:List TypeId} (hks:∀ K,K ∈ ks->KeyOK P K):Ab P (E.addMaps P ks bs).env where
 ent:=hE.ent
 cal:=hE.cal
 ora:=hE.ora
 lo:=fun f fn b h1 h2=>LoH.mono (E:=E.env) (E':=(E.addMaps P ks bs).env) (fun _ _ _ _ _ _ _ h=>h) (hE.lo f fn b h1 h2)
 inp:=hE.inp
 sft:=hE.sft
 sftE:=fun ro H f T x k p H' h=>hE.sftE ro H f T x k p H' h
 opr:=fun ro H f op p H' h=>by
  change (match mapDT P ks bs ro H f op with | some d=>some d | none=>E.opr ro H f op).bind DT.run=some (p,H') at h
  split at h
  ·rename_i d hd
   have hq:=mapDT_run hd h
   exact ⟨mapQ_sound hks hq,mapQ_rows hq⟩
  ·exact hE.opr ro H f op p H' h

theorem dt_br {α:Type} {b:Bool} {x r:α} (h:(DT.br b (.leaf x) .no).run=some r):b=true/\r=x:=by
 cases b
 ·cases h
 ·cases h; exact ⟨rfl,rfl⟩
end Go.Hx
/- Hx: maps: an entry is found or made, and stored to (m[k] op= v). -/
namespace Go.Hx
open Go.MapKept
def mins (z:PV) (D:List (PV × PV)) (k:PV):List (PV × PV):=bif mhas D k then D else D++[(k,z)]
def midxN (D:List (PV × PV)) (k:PV):Nat:=(midx D k).getD D.length
def mset (D:List (PV × PV)) (j:Nat) (v:PV):List (PV × PV):=D.set j ((D.getD j (.any,.any)).1,v)
def entDT (P:Program) (ks:List TypeId) (ro:Nat) (H:List Row) (f:Operand->PV):Op->Option (DT (PV × List Row))
 | .mapEntry T x k =>
  match P.underlying T,f x with
  | some (.map K E),.mp i =>
   match mapAt H i,zeroQ P E with
   | some (kk,K',E',D),some z =>
    if ks.contains K&&(K==K')&&(E==E')&&mvOk P K (f k)&&mvOk P E (.val z)&&decide (ro<=i) then
     some (.leaf (.tup [expT P E (mget (.val z) D (f k)),.val (.int .i64 (midxN D (f k):Int))],H.set i (mapRow kk K E (mins (.val z) D (f k))))) else none
   | _,_=>none
  | _,_=>none
 | .entryStore _ x s v =>
  match f x,f s with
  | .mp i,.val (.int _ j) =>
   match mapAt H i with
   | some (kk,K,E,D) =>
    if mvOk P E (f v)&&decide (ro<=i) then some (.br (decide (0<=j)&&decide (j<(D.length:Int))) (.leaf (.val undef,H.set i (mapRow kk K E (mset D j.toNat (f v))))) .no) else none
   | none=>none
  | _,_=>none
 | _=>none
theorem ent_rows {P:Program} {ks:List TypeId} {ro:Nat} {H:List Row} {f:Operand->PV} {op:Op} {d:DT (PV × List Row)} {p:PV} {H':List Row} (h:entDT P ks ro H f op=some d) (hr:d.run=some (p,H')) (x:Nat):rowAt H' x=rowAt H x:=by
 cases op <;> simp only[entDT,reduceCtorEq] at h
 case mapEntry T y k =>
  split at h
  ·split at h
   ·rename_i hm _
    split at h
    ·cases h; cases hr; exact set_row hm x
    ·cases h
   ·cases h
  ·cases h
 case entryStore T y s v =>
  split at h
  ·split at h
   ·rename_i hm
    split at h
    ·cases h
     obtain ⟨_,h2⟩:=dt_br hr
     cases h2; exact set_row hm x
    ·cases h
   ·cases h
  ·cases h
theorem ent_sound {P:Program} {ks:List TypeId} (hks:∀ K,K ∈ ks->KeyOK P K) {ro:Nat} {H:List Row} {f:Operand->PV} {op:Op} {d:DT (PV × List Row)} {p:PV} {H':List Row} (h:entDT P ks ro H f op=some d) (hr:d.run=some (p,H')):OprS P ro H f op p H':=by
 intro C g o ho hro hH hR hv
 subst hro; subst hH
 cases op <;> simp only[entDT,reduceCtorEq] at h
 case mapEntry T x k =>
  split at h
  ·rename_i K E i hu hfx
   split at h
   ·rename_i kk K' E' D z hm hz
    split at h
    ·rename_i hc
     simp only[Bool.and_eq_true,beq_iff_eq,List.contains_eq_mem,decide_eq_true_eq] at hc
     obtain ⟨⟨⟨⟨⟨hc1,rfl⟩,rfl⟩,hmk⟩,hmz⟩,hro⟩:=hc
     cases h
     cases hr
     have hKO:=hks _ hc1
     have hx:=hv x (by simp[Op.operands])
     rw[hfx] at hx
     have hk:=hv k (by simp[Op.operands])
     obtain ⟨b,hX,hρ,hB⟩:=map_blk hR hx hm
     obtain ⟨es,c,hes,_⟩:=hB.mem
     obtain ⟨h1,h2,h3⟩:=map_entries hB hes
     have hf:=find_map hKO hB hmk hk hes C.w
     have hch:=hKO.check C (f k) (g k) hmk hk false C.w
     have hE:∀ {V:Value},RV P C (mget (.val z) D (f k)) V->RV P C (expT P E (mget (.val z) D (f k))) V:=fun hV=>RV.expT (mget_ok (fun x hx=>hB.vals x hx) hmz (f k)) hV
     cases hi:midx D (f k) with
     | none =>
      have hrun:(Instr.mapEntry T (.map (some b)) (g k)).run P C.w=.ok (.tuple #[z,goInt c]) (C.w.putObj b (.map (es.push { key:=g k,val:=z,born:=c }) (c+1))):=by
       unfold Instr.mapEntry
       rw[hi] at hf
       simp only[Sem.run_bind,run_underlying hu,Result.andThen_ok,MapKept.run_getObj_map hes,hch,hf,Option.bind_none,run_zeroQ hz,run_setObj_map _ hes,Sem.run_pure]
       rfl
      have hmz':mins (.val z) D (f k)=D++[(f k,.val z)]:=by unfold mins; rw[mhas_idx,hi]; rfl
      have hin:midxN D (f k)=c:=by unfold midxN; rw[hi,h2]; rfl
      have hT:Turn P C { C with H:=C.H.set i (mapRow kk K E (mins (.val z) D (f k))),w:=C.w.putObj b (.map (es.push { key:=g k,val:=z,born:=c }) (c+1)) } (C.H.set i (mapRow kk K E (mins (.val z) D (f k)))):=by
       rw[hmz']
       refine setMap_sound hR hm hρ hro hes fun C' hh=>⟨⟨_,_,hh,by simp[h1],by simp[h2],fun j a u e g1 g2 => ?_⟩,fun p hp => ?_,fun p hp => ?_⟩
       ·rw[List.getElem?_append] at g1
        rw[Array.getElem?_push] at g2
        split at g1
        ·rename_i hj
         rw[if_neg (by omega)] at g2
         obtain ⟨q1,q2,q3⟩:=h3 j a u e g1 g2
         exact ⟨q1,q2.flat (flat_of_mv (hB.keys _ (List.mem_of_getElem? g1))),q3.flat (flat_of_mv (hB.vals _ (List.mem_of_getElem? g1)))⟩
        ·rename_i hj
         have hj2:j=D.length:=by
          have:=(List.getElem?_eq_some_iff.1 g1).1
          simp at this; omega
         subst hj2
         simp only[Nat.sub_self,List.getElem?_cons_zero,Option.some.injEq,Prod.mk.injEq] at g1
         rw[if_pos (by omega)] at g2
         obtain ⟨rfl,rfl⟩:=g1
         cases g2
         exact ⟨h2,hk.flat (flat_of_mv hmk),.val⟩
       ·rcases List.mem_append.1 hp with hp | hp
        ·exact hB.keys p hp
        ·rw[List.mem_singleton] at hp; subst hp; exact hmk
       ·rcases List.mem_append.1 hp with hp | hp
        ·exact hB.vals p hp
        ·rw[List.mem_singleton] at hp; subst hp; exact hmz
      refine ⟨_,.tuple #[z,goInt c],_,?_,.inl rfl,hT,?_⟩
      ·unfold execOp
       simp only[ho,hX,Sem.run_bind,hrun,Result.andThen_ok]
       rfl
      ·have hz1:RV P C (expT P E (mget (.val z) D (f k))) z:=hE (by rw[(midx_none hi).1]; exact .val)
       refine .tup rfl fun j q u g1 g2 => ?_
       match j with
       | 0=>simp at g1 g2; subst g1; subst g2; exact hz1.mono hT.ext
       | 1=>simp at g1 g2; subst g1; subst g2; rw[hin]; exact .val
       | j+2=>simp at g1
     | some j =>
      obtain ⟨a,u0,g1,g2,g3,g4⟩:=midx_some hi
      have hj:j<es.size:=by rw[h1]; exact (List.getElem?_eq_some_iff.1 g1).1
      have he:es[j]? = some es[j]:=Array.getElem?_eq_getElem hj
      have hkey:es[j].key=g k:=(mv_inj hmk (hB.keys _ (List.mem_of_getElem? g1)) hk (h3 j a u0 _ g1 he).2.1 (keq_eq hmk (hB.keys _ (List.mem_of_getElem? g1)) g2)).symm
      have hrun:(Instr.mapEntry T (.map (some b)) (g k)).run P C.w=.ok (.tuple #[es[j].val,goInt (es[j].born:Int)]) (C.w.putObj b (.map (es.modify j fun e=>{ e with key:=g k }) c)):=by
       unfold Instr.mapEntry
       rw[hi] at hf
       simp only[Sem.run_bind,run_underlying hu,Result.andThen_ok,MapKept.run_getObj_map hes,hch,hf,Option.bind_some,he,Option.map_some,Option.getD_some,hkey,run_stays hmk hk,run_setObj_map _ hes,Sem.run_pure]
       rfl
      have hmz':mins (.val z) D (f k)=D:=by unfold mins; rw[mhas_idx,hi]; rfl
      have hin:midxN D (f k)=j:=by unfold midxN; rw[hi]; rfl
      have hT:Turn P C { C with H:=C.H.set i (mapRow kk K E (mins (.val z) D (f k))),w:=C.w.putObj b (.map (es.modify j fun e=>{ e with key:=g k }) c) } (C.H.set i (mapRow kk K E (mins (.val z) D (f k)))):=by
       rw[hmz']
       refine setMap_sound hR hm hρ hro hes fun C' hh=>⟨⟨_,_,hh,by simp[h1],by simp[h2],fun l a' u e k1 k2 => ?_⟩,fun p hp=>hB.keys p hp,fun p hp=>hB.vals p hp⟩
       rw[Array.getElem?_modify] at k2
       have fl:∀ {e':MapEntry},e'.born=l/\RV P C a' e'.key/\RV P C u e'.val->e'.born=l/\RV P C' a' e'.key/\RV P C' u e'.val:=fun ⟨q1,q2,q3⟩ =>
        ⟨q1,q2.flat (flat_of_mv (hB.keys _ (List.mem_of_getElem? k1))),q3.flat (flat_of_mv (hB.vals _ (List.mem_of_getElem? k1)))⟩
       by_cases hjl:j=l
       ·subst hjl
        rw[if_pos rfl,he] at k2
        cases k2
        refine fl ?_
        obtain ⟨q1,q2,q3⟩:=h3 j a' u _ k1 he
        exact ⟨q1,by rw[<- hkey]; exact q2,q3⟩
       ·rw[if_neg hjl] at k2
        exact fl (h3 l a' u e k1 k2)
      refine ⟨_,.tuple #[es[j].val,goInt (es[j].born:Int)],_,?_,.inl rfl,hT,?_⟩
      ·unfold execOp
       simp only[ho,hX,Sem.run_bind,hrun,Result.andThen_ok]
       rfl
      ·have hz1:RV P C (expT P E (mget (.val z) D (f k))) es[j].val:=hE (by rw[g3]; exact (h3 j a u0 _ g1 he).2.2)
       refine .tup rfl fun l q u k1 k2 => ?_
       match l with
       | 0=>simp at k1 k2; subst k1; subst k2; exact hz1.mono hT.ext
       | 1 =>
        simp at k1 k2; subst k1; subst k2
        rw[hin,(h3 j a u0 _ g1 he).1]; exact .val
       | l+2=>simp at k1
    ·cases h
   ·cases h
  ·cases h
 case entryStore T x s v =>
  split at h
  ·rename_i i q j hfx hfs
   split at h
   ·rename_i kk K E D hm
    split at h
    ·rename_i hc
     simp only[Bool.and_eq_true,decide_eq_true_eq] at hc
     obtain ⟨hmv,hro⟩:=hc
     cases h
     obtain ⟨hj,he0⟩:=dt_br hr
     simp only[Bool.and_eq_true,decide_eq_true_eq] at hj
     cases he0
     have hx:=hv x (by simp[Op.operands])
     rw[hfx] at hx
     have hs:=hv s (by simp[Op.operands])
     rw[hfs] at hs
     have hvv:=hv v (by simp[Op.operands])
     obtain ⟨b,hX,hρ,hB⟩:=map_blk hR hx hm
     obtain ⟨es,c,hes,_⟩:=hB.mem
     obtain ⟨h1,h2,h3⟩:=map_entries hB hes
     have hjs:j.toNat<es.size:=by omega
     have hborn:∀ (l:Nat) (hl:l<es.size),es[l].born=l:=fun l hl=>by
      have hd:D[l]? = some (D[l]'(by omega)):=List.getElem?_eq_getElem _
      exact (h3 l _ _ _ hd (Array.getElem?_eq_getElem hl)).1
     have hfi:es.findIdx? (fun e=>(e.born:Int)==j)=some j.toNat:=by
      rw[Array.findIdx?_eq_some_iff_getElem]
      refine ⟨hjs,by rw[hborn _ hjs]; simp; omega,fun l hl => ?_⟩
      rw[hborn l (by omega)]; simp; omega
     generalize hS:g s=S0 at hs
     cases hs
     have hrun:(Instr.entryStore T (.map (some b)) (.int q j) (g v)).run P C.w=.ok () (C.w.putObj b (.map (es.modify j.toNat fun e=>{ e with val:=g v }) c)):=by
      unfold Instr.entryStore
      simp only[Sem.run_bind,Sem.run_pure,Result.andThen_ok,MapKept.run_getObj_map hes,asInt,asIntOf,hfi,run_setObj_map _ hes]
      rfl
     refine ⟨_,undef,{ C with H:=C.H.set i (mapRow kk K E (mset D j.toNat (f v))),w:=C.w.putObj b (.map (es.modify j.toNat fun e=>{ e with val:=g v }) c) },?_,.inr ⟨rfl,rfl⟩,?_,.val⟩
     ·unfold execOp
      simp only[ho,hX,hS,Sem.run_bind,hrun,Result.andThen_ok]
      rfl
     ·have hDj:D[j.toNat]? = some (D[j.toNat]'(by omega)):=List.getElem?_eq_getElem _
      have hkk:mset D j.toNat (f v)=D.set j.toNat ((D[j.toNat]'(by omega)).1,f v):=by unfold mset; rw[List.getD_eq_getElem?_getD,hDj]; rfl
      rw[hkk]
      refine setMap_sound hR hm hρ hro hes fun C' hh=>⟨⟨_,_,hh,by simp[h1],by simp[h2],fun l a' u e k1 k2 => ?_⟩,fun p hp => ?_,fun p hp => ?_⟩
      ·rw[Array.getElem?_modify] at k2
       rw[List.getElem?_set] at k1
       by_cases hjl:j.toNat=l
       ·subst hjl
        rw[if_pos rfl,if_pos (by omega)] at k1
        cases k1
        rw[if_pos rfl,Array.getElem?_eq_getElem hjs] at k2
        cases k2
        obtain ⟨q1,q2,_⟩:=h3 j.toNat _ _ _ hDj (Array.getElem?_eq_getElem hjs)
        exact ⟨q1,q2.flat (flat_of_mv (hB.keys _ (List.mem_of_getElem? hDj))),hvv.flat (flat_of_mv hmv)⟩
       ·rw[if_neg hjl] at k1 k2
        obtain ⟨q1,q2,q3⟩:=h3 l a' u e k1 k2
        exact ⟨q1,q2.flat (flat_of_mv (hB.keys _ (List.mem_of_getElem? k1))),q3.flat (flat_of_mv (hB.vals _ (List.mem_of_getElem? k1)))⟩
      ·rcases List.mem_or_eq_of_mem_set hp with hp | hp
       ·exact hB.keys p hp
       ·subst hp
        have:=hB.keys _ (List.mem_of_getElem? hDj)
        exact this
      ·rcases List.mem_or_eq_of_mem_set hp with hp | hp
       ·exact hB.vals p hp
       ·subst hp; exact hmv
    ·cases h
   ·cases h
  ·cases h
theorem mget_mins (z:PV) (D:List (PV × PV)) (k k':PV):mget z (mins z D k') k=mget z D k:=by
 unfold mins
 cases mhas D k' with
 | true=>rfl
 | false =>
  rw[cond_false]
  induction D with
  | nil=>simp only[List.nil_append,mget]; cases keq k k' <;> rfl
  | cons x D ih=>simp only[List.cons_append,mget,ih]
theorem mapAt_set {H:List Row} {i:Nat} {k:LoopK} {K E:TypeId} {D D':List (PV × PV)} (h:mapAt H i=some (k,K,E,D)) (x:Nat):mapAt (H.set i (mapRow k K E D')) x=if x=i then some (k,K,E,D') else mapAt H x:=by
 obtain ⟨r,g1,_,_⟩:=mapAt_some h
 have hi:i<H.length:=(List.getElem?_eq_some_iff.1 g1).1
 unfold mapAt
 rw[List.getElem?_set]
 by_cases hx:x=i
 ·subst hx; rw[if_pos rfl,if_pos hi,if_pos rfl]; rfl
 ·rw[if_neg (fun e=>hx e.symm),if_neg hx]
def sftQ (P:Program) (ks:List TypeId) (H:List Row) (f:Operand->PV):Op->Option PV
 | .lookup T x k false=>lookQ P ks H T (f x) (f k) false
 | _=>none
theorem sftQ_sound {P:Program} {ks:List TypeId} (hks:∀ K,K ∈ ks->KeyOK P K) {H:List Row} {f:Operand->PV} {op:Op} {p:PV} (h:sftQ P ks H f op=some p):SftS P H f op p:=by
 intro C g o ho hH hR hv
 subst hH
 unfold sftQ at h
 split at h
 ·rename_i T x k
  obtain ⟨v,h1,h2⟩:=lookQ_sound hks hR (hv x (by simp[Op.operands])) (hv k (by simp[Op.operands])) h
  refine ⟨v,?_,h2⟩
  unfold execOp
  simp only[ho,Sem.run_bind,h1,Result.andThen_ok]
  rfl
 ·cases h
theorem sftQ_ent {P:Program} {ks:List TypeId} {ro:Nat} {H H':List Row} {f:Operand->PV} {T:TypeId} {x k:Operand} {d:DT (PV × List Row)} {p:PV} (h:entDT P ks ro H f (.mapEntry T x k)=some d) (hr:d.run=some (p,H')) (g:Operand->PV) (op:Op) (q:PV):sftQ P ks H g op=some q ↔ sftQ P ks H' g op=some q:=by
 simp only[entDT] at h
 split at h
 ·rename_i K E i hu hfx
  split at h
  ·rename_i kk K' E' D z hm hz
   split at h
   ·rename_i hc
    simp only[Bool.and_eq_true,beq_iff_eq] at hc
    obtain ⟨⟨⟨⟨⟨_,rfl⟩,rfl⟩,_⟩,_⟩,_⟩:=hc
    cases h
    cases hr
    have key:∀ (T2:TypeId) (y u:PV),lookQ P ks H T2 y u false=lookQ P ks (H.set i (mapRow kk K E (mins (.val z) D (f k)))) T2 y u false:=fun T2 y u=>by
     unfold lookQ
     split
     ·rename_i K2 E2 j hu2
      rw[mapAt_set hm]
      by_cases hj:j=i
      ·subst hj
       rw[hm,if_pos rfl]
       cases hz2:zeroQ P E2 with
       | none=>rfl
       | some z2 =>
        dsimp only
        by_cases hE:E2=E
        ·subst hE
         rw[hz] at hz2; cases hz2
         rw[mget_mins]; simp
        ·have:(E2==E)=false:=by simpa using hE
         simp[this]
      ·rw[if_neg hj]
     ·rfl
    unfold sftQ
    split
    ·rw[key]
    ·exact Iff.rfl
   ·cases h
  ·cases h
 ·cases h
def Ad.addEnt (E:Ad) (P:Program) (ks:List TypeId):Ad:={ E with
 opr:=fun ro H f op=>match isEnt op with | true=>entDT P ks ro H f op | false=>(match entDT P ks ro H f op with | some d=>some d | none=>E.opr ro H f op)
 sft:=fun H f op=>sftQ P ks H f op }
theorem Ab.addEnt {P:Program} {E:Ad} (hE:Ab P E.env) {ks:List TypeId} (hks:∀ K,K ∈ ks->KeyOK P K):Ab P (E.addEnt P ks).env where
 ent:=hE.ent
 cal:=hE.cal
 ora:=hE.ora
 lo:=fun f fn b h1 h2=>LoH.mono (E:=E.env) (E':=(E.addEnt P ks).env) (fun _ _ _ _ _ _ _ h=>h) (hE.lo f fn b h1 h2)
 inp:=hE.inp
 sft:=fun H f op p h=>sftQ_sound hks h
 sftE:=fun ro H f T x k p H' h=>by
  change (entDT P ks ro H f (.mapEntry T x k)).bind DT.run=some (p,H') at h
  obtain ⟨d,hd,hr⟩:=Option.bind_eq_some_iff.1 h
  exact fun g op q=>sftQ_ent hd hr g op q
 opr:=fun ro H f op p H' h=>by
  change (match isEnt op with | true=>entDT P ks ro H f op | false=>(match entDT P ks ro H f op with | some d=>some d | none=>E.opr ro H f op)).bind DT.run=some (p,H') at h
  split at h
  ·obtain ⟨d,hd,hr⟩:=Option.bind_eq_some_iff.1 h
   exact ⟨ent_sound hks hd hr,ent_rows hd hr⟩
  ·split at h
   ·rename_i d hd
    exact ⟨ent_sound hks hd h,ent_rows hd h⟩
   ·exact hE.opr ro H f op p H' h
def Ad.addSoft (E:Ad) (f:FuncId) (id:Nat):Ad:={ E with soft:=fun g i=>bif g==f&&i==id then true else E.soft g i }
theorem Ab.addSoft {P:Program} {E:Ad} (hE:Ab P E.env) (f:FuncId) (id:Nat):Ab P (E.addSoft f id).env where
 ent:=hE.ent
 cal:=hE.cal
 ora:=hE.ora
 lo:=fun g fn b h1 h2=>LoH.mono (E:=E.env) (E':=(E.addSoft f id).env) (fun _ _ _ _ _ _ _ h=>h) (hE.lo g fn b h1 h2)
 opr:=hE.opr
 inp:=hE.inp
 sft:=hE.sft
 sftE:=hE.sftE
end Go.Hx
/- Hx: operations in place: slices up to a row's end, append over what is there, clear with typed zeros. Sizes and bounds must be known. -/
namespace Go.Hx

def sliceIn (P:Program) (H:List Row) (T:TypeId) (x:PV) (lo hi mx:Option PV):Option PV:=
 match P.underlying T,x,natIx lo,natIx hi,natIx mx with
 | some (.slice e),.sl i n k len,some l,some h,some m =>
  match rowAt H i with
  | some r =>
   if known P e&&(r.es.length==n)&&(r.s==P.cellsOf e) && !r.nl&&(m.isNone||h.isSome)&&decide (0<=l.getD 0/\l.getD 0<=h.getD len/\h.getD len<=m.getD ((n:Int)-k)/\m.getD ((n:Int)-k)=(n:Int)-k) then
    some (if l.getD 0=(n:Int)-k then .Ac false e [] else .sl i n (k+(l.getD 0).toNat) (h.getD len-l.getD 0).toNat)
   else none
  | none=>none
 | _,_,_,_,_=>none
theorem sliceIn_sound {P:Program} {C:Ctx} {T:TypeId} {x p:PV} {X:Value} {lo hi mx:Option PV} {L Hi M:Option Value} (hx:RV P C x X)
  (hl:∀ r,natIx lo=some r->Bd L r) (hh:∀ r,natIx hi=some r->Bd Hi r) (hm:∀ r,natIx mx=some r->Bd M r) (h:sliceIn P C.H T x lo hi mx=some p):
  ∃ e,P.underlying T=some (.slice e)/\∃ v,(Instr.slice T X L Hi M).run P C.w=.ok v C.w/\RV P C p v:=by
 unfold sliceIn at h
 split at h
 ·rename_i e i n k len l h' m hu e1 e2 e3
  split at h
  ·rename_i r hr
   split at h
   ·rename_i hc
    simp only[Bool.and_eq_true,beq_iff_eq,decide_eq_true_eq,Bool.not_eq_true',Bool.or_eq_true] at hc
    obtain ⟨⟨⟨⟨⟨hk,h2⟩,h3⟩,hnl⟩,hmh⟩,g0,g1,g2,g3⟩:=hc
    cases h
    refine ⟨e,hu,?_⟩
    cases hx with
    | sl hV hi' hle hh2 =>
     obtain ⟨q0,a,cap,rfl,q1,q2⟩:=hh2 r hr h2
     unfold SlAt at q2
     rw[if_neg (by simp[hnl])] at q2
     obtain ⟨b,p1,rfl,c,ee,fr,p2,p3,p4⟩:=q2
     rw[h2] at p4
     obtain ⟨c',hb,hc'⟩:∃ c',(Instr.sliceBounds true len cap L Hi M).run P C.w=.ok ((l.getD 0).toNat,(h'.getD len).toNat,c') C.w/\n<=k+c'/\c'<=cap:=by
      cases m with
      | none =>
       have hM:M=none:=by rcases hm _ e3 with ⟨rfl,_⟩ | ⟨_,_,_,hz⟩; rfl; cases hz
       subst hM
       simp only[Option.getD_none] at g2
       exact ⟨cap,run_sliceBounds2 C.w (hl _ e1) (hh _ e2) g0 g1 (by omega),p4,Nat.le_refl _⟩
      | some m =>
       simp only[Option.isNone_some,Bool.false_eq_true,false_or] at hmh
       obtain ⟨h'',rfl⟩:=Option.isSome_iff_exists.1 hmh
       simp only[Option.getD_some] at g1 g2 g3 ⊢
       exact ⟨m.toNat,run_sliceBounds3 C.w (hl _ e1) (hh _ e2) (hm _ e3) g0 g1 g2 (by omega),by omega,by omega⟩
     generalize l.getD 0=lo' at *
     generalize h'.getD len=hi'' at *
     by_cases hend:lo'=(n:Int)-k
     ·rw[if_pos hend]
      refine ⟨.slice _ (hi''.toNat-lo'.toNat) (c'-lo'.toNat),by simp only[Instr.slice,Sem.run_bind,run_underlying hu,Result.andThen_ok,hb,run_sizeOf C.w hk,Sem.run_pure]; rfl,?_⟩
      have e0:hi''.toNat-lo'.toNat=([]:List PV).length:=by simp; omega
      rw[e0]
      exact .Ac 0 0 (fun _ _=>undef) (by simp) (fun hf=>by cases hf) (fun h0=>by simp at h0) (fun x e j p hx=>by simp at hx) (fun x e j p hx=>by simp at hx) (fun e he=>by simp at he)
     ·rw[if_neg hend]
      refine ⟨.slice (some ⟨b,(k+lo'.toNat)*r.s,none⟩) (hi''-lo').toNat (c'-lo'.toNat),?_,.sl ⟨_,_,rfl⟩ hi' hle fun r' hr' hn => ?_⟩
      ·simp only[Instr.slice,Sem.run_bind,run_underlying hu,Result.andThen_ok,hb,run_sizeOf C.w hk,Sem.run_pure]
       rw[if_neg (by omega)]
       simp only[Option.map_some,addr_add,<- h3,<- Nat.add_mul]
       congr 2
       omega
      ·have e':r'=r:=Option.some.inj (hr'.symm.trans hr)
       subst e'
       refine ⟨by omega,_,_,rfl,by omega,?_⟩
       unfold SlAt
       rw[if_neg (by simp[hnl])]
       refine ⟨b,p1,rfl,c,ee,fr,p2,?_,by omega⟩
       refine Nat.le_trans (Nat.mul_le_mul_right _ ?_) p3
       omega
   ·cases h
  ·cases h
 ·cases h

def appIn (P:Program) (ro:Nat) (H:List Row) (c:Call) (x y:PV):Option (PV × List Row):=
 match c.argTypes[0]?,c.argTypes[1]? with
 | some T,some T2 =>
  match P.underlying T,srcT P T T2 H y with
  | some (.slice e),some (ty,t,news) =>
   if known P e&&t==e&&(zeroQ P e).any (fun z=>z.cells.size==P.cellsOf e)&&P.bytesOf e != 0&&(ty||cellishAll news) then
    match x with
    | .sl i n 0 len =>
     match rowAt H i with
     | some r =>
      if decide (ro<=i)&&(r.es.length==n)&&decide (len+news.length<=n)&&r.t==e&&r.s==P.cellsOf e && !r.fz && !r.nl then
       some (.sl i n 0 (len+news.length),H.set i { r with es:=r.es.take len++news++r.es.drop (len+news.length),bv:=r.bv&&ty }) else none
     | none=>none
    | _=>none
   else none
  | _,_=>none
 | _,_=>none
theorem src_one {P:Program} {C:Ctx} {t:TypeId} {ty:Bool} {news:List PV} {Y:Value} {us:List Value} (hS:Src P C (P.cellsOf t) t ty news Y us) (hcell:(ty||cellishAll news)=true):∀ v ∈ us,v.oneCell'=true:=fun v hv=>by
 obtain ⟨j,hj⟩:=List.getElem?_of_mem hv
 have hlt:j<news.length*P.cellsOf t:=by rw[<- hS.len]; exact (List.getElem?_eq_some_iff.1 hj).1
 have hs0:0<P.cellsOf t:=by
  rcases Nat.eq_zero_or_pos (P.cellsOf t) with h0 | h0
  ·rw[h0] at hlt; simp at hlt
  ·exact h0
 have hkk:j / P.cellsOf t<news.length:=(Nat.div_lt_iff_lt_mul hs0).2 hlt
 have he:=List.getElem?_eq_getElem hkk
 have hmem:=List.getElem_mem hkk
 have hmm:j % P.cellsOf t<(news[j / P.cellsOf t]).cells.length:=by rw[hS.el _ hmem]; exact Nat.mod_lt _ hs0
 obtain ⟨v',g1,g2⟩:=hS.rel (j / P.cellsOf t) _ (j % P.cellsOf t) _ he (List.getElem?_eq_getElem hmm)
 have e3:j / P.cellsOf t*P.cellsOf t+j % P.cellsOf t=j:=by
  have:=Nat.div_add_mod j (P.cellsOf t)
  rw[Nat.mul_comm] at this
  omega
 rw[e3,hj] at g1
 cases g1
 refine g2.oneCell ?_
 rcases (Bool.or_eq_true _ _).mp hcell with hty | hca
 ·exact wt_cellish (hS.typed hty _ hmem) _ (List.getElem_mem hmm)
 ·have:=List.all_eq_true.1 hca _ hmem
  exact List.all_eq_true.1 this _ (List.getElem_mem hmm)
theorem appIn_sound {P:Program} {C:Ctx} {c:Call} {x y p:PV} {X Y:Value} {H':List Row} (hR:RH P C) (hx:RV P C x X) (hy:RV P C y Y) (h:appIn P C.ro C.H c x y=some (p,H')) (ty0:TypeId):
  ∃ v C',(Builtin.append_ c.argTypes ty0 #[X,Y]).run P C.w=.ok v C'.w/\Turn P C C' H'/\RV P C' p v:=by
 unfold appIn at h
 split at h
 ·rename_i T T2 hT hT2
  split at h
  ·rename_i e ty t news hu hsrc
   have hu2:=srcT_under hsrc
   split at h
   ·rename_i hc
    simp only[Bool.and_eq_true,beq_iff_eq,bne_iff_ne] at hc
    obtain ⟨⟨⟨⟨hk,rfl⟩,hz⟩,hby⟩,hcell⟩:=hc
    obtain ⟨i,d,hinfo,hd,hsz⟩:=info_of_known hk
    obtain ⟨us,hS⟩:=srcT_sound hR hy hsrc
    split at h
    ·rename_i ii n len
     split at h
     ·rename_i r hr
      split at h
      ·rename_i hc2
       simp only[Bool.and_eq_true,beq_iff_eq,decide_eq_true_eq,Bool.not_eq_true'] at hc2
       obtain ⟨⟨⟨⟨⟨⟨hro,hn⟩,hle5⟩,hrt⟩,hrs⟩,hfz⟩,hnl⟩:=hc2
       cases h
       have hlive:=live_of hr
       cases hx with
       | sl hV hi hle hh =>
        obtain ⟨q0,a,cap,rfl,hcap,hs⟩:=hh r hr hn
        unfold SlAt at hs
        rw[if_neg (by simp[hnl])] at hs
        obtain ⟨b,hb,rfl,c0,e0,fr0,hh1,hh2,hh3⟩:=hs
        rw[hn] at hh3
        have hN:Rel3 P C r.s news us:=by rw[hrs]; exact hS.rel3
        obtain ⟨C',g1,g2⟩:=set_range (ty:=ty) hR hi hro hr hfz hb (k:=len) (by omega) hN (src_one hS hcell) (fun hty e he=>by rw[hrt]; exact hS.typed hty e he)
        have hrun:=run_append_room' (P:=P) (n:=len) (cap:=cap) (m:=news.length) (Y:=Y) (a:=some ⟨b,0*r.s,none⟩) C.w hT hT2 hu hu2 hS.shape hinfo (by omega) ty0
        have hf:=hS.first news.length rfl
        rw[hsz] at hf
        rw[hf] at hrun
        simp only[Result.andThen_ok,addr_add,Nat.zero_mul,Nat.zero_add,<- hsz] at hrun
        rw[<- hrs,g1] at hrun
        simp only[Result.andThen_ok] at hrun
        refine ⟨.slice (some ⟨b,0,none⟩) (len+news.length) cap,C',by rw[Nat.zero_mul]; exact hrun,g2,?_⟩
        generalize hr2:({ r with es:=r.es.take len++news++r.es.drop (len+news.length),bv:=r.bv&&ty }:Row)=r2 at g2
        have hlen2:r2.es.length=n:=by rw[<- hr2]; simp; omega
        have hrow:C'.row? ii=some r2:=by
         show rowAt C'.H ii=some r2
         rw[g2.H,rowAt_set hi (by rw[<- hr2]; exact hlive)]; simp
        refine .sl ⟨_,_,rfl⟩ (by rw[g2.H,List.length_set]; exact hi) (fun r' hr' => ?_) fun r' hr' _ => ?_
        ·have:r'=r2:=Option.some.inj (hr'.symm.trans hrow)
         rw[this,hlen2]; exact Nat.le_refl _
        ·have:r'=r2:=Option.some.inj (hr'.symm.trans hrow)
         subst this
         refine ⟨by omega,_,_,rfl,by omega,?_⟩
         unfold SlAt
         rw[if_neg (by rw[<- hr2]; simp[hnl])]
         obtain ⟨c2,fr2,k1,k2⟩:=g2.ext.shape b c0 e0 fr0 hh1
         obtain ⟨r3,z1,_,_,_,z2⟩:=g2.ext.rows ii r' hi hrow
         have:r3=r:=Option.some.inj (z1.symm.trans hr)
         subst this
         refine ⟨b,(z2 (by rw[hlen2,hn])).2 b hb,by simp,c2,e0,fr2,k1,?_,by rw[hlen2]; omega⟩
         rw[k2,show r'.s=r3.s by rw[<- hr2]]; exact hh2
      ·cases h
     ·cases h
    ·cases h
   ·cases h
  ·cases h
 ·cases h

def zCell:Kind->Value->PV
 | .sl t,.slice none 0 0=>.Ac false t []
 | _,v=>.val v
def zeroE (P:Program) (e:TypeId) (z:Value):PV:=.agg ((List.range z.cells.size).map fun j=>zCell ((kinds P e).getD j .other) (z.cells.getD j undef))
theorem zCell_rv {P:Program} {C:Ctx} (k:Kind) (v:Value):RV P C (zCell k v) v:=by
 unfold zCell
 split
 ·exact .Ac (es:=[]) 0 0 (fun _ _=>undef) (by simp) (fun hf=>by cases hf) (fun h0=>by simp at h0) (fun x e j p hx=>by simp at hx) (fun x e j p hx=>by simp at hx) (fun e he=>by simp at he)
 ·exact .val
theorem zeroE_cells (P:Program) (e:TypeId) (z:Value):(zeroE P e z).cells=(List.range z.cells.size).map fun j=>zCell ((kinds P e).getD j .other) (z.cells.getD j undef):=rfl
theorem zeroE_rel {P:Program} {C:Ctx} {e:TypeId} {z:Value} (hz:z.cells.size=P.cellsOf e) (len:Nat):Rel3 P C (P.cellsOf e) (List.replicate len (zeroE P e z)) (Builtin.zeroCells z.cells len).toList:=by
 refine ⟨by simp[Builtin.zeroCells,hz],fun p hp => ?_,fun k p j q h1 h2 => ?_⟩
 ·have:=List.eq_of_mem_replicate hp; subst this
  rw[zeroE_cells]; simp[hz]
 ·rw[List.getElem?_replicate] at h1
  split at h1
  ·rename_i hk
   cases h1
   rw[zeroE_cells,List.getElem?_map] at h2
   obtain ⟨x,hx,rfl⟩:=Option.map_eq_some_iff.1 h2
   have hj:j<z.cells.size:=by
    have:=(List.getElem?_eq_some_iff.1 hx).1
    simpa using this
   rw[List.getElem?_range hj] at hx
   cases hx
   have hz2:z.cells.getD j undef=z.cells[j]:=by simp[hj]
   refine ⟨z.cells[j],?_,by rw[hz2]; exact zCell_rv _ _⟩
   have hlt:k*P.cellsOf e+j<len*z.cells.size:=by
    have h5:(k+1)*P.cellsOf e<=len*P.cellsOf e:=Nat.mul_le_mul_right _ (by omega)
    rw[Nat.add_mul,Nat.one_mul] at h5
    rw[hz] at hj ⊢
    omega
   unfold Builtin.zeroCells
   rw[Array.getElem?_toList,Array.getElem?_map,<- Array.getElem?_toList,Array.toList_range,List.getElem?_range hlt]
   simp only[Option.map_some,Option.some.injEq,hz]
   rw[Nat.mul_comm,Nat.mul_add_mod,Nat.mod_eq_of_lt (by omega)]
   simp[hj]
  ·cases h1
def clrIn (P:Program) (ro:Nat) (H:List Row) (c:Call) (x:PV):Option (PV × List Row):=
 match c.argTypes[0]? with
 | some T =>
  match P.underlying T with
  | some (.slice e) =>
   match zeroQ P e with
   | some z =>
    match x with
    | .sl i n k (len+1) =>
     match rowAt H i with
     | some r =>
      if decide (ro<=i)&&r.t==e&&clearOk P e z && !r.fz&&(r.es.length==n) && !r.nl then
       some (.val (.tuple #[]),H.set i { r with es:=r.es.take k++List.replicate (len+1) (zeroE P e z)++r.es.drop (k+(len+1)),bv:=r.bv&&wt P e (zeroE P e z) }) else none
     | none=>none
    | _=>none
   | none=>none
  | _=>none
 | none=>none
theorem clrIn_sound {P:Program} {C:Ctx} {c:Call} {x p:PV} {X:Value} {H':List Row} (hR:RH P C) (hx:RV P C x X) (h:clrIn P C.ro C.H c x=some (p,H')) (ty:TypeId):
  ∃ v C',(Builtin.clear_ c.argTypes ty #[X]).run P C.w=.ok v C'.w/\Turn P C C' H'/\RV P C' p v:=by
 unfold clrIn at h
 split at h
 ·rename_i T hT
  split at h
  ·rename_i e hu
   split at h
   ·rename_i z hz
    split at h
    ·rename_i i n k m
     split at h
     ·rename_i r hr
      split at h
      ·rename_i hc
       simp only[Bool.and_eq_true,beq_iff_eq,decide_eq_true_eq,Bool.not_eq_true'] at hc
       obtain ⟨⟨⟨⟨⟨hro,ht⟩,hok⟩,hfz⟩,hn⟩,hnl⟩:=hc
       unfold clearOk at hok
       simp only[Bool.and_eq_true,beq_iff_eq] at hok
       obtain ⟨⟨⟨hkn,hzs⟩,hzc⟩,hzo⟩:=hok
       cases h
       cases hx with
       | sl hV hi hle hh =>
        obtain ⟨hk,a,cap,rfl,hlc,hsl⟩:=hh r hr hn
        unfold SlAt at hsl
        rw[if_neg (by simp[hnl])] at hsl
        obtain ⟨b,hρ,rfl,c0,ee,fr,hheap,hcs⟩:=hsl
        have hB:=hR.blk i b r hρ hr
        have hsz:r.s=P.cellsOf e:=by rw[hB.sz,ht]
        have hrel:=zeroE_rel (P:=P) (C:=C) (e:=e) hzs (m+1)
        rw[<- hsz] at hrel
        obtain ⟨C',g1,g2⟩:=set_range (ty:=wt P e (zeroE P e z)) hR hi hro hr hfz hρ (k:=k) (by rw[List.length_replicate]; omega) hrel (fun v hv=>by
         have hv2:v ∈ z.cells:=by
          unfold Builtin.zeroCells at hv
          simp only[Array.toList_map,List.mem_map,Array.mem_toList_iff,Array.mem_range] at hv
          obtain ⟨y,hy,rfl⟩:=hv
          have:y % z.cells.size<z.cells.size:=Nat.mod_lt _ (by
           rcases Nat.eq_zero_or_pos z.cells.size with h0 | h0
           ·rw[h0] at hy; omega
           ·exact h0)
          rw[getElem!_pos z.cells _ this]
          exact Array.getElem_mem _
         exact RV.oneCell (P:=P) (C:=C) (p:=.val v) .val (List.all_eq_true.1 hzc v (by simpa using hv2))) (fun hty p hp=>by
         have:=List.eq_of_mem_replicate hp; subst this; rw[ht]; exact hty)
        rw[List.length_replicate] at g2
        refine ⟨_,C',?_,g2,.val⟩
        simp only[Builtin.clear_,hT,List.getElem?_toArray,List.getElem?_cons_zero,Sem.run_bind,run_underlying hu,Result.andThen_ok,run_zeroQ hz,g1]
        rfl
      ·cases h
     ·cases h
    ·cases h
   ·cases h
  ·cases h
 ·cases h

def inQ (P:Program) (ro:Nat) (H:List Row) (f:Operand->PV):Op->Option (PV × List Row)
 | .slice t x lo hi mx=>(sliceIn P H t (f x) (lo.map f) (hi.map f) (mx.map f)).map fun p=>(p,H)
 | .call c =>
  match c.callee with
  | .builtin .append=>match c.args.toList with | [x,y]=>appIn P ro H c (f x) (f y) | _=>none
  | .builtin .clear=>match c.args.toList with | [x]=>clrIn P ro H c (f x) | _=>none
  | _=>none
 | _=>none
theorem inQ_sound {P:Program} {ro:Nat} {H:List Row} {f:Operand->PV} {op:Op} {p:PV} {H':List Row} (h:inQ P ro H f op=some (p,H')):OprS P ro H f op p H':=by
 intro C g o ho hro hH hR hv
 subst hro; subst hH
 obtain ⟨dst,op',type,pos,after,guard⟩:=o
 simp only at ho
 subst ho
 cases op' <;> simp only[inQ,reduceCtorEq] at h
 case slice t x lo hi mx =>
  obtain ⟨q,hq,he⟩:=Option.map_eq_some_iff.1 h
  cases he
  have bd:∀ (o:Option Operand),(∀ y ∈ o,RV P C (f y) (g y))->∀ r,natIx (o.map f)=some r->Bd (o.map g) r:=fun o ho r hr =>
   natIx_sound (P:=P) (C:=C) hr (by cases o <;> rfl) (fun p v g1 g2=>by cases o with | none=>cases g1 | some y=>cases g1; cases g2; exact ho y rfl)
  have bl:=bd lo (fun y hy=>hv y (by cases hy; simp[Op.operands]))
  have bh:=bd hi (fun y hy=>hv y (by cases hy; simp[Op.operands]))
  have bm:=bd mx (fun y hy=>hv y (by cases hy; simp[Op.operands]))
  obtain ⟨e,hu,v,h1,h2⟩:=sliceIn_sound (hv x (by simp[Op.operands])) bl bh bm hq
  refine ⟨_,v,C,?_,.inl rfl,⟨rfl,.refl C,hR⟩,h2⟩
  simp only[execOp,Instr.sliceAt,Sem.run_bind,run_underlying hu,Result.andThen_ok,h1,Sem.run_pure]
 case call c =>
  split at h
  ·rename_i hc
   split at h
   ·rename_i x y hargs
    have hca:c.args = #[x,y]:=by apply Array.ext'; simpa using hargs
    obtain ⟨v,C',g1,g2,g3⟩:=appIn_sound hR (hv x (by simp[Op.operands,Call.operands,hc,hca])) (hv y (by simp[Op.operands,Call.operands,hc,hca])) h type
    refine ⟨_,v,C',?_,.inl rfl,g2,g3⟩
    simp only[execOp,resolve,hc,hca,Sem.run_bind,Sem.run_pure,Result.andThen_ok,invoke,builtin,List.map_toArray,List.map_cons,List.map_nil,g1]
   ·cases h
  ·rename_i hc
   split at h
   ·rename_i x hargs
    have hca:c.args = #[x]:=by apply Array.ext'; simpa using hargs
    obtain ⟨v,C',g1,g2,g3⟩:=clrIn_sound hR (hv x (by simp[Op.operands,Call.operands,hc,hca])) h type
    refine ⟨_,v,C',?_,.inl rfl,g2,g3⟩
    simp only[execOp,resolve,hc,hca,Sem.run_bind,Sem.run_pure,Result.andThen_ok,invoke,builtin,List.map_toArray,List.map_cons,List.map_nil,g1]
   ·cases h
  ·cases h
def Ad.addIn (E:Ad) (P:Program):Ad:={ E with inp:=fun ro H f op=>match inQ P ro H f op with | some r=>some r | none=>E.inp ro H f op }
theorem Ab.addIn {P:Program} {E:Ad} (hE:Ab P E.env):Ab P (E.addIn P).env where
 ent:=hE.ent
 cal:=hE.cal
 ora:=hE.ora
 lo:=fun f fn b h1 h2=>LoH.mono (E:=E.env) (E':=(E.addIn P).env) (fun _ _ _ _ _ _ _ h=>h) (hE.lo f fn b h1 h2)
 opr:=hE.opr
 sft:=hE.sft
 sftE:=hE.sftE
 inp:=fun ro H f op p H' h=>by
  change (match inQ P ro H f op with | some r=>some r | none=>E.inp ro H f op)=some (p,H') at h
  split at h
  ·rename_i r hr
   cases h
   exact inQ_sound hr
  ·exact hE.inp ro H f op p H' h
def Ad.addPiv (E:Ad) (f:FuncId) (id j:Nat):Ad:={ E with piv:=fun g i=>bif g==f&&i==id then some j else E.piv g i }
theorem Ab.addPiv {P:Program} {E:Ad} (hE:Ab P E.env) (f:FuncId) (id j:Nat):Ab P (E.addPiv f id j).env where
 ent:=hE.ent
 cal:=hE.cal
 ora:=hE.ora
 lo:=fun g fn b h1 h2=>LoH.mono (E:=E.env) (E':=(E.addPiv f id j).env) (fun _ _ _ _ _ _ _ h=>h) (hE.lo g fn b h1 h2)
 opr:=hE.opr
 inp:=hE.inp
 sft:=hE.sft
 sftE:=hE.sftE
end Go.Hx
/- Hx: loops by contract: states by their shapes, the rounds of a loop. -/
namespace Go.Hx

def DT.map {α β:Type} (g:α->β):DT α->DT β
 | .leaf a=>.leaf (g a)
 | .no=>.no
 | .br b x y=>.br b (x.map g) (y.map g)
theorem DT.run_map {α β:Type} {g:α->β} {r:β}:∀ {d:DT α},(d.map g).run=some r->∃ a,d.run=some a/\g a=r
 | .leaf a,h=>⟨a,rfl,Option.some.inj h⟩
 | .no,h=>by cases h
 | .br b x y,h=>by
  cases b
  ·exact DT.run_map (d:=y) h
  ·exact DT.run_map (d:=x) h
inductive Lf where
 | i (n:Int) | b (b:Bool) | n (n:Nat) | l (f:Bool) (es:List PV) | t (s:ByteArray)
inductive CS where
 | int (k:IntKind) | bool | Ac (t:TypeId) | str
def CS.get:CS->PV->Option Lf
 | .int k,.val (.int k' n)=>if k==k' then some (.i n) else none
 | .bool,.val (.bool v)=>some (.b v)
 | .Ac t,.Ac f t' es=>if t==t' then some (.l f es) else none
 | .str,.val (.string s)=>some (.t s)
 | _,_=>none
def getCs:List CS->List PV->Option (List Lf)
 | [],[]=>some []
 | c::cs,p::ps=>match c.get p,getCs cs ps with | some x,some xs=>some (x::xs) | _,_=>none
 | _,_=>none
inductive Sh where
 | any | cell (c:CS) | agg (cs:List CS) | ptr (i n k j:Nat) | sl (i:Nat) | nil
def Sh.get:Sh->PV->Option (List Lf)
 | .any,.any=>some []
 | .cell c,p=>(c.get p).map fun x=>[x]
 | .agg cs,.agg ps=>getCs cs ps
 | .ptr i n k j,.ptr i' n' k' j'=>if i==i'&&n==n'&&k==k'&&j==j' then some [] else none
 | .sl i,.sl i' n k l=>if i==i'&&k==0 then some [.n n,.n l] else none
 | .nil,.val (.slice none 0 0)=>some []
 | _,_=>none
inductive RS where
 | one (t s:Nat) (h:Sh) | many (t s:Nat) | dead
def rowBase (r:Row) (t s:Nat):Bool:=r.t==t&&r.s==s&&r.bv&&r.live&&r.lp.isNone && !r.fz
def RS.get:RS->Row->Option (List Lf)
 | .one t s h,r=>if rowBase r t s && !r.nl then (match r.es with | [e]=>h.get e | _=>none) else none
 | .many t s,r=>if rowBase r t s then some [.l r.nl r.es] else none
 | .dead,_=>none
theorem rowBase_eq {r:Row} {t s:Nat} (h:rowBase r t s=true):r={ es:=r.es,s,t,bv:=true,nl:=r.nl }:=by
 simp only[rowBase,Bool.and_eq_true,beq_iff_eq,Option.isNone_iff_eq_none,Bool.not_eq_true'] at h
 obtain ⟨⟨⟨⟨⟨h1,h2⟩,h3⟩,h4⟩,h5⟩,h6⟩:=h
 cases r
 simp_all
def getS (shs:List (Nat × Sh)):Nat->Nat->List PV->Option (List Lf)
 | 0,_,[]=>some []
 | n+1,x,p::S =>
  match ((shs.lookup x).getD .any).get p,getS shs n (x+1) S with
  | some a,some b=>some (a++b)
  | _,_=>none
 | _,_,_=>none
def getH:List RS->List Row->Option (List Lf)
 | [],[]=>some []
 | s::ss,r::H=>match s.get r,getH ss H with | some a,some b=>some (a++b) | _,_=>none
 | _,_=>none
structure St where
 n:Nat
 S:List (Nat × Sh)
 H:List RS
def St.get (s:St) (S:List PV) (H:List Row):Option (List Lf × List Lf):=
 match getS s.S s.n 0 S,getH s.H H with | some a,some b=>some (a,b) | _,_=>none
def tm (n:Nat) (l:List (Nat × PV)):List PV:=(List.range n).map fun x=>(l.lookup x).getD .any
abbrev r1 (t s:Nat) (e:PV):Row:={ es:=[e],s,t,bv:=true }
abbrev rN (t s:Nat) (nl:Bool) (es:List PV):Row:={ es,s,t,bv:=true,nl }

def nrmRow (r:Row):Row:=match r.live with | true=>{ r with es:=r.es.map nrm } | false=>r
def nrmH (H:List Row):List Row:=H.map nrmRow
theorem nrm_cells (p:PV):(nrm p).cells=p.cells:=by
 unfold nrm
 split
 ·rfl
 ·rfl
theorem nrmRow_live (r:Row):(nrmRow r).live=r.live:=by unfold nrmRow; split <;> simp_all
theorem nrmRow_shp (r:Row):ShpR r (nrmRow r):=by unfold nrmRow; split <;> simp[ShpR]
theorem RB.nrm {P:Program} {C:Ctx} {b:Nat} {r:Row} (h:RB P C b r):RB P C b (nrmRow r):=by
 unfold nrmRow
 split
 ·obtain ⟨c,fr,cv,m1,m2,m3,m4⟩:=h.mem
  refine ⟨h.sz,⟨c,fr,cv,m1,m2,by simpa using m3,fun k e j p hk hj => ?_⟩,fun e he => ?_,fun hb e he => ?_⟩
  ·simp only[List.getElem?_map,Option.map_eq_some_iff] at hk
   obtain ⟨e0,hk0,rfl⟩:=hk
   rw[nrm_cells] at hj
   exact m4 k e0 j p hk0 hj
  ·simp only[List.mem_map] at he
   obtain ⟨e0,he0,rfl⟩:=he
   rw[nrm_cells]; exact h.len e0 he0
  ·simp only[List.mem_map] at he
   obtain ⟨e0,he0,rfl⟩:=he
   have:=h.typed hb e0 he0
   simp only[wt,nrm_cells] at this ⊢
   exact this
 ·exact h
theorem Ext.shp0 {C C1 C':Ctx} (h:Shp C C1) (hro:C.ro=0) (hx:Ext C1 C'):Ext C C':=by
 have own:∀ b,C1.own b->C.own b:=by
  rintro b ⟨i,hi,hb⟩
  exact ⟨i,by rw[<- h.ro]; exact hi,by rw[<- h.ρ]; exact hb⟩
 have own':∀ b,C.own b->C1.own b:=by
  rintro b ⟨i,hi,hb⟩
  exact ⟨i,by rw[h.ro]; exact hi,by rw[h.ρ]; exact hb⟩
 refine ⟨by rw[hx.os,h.w],by rw[hx.tape,h.w],by rw[hx.output,h.w],by rw[<- h.w]; exact hx.size,fun b hb ho=>by rw[<- h.w] at hb ⊢; exact hx.block b hb fun hh=>ho (own b hh),fun b c e fr hb=>hx.shape b c e fr (by rw[h.w]; exact hb),by rw[<- h.len]; exact hx.len,
  fun i r' hi hr => ?_,fun b hb => ?_,fun b hb => ?_,by rw[hx.fo,h.fo],by rw[hx.ro,h.ro],fun i hi=>(by rw[hro] at hi; cases hi),fun i r info h1 h2 h3 => ?_,fun b rec hb=>hx.loop b rec (by rw[h.w]; exact hb)⟩
 ·obtain ⟨r1,a1,a2,a3,a4,a5⟩:=hx.rows i r' (by rw[h.len]; exact hi) hr
  obtain ⟨r,b1,c1,c2,c3,c4⟩:=h.row i r1 a1
  exact ⟨r,b1,c1.trans a2,c4.trans a3,by omega,fun e=>⟨c3.trans (a5 (by omega)).1,fun b hb=>(a5 (by omega)).2 b (by rw[h.ρ]; exact hb)⟩⟩
 ·rcases hx.fresh b hb with ⟨i,hi⟩ | hs
  ·exact .inl ⟨i,by rw[<- h.ρ]; exact hi⟩
  ·exact .inr (by rw[<- h.w]; exact hs)
 ·rcases hx.freshOwn b hb with ho | hs
  ·exact .inl (own b ho)
  ·exact .inr (by rw[<- h.w]; exact hs)
 ·obtain ⟨g1,g2⟩:=hx.lp i r info (h.lp i r h1 h3) h2 h3
  exact ⟨g1,fun b hb=>g2 b (by rw[h.ρ]; exact hb)⟩
def byShape (s:St) (f:List Lf->List Lf->Option (DT (PX × List PV × List Row))) (ro:Nat) (S:List PV) (H:List Row):Option (DT (PX × List PV × List Row)):=
 match ro with
 | 0=>match s.get S (nrmH H) with | some x=>f x.1 x.2 | none=>none
 | _+1=>none

theorem rounds_of {P:Program} {b:Code} {ro:Nat} {x:PX} {S':List PV} {H':List Row} (hx:x ≠ .normal):∀ (n:Nat) (Sf:Nat->List PV) (Hf:Nat->List Row),(∀ k,k<n->WpTo P b ro (Sf k) (Hf k) .normal (Sf (k+1)) (Hf (k+1)))->WpTo P b ro (Sf n) (Hf n) x S' H' ->
  ∀ (r:Option Nat) (C:Ctx) (a:Act),C.H=Hf 0->C.ro=ro->RH P C->RSl P C (Sf 0) a.tmps->RoundOK r C.w->∀ Q:Exit->Act->World->Prop,
   (∀ (a':Act) (C':Ctx),Dfs C.w a C'.w a'->C'.H=H'->Ext C C'->RH P C'->RSl P C' S' a'.tmps->Q (XOut x) a' C'.w)->Code.roundsIn (Fr r) 0 P b Q (n+1) a C.w
 | 0,Sf,Hf,_,hl=>by
  intro r C a hH hro hR hs hro2 Q hQ
  rw[roundsIn_succ]
  refine hl r C a hH hro hR hs hro2 _ fun a' C' hd hH' hxt hR' hs' => ?_
  have hq:=hQ a' C' hd hH' hxt hR' hs'
  cases x with
  | normal=>exact absurd rfl hx
  | exit id=>exact hq
  | ret=>exact hq
 | n+1,Sf,Hf,h,hl=>by
  intro r C a hH hro hR hs hro2 Q hQ
  rw[roundsIn_succ]
  refine h 0 (by omega) r C a hH hro hR hs hro2 _ fun a' C' hd hH' hxt hR' hs' => ?_
  show Code.roundsIn (Fr r) 0 P b Q (n+1) a' C'.w
  exact rounds_of hx n (fun k=>Sf (k+1)) (fun k=>Hf (k+1)) (fun k hk=>h (k+1) (by omega)) hl r C' a' hH' (by rw[hxt.ro]; exact hro) hR' hs' (hro2.mono hxt) Q fun a2 C2 hd2 hH2 hx2 hR2 hs2=>hQ a2 C2 (hd.trans hxt.size hR' hx2 hd2) hH2 (hxt.trans hx2) hR2 hs2
theorem loop_of {P:Program} {b:Code} {ro:Nat} {x:PX} {S':List PV} {H':List Row} (hx:x ≠ .normal) (n:Nat) (Sf:Nat->List PV) (Hf:Nat->List Row) (h:∀ k,k<n->WpTo P b ro (Sf k) (Hf k) .normal (Sf (k+1)) (Hf (k+1))) (hl:WpTo P b ro (Sf n) (Hf n) x S' H'):
  WpTo P (.loop b) ro (Sf 0) (Hf 0) x S' H':=
 fun r C a hH hro hR hs hro2 Q hQ=>wpIn_loop_rounds (n+1) (rounds_of hx n Sf Hf h hl r C a hH hro hR hs hro2 Q hQ)
theorem loop_go {P:Program} {b:Code} {ro:Nat} {x:PX} {S S1 S':List PV} {H H1 H':List Row} (h:WpTo P b ro S H .normal S1 H1) (k:∃ n,∃ Sf:Nat->List PV,∃ Hf:Nat->List Row,Sf 0=S1/\Hf 0=H1/\(∀ k,k<n->WpTo P b ro (Sf k) (Hf k) .normal (Sf (k+1)) (Hf (k+1)))/\WpTo P b ro (Sf n) (Hf n) x S' H'):
  ∃ n,∃ Sf:Nat->List PV,∃ Hf:Nat->List Row,Sf 0=S/\Hf 0=H/\(∀ k,k<n->WpTo P b ro (Sf k) (Hf k) .normal (Sf (k+1)) (Hf (k+1)))/\WpTo P b ro (Sf n) (Hf n) x S' H':=by
 obtain ⟨n,Sf,Hf,e1,e2,g1,g2⟩:=k
 refine ⟨n+1,fun k=>match k with | 0=>S | k+1=>Sf k,fun k=>match k with | 0=>H | k+1=>Hf k,rfl,rfl,fun k hk => ?_,g2⟩
 match k with
 | 0=>show WpTo P b ro S H .normal (Sf 0) (Hf 0); rw[e1,e2]; exact h
 | k+1=>exact g1 k (by omega)
inductive Rnds (P:Program) (b:Code) (ro:Nat) (x:PX) (S':List PV) (H':List Row):List PV->List Row->Prop
 | stop {S:List PV} {H:List Row} (h:WpTo P b ro S H x S' H'):Rnds P b ro x S' H' S H
 | go {S S1:List PV} {H H1:List Row} (h:WpTo P b ro S H .normal S1 H1) (k:Rnds P b ro x S' H' S1 H1):Rnds P b ro x S' H' S H
theorem Rnds.loop {P:Program} {b:Code} {ro:Nat} {x:PX} {S S':List PV} {H H':List Row} (hx:x ≠ .normal) (h:Rnds P b ro x S' H' S H):WpTo P (.loop b) ro S H x S' H':=by
 have:∃ n,∃ Sf:Nat->List PV,∃ Hf:Nat->List Row,Sf 0=S/\Hf 0=H/\(∀ k,k<n->WpTo P b ro (Sf k) (Hf k) .normal (Sf (k+1)) (Hf (k+1)))/\WpTo P b ro (Sf n) (Hf n) x S' H':=by
  induction h with
  | stop h=>exact ⟨0,fun _=>_,fun _=>_,rfl,rfl,fun k hk=>by omega,h⟩
  | go h _ ih=>exact loop_go h ih
 obtain ⟨n,Sf,Hf,rfl,rfl,g1,g2⟩:=this
 exact loop_of hx n Sf Hf g1 g2

theorem trimF_sound {P:Program} {C:Ctx} (hR:RH P C) {S:List PV} {t:Array Value} {h ro:Nat} (hh:h<=C.H.length) (hs:RSl P C S t):RSl P (C.cut h False ro) (trimS h (frzs C.H h S)) t:=by
 refine ⟨by simp[trimS,frzs_length]; exact hs.1,fun i p v h1 h2 => ?_⟩
 simp only[trimS,List.getElem?_map,Option.map_eq_some_iff] at h1
 obtain ⟨q,hq,rfl⟩:=h1
 rw[frzs_get] at hq
 obtain ⟨q0,hq0,rfl⟩:=Option.map_eq_some_iff.1 hq
 split
 ·rename_i hm; exact (hs.2 i q0 v hq0 h2).frz hR hh hm
 ·exact .any
noncomputable def Al (P:Program) (E:Ad) (n:Nat) (f:FuncId) (b:Code) (l l':List Tmp) (S:List PV) (H:List Row):Option (PX × List PV × List Row):=
 execK P E n 0 f b S H fun x S1 H1 =>
  need (decide (H.length<=H1.length)&&rowsOk H.length (H1.take H.length))
   (match x with
   | .normal=>frzsK H1 H.length (keepS (some l) S1) fun S2=>some (.normal,trimS H.length S2,H1.take H.length)
   | .exit i=>frzsK H1 H.length (keepS (some l') S1) fun S2=>some (.exit i,trimS H.length S2,H1.take H.length)
   | .ret=>frzsK H1 H.length (keepS (some l') S1) fun S2=>some (.ret,trimS H.length S2,H1.take H.length))
theorem runB_sound {P:Program} {E:Ad} (hE:Ab P E.env) {n:Nat} {f:FuncId} {b:Code} {l l':List Tmp} {S S':List PV} {H H':List Row} {x:PX} (hb:SubCode P f b) (h:Al P E n f b l l' S H=some (x,S',H')):WpTo P b 0 S H x S' H':=by
 obtain ⟨x1,S1,H1,h1,h2⟩:=execK_ref n _ _ _ _ _ _ _ h
 obtain ⟨h3,h4⟩:=Ae h2
 simp only[Bool.and_eq_true,decide_eq_true_eq] at h3
 have hw:=exec_ok hE n _ _ _ _ _ _ _ _ h1 hb
 have key:∀ L:List Tmp,S'=trimS H.length (frzs H1 H.length (keepS (some L) S1))->H'=H1.take H.length->WpTo P b 0 S H x1 S' H':=by
  rintro L rfl rfl
  intro r C a hH hro hR hs hro2 Q hQ
  refine hw r C a hH hro hR hs hro2 Q fun a' C' hd hH' hxt hR' hs' => ?_
  subst hH
  subst hH'
  exact hQ a' (C'.cut C.H.length False C'.ro) hd rfl (hxt.cut (Nat.le_refl _) h3.1 hR.ro) (hR'.cut h3.1 (by rw[hxt.ro]; exact hR.ro) h3.2) (trimF_sound hR' h3.1 (keepS_sound (some L) hs'))
 cases x1 with
 | normal=>cases frzsK_some h4; exact key l rfl rfl
 | exit i=>cases frzsK_some h4; exact key l' rfl rfl
 | ret=>cases frzsK_some h4; exact key l' rfl rfl
end Go.Hx
/- Hx: a loop's contract by a model of its rounds: states of a type, what one round does, what all come to. -/
namespace Go.Hx
noncomputable def bod (fn:Func):Code:=fn.body.getD .skip
noncomputable def Ao (fn:Func) (i:Nat):Code:=((loops (bod fn)).filter fun b=>rid b==i).headD .skip
theorem Aq {α:Type} {b:Bool} {a r:α} (h:(DT.br b (.leaf a) .no).run=some r):b=true/\a=r:=by
 cases b
 ·cases h
 ·exact ⟨rfl,Option.some.inj h⟩
abbrev i64:Sh:=.cell (.int .i64)
def nrmIf (b:Bool) (r:Row):Row:=match b with | true=>nrmRow r | false=>r
def nrmA (sel:List Bool) (H:List Row):List Row:=H.zipIdx.map fun x=>nrmIf (sel.getD x.2 false) x.1
theorem nrmA_get (sel:List Bool) (H:List Row) (i:Nat):(nrmA sel H)[i]? = H[i]?.map (nrmIf (sel.getD i false)):=by
 simp only[nrmA,List.getElem?_map,List.getElem?_zipIdx,Nat.zero_add,Option.map_map]
 congr 1
theorem nrmIf_live (b:Bool) (r:Row):(nrmIf b r).live=r.live:=by cases b <;> simp[nrmIf,nrmRow_live]
theorem nrmIf_shp (b:Bool) (r:Row):ShpR r (nrmIf b r):=by
 cases b
 ·exact ⟨rfl,rfl,rfl,rfl⟩
 ·exact nrmRow_shp r
theorem nrmIf_dead {b:Bool} {r:Row} (h:r.live=false):nrmIf b r=r:=by
 cases b
 ·rfl
 ·show nrmRow r=r
  unfold nrmRow; rw[h]
theorem nrmA_row {C:Ctx} (sel:List Bool) (i:Nat):({ C with H:=nrmA sel C.H }:Ctx).row? i=(C.row? i).map (nrmIf (sel.getD i false)):=by
 show rowAt (nrmA sel C.H) i=(rowAt C.H i).map _
 unfold rowAt
 rw[nrmA_get]
 cases C.H[i]? with
 | none=>rfl
 | some r =>
  show (if (nrmIf _ r).live=true then some (nrmIf _ r) else none)=Option.map _ (if r.live=true then some r else none)
  rw[nrmIf_live]
  by_cases hl:r.live=true
  ·rw[if_pos hl,if_pos hl]; rfl
  ·rw[if_neg hl,if_neg hl]; rfl
theorem nrmA_shp (sel:List Bool) (C:Ctx):Shp C { C with H:=nrmA sel C.H }:=by
 refine ⟨rfl,rfl,rfl,rfl,by simp[nrmA],fun i r' hr => ?_,fun i r hr => ?_,fun i r hr hl => ?_,fun i r hr hl => ?_⟩
 ·rw[nrmA_row] at hr
  obtain ⟨r,a,rfl⟩:=Option.map_eq_some_iff.1 hr
  exact ⟨r,a,nrmIf_shp _ r⟩
 ·exact ⟨_,by rw[nrmA_row,hr]; rfl,nrmIf_shp _ r⟩
 ·show (nrmA sel C.H)[i]? = _
  rw[nrmA_get,hr,Option.map_some,nrmIf_dead hl]
 ·have hr':(nrmA sel C.H)[i]? = some r:=hr
  rw[nrmA_get] at hr'
  obtain ⟨q,a,b⟩:=Option.map_eq_some_iff.1 hr'
  have:q.live=false:=by rw[<- nrmIf_live (sel.getD i false),b]; exact hl
  rw[nrmIf_dead this] at b
  rw[a]
  exact congrArg some b
theorem wpTo_nrmA {P:Program} {c:Code} (sel:List Bool) {S S':List PV} {H H':List Row} {x:PX} (h:WpTo P c 0 S (nrmA sel H) x S' H'):WpTo P c 0 S H x S' H':=by
 intro r C a hH hro hR hs hro2 Q hQ
 subst hH
 have hR1:RH P { C with H:=nrmA sel C.H }:=hR.shp (nrmA_shp sel C) fun i b q h1 h2=>by
  rw[nrmA_row] at h2
  obtain ⟨q0,a0,rfl⟩:=Option.map_eq_some_iff.1 h2
  have hB:=hR.blk i b q0 h1 a0
  have hB2:RB P C b (nrmIf (sel.getD i false) q0):=by
   cases sel.getD i false
   ·exact hB
   ·exact hB.nrm
  exact hB2.shp (nrmA_shp sel C)
 exact h r { C with H:=nrmA sel C.H } a rfl hro hR1 (hs.shp (nrmA_shp sel C)) hro2 Q fun a' C' hd hH' hx hR' hs'=>hQ a' C' hd hH' (Ext.shp0 (nrmA_shp sel C) hro hx) hR' hs'

def byModel {σ:Type} (sel:List Bool) (get:List PV->List Row->Option σ) (pre:σ->Bool) (fin:σ->DT (PX × List PV × List Row)):Nat->List PV->List Row->Option (DT (PX × List PV × List Row))
 | 0,S,H=>match get S (nrmA sel H) with | some s=>some (.br (pre s) (fin s) .no) | none=>none
 | _+1,_,_=>none
theorem loopW {P:Program} {E:Ad} (hE:Ab P E.env) {n:Nat} {f:FuncId} {b:Code} (l l':List Tmp) {σ:Type} {sel:List Bool} (emb:σ->List PV × List Row) {get:List PV->List Row->Option σ}
  (hget:∀ S H s,get S H=some s->S=(emb s).1/\H=(emb s).2) {pre:σ->Bool} (m:σ->Nat) {fin:σ->DT (PX × List PV × List Row)}
  (hstep:∀ s r,pre s=true->(fin s).run=some r->r.1 ≠ .normal/\(Al P E n f b l l' (emb s).1 (emb s).2=some r \/
   ∃ s',Al P E n f b l l' (emb s).1 (emb s).2=some (.normal,emb s')/\pre s'=true/\m s'<m s/\(fin s').run=some r)):
  SubCode P f (.loop b)->∀ (ro:Nat) (S:List PV) (H:List Row) (d:DT (PX × List PV × List Row)) (x:PX) (S':List PV) (H':List Row),byModel sel get pre fin ro S H=some d->d.run=some (x,S',H')->WpTo P (.loop b) ro S H x S' H':=by
 intro hsub ro S H d x S' H' hc hd
 cases ro with
 | succ ro=>cases hc
 | zero =>
 change (match get S (nrmA sel H) with | some s=>some (DT.br (pre s) (fin s) DT.no) | none=>none)=some d at hc
 split at hc
 ·rename_i s hs
  obtain rfl:=Option.some.inj hc
  obtain ⟨e1,e2⟩:=hget _ _ _ hs
  have hp:pre s=true/\(fin s).run=some (x,S',H'):=by
   change (match pre s with | true=>(fin s).run | false=>DT.no.run)=_ at hd
   cases hq:pre s with
   | true=>rw[hq] at hd; exact ⟨rfl,hd⟩
   | false=>rw[hq] at hd; cases hd
  obtain ⟨hp,hr⟩:=hp
  clear hc hd hs
  have hbody:=hsub.sub (.loop .here)
  refine wpTo_nrmA sel ?_
  rw[e2,e1]
  clear e1 e2
  have hx:=(hstep s _ hp hr).1
  refine Rnds.loop hx ?_
  generalize hm:m s=k
  induction k using Nat.strongRecOn generalizing s with
  | _ k ih =>
   rcases (hstep s _ hp hr).2 with h1 | ⟨s',h1,h2,h3,h4⟩
   ·exact .stop (runB_sound hE hbody h1)
   ·exact .go (runB_sound hE hbody h1) (ih (m s') (by omega) s' h2 h4 rfl)
 ·cases hc

end Go.Hx
