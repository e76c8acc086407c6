import Derived.Test.YtggmhenfkidjbaaPart3
import Derived.MapKept
import Derived.WideKeyRuns
namespace Go.Hx

inductive DT (α:Type) where
 | leaf (a:α)
 | no
 | br (b:Bool) (x y:DT α)
def DT.run {α:Type}:DT α->Option α
 | .leaf a=>some a
 | .no=>none
 | .br b x y=>bif b then x.run else y.run
def DT.go {α β:Type} (k:α->Option β):DT α->Option β
 | .leaf a=>k a
 | .no=>none
 | .br b x y=>bif b then x.go k else y.go k
theorem DT.Gg {α β:Type} {k:α->Option β} {r:β}:∀ {d:DT α},d.go k=some r->∃ a,d.run=some a/\k a=some r
 | .leaf a,h=>⟨a,rfl,h⟩
 | .no,h=>by cases h
 | .br b x y,h=>by
  cases b
  ·exact DT.Gg (d:=y) h
  ·exact DT.Gg (d:=x) h

structure CO where
 Ff:FuncId->List PV->Option PV:=fun _ _=>none
 live:FuncId->Nat->Option (List Tmp):=fun _ _=>none
 lo:FuncId->Nat->Nat->List PV->List Row->Option (DT (PX × List PV × List Row)):=fun _ _ _ _ _=>none
 JU:FuncId->Bool:=fun _=>false
 Gq:Nat->FuncId->List PV->List Row->Option (DT (PV × List Row)):=fun _ _ _ _=>none
 Ke:FuncId->Nat->List (Tmp × TypeId × Nat):=fun _ _=>[]
 pure:FuncId->Bool:=fun _=>false
 orD:FuncId->List PV->Option (DT PV):=fun _ _=>none
 drop:FuncId->Nat->Option (Nat × Bool):=fun _ _=>none
 fgt:FuncId->Nat->List Nat:=fun _ _=>[]
 EP:Nat->List Row->(Operand->PV)->Op->Option (DT (PV × List Row)):=fun _ _ _ _=>none
 chain:FuncId->Nat->Bool:=fun _ _=>false
 Ec:Nat->List Row->(Operand->PV)->Op->Option (DT (PV × List Row)):=fun _ _ _ _=>none
 piv:FuncId->Nat->Option Nat:=fun _ _=>none
 soft:FuncId->Nat->Bool:=fun _ _=>false
 F9:List Row->(Operand->PV)->Op->Option PV:=fun _ _ _=>none
def CO.env (E:CO):Env where
 Ff f a:=match E.orD f a with | some d=>d.run | none=>E.Ff f a
 live:=E.live
 lo f ro i S H:=(E.lo f ro i S H).bind DT.run
 JU:=E.JU
 Gq ro k args H:=(E.Gq ro k args H).bind DT.run
 Ke:=E.Ke
 pure:=E.pure
 drop:=E.drop
 fgt:=E.fgt
 EP ro H f op:=(E.EP ro H f op).bind DT.run
 chain:=E.chain
 Ec ro H f op:=(E.Ec ro H f op).bind DT.run
 piv:=E.piv
 soft:=E.soft
 F9:=E.F9

section
variable {α:Type}
def Ds (c:Bool) (k:Option α):Option α:=bif c then k else none
theorem CP {c:Bool} {k:Option α} {r:α} (h:Ds c k=some r):c=true/\k=some r:=by
 cases c
 ·cases h
 ·exact⟨rfl,h⟩
def dflt {β:Type} (o:Option β) (k:β->Option α):Option α:=match o with | some p=>k p | none=>none
theorem Fu {β:Type} {o:Option β} {k:β->Option α} {r:α} (h:dflt o k=some r):∃ p,o=some p/\k p=some r:=by
 cases o with
 | none=>cases h
 | some p=>exact⟨p,rfl,h⟩

def binK (P:Program) (op:BinOp) (T:TypeId) (x0 y0:Operand) (x y:PV) (k:PV->Option α):Option α:=
 match x,y with
 | .val (.int ka a),.val (.int kb b) =>
  match op with
  | .quo=>Ds (ka==kb && !decide (b=0)) (k (.val (.int ka (ka.wrap (a.tdiv b)))))
  | .rem=>Ds (ka==kb && !decide (b=0)) (k (.val (.int ka (a.tmod b))))
  | .shl=>Ds (!decide (b<0)) (k (.val (.int ka (ka.wrap (a*2 ^ min b.toNat ka.bits)))))
  | .shr=>Ds (!decide (b<0)) (k (.val (.int ka (a.fdiv (2 ^ min b.toNat ka.bits)))))
  | op=>dflt (Mn P op T x0 y0 (.val (.int ka a)) (.val (.int kb b))) k
 | .val (.string a),.val (.string b) =>
  match op with
  | .add=>Ds (!decide (((a.size+b.size:Nat):Int) > IntKind.i64.max)) (k (.val (.string (a++b))))
  | op=>dflt (strV op a b) k
 | .CQ _ _ es,.val (.slice none 0 0) =>
  match P.underlying T,op with
  | some (.slice _),.eql=>Ds (decide (0<es.length)) (k (.val (.bool false)))
  | some (.slice _),.neq=>Ds (decide (0<es.length)) (k (.val (.bool true)))
  | _,_=>none
 | x,y=>dflt (Mn P op T x0 y0 x y) k
theorem binK_some {P:Program} {op:BinOp} {T:TypeId} {x0 y0:Operand} {x y:PV} {k:PV->Option α} {r:α} (h:binK P op T x0 y0 x y k=some r):∃ p,Mn P op T x0 y0 x y=some p/\k p=some r:=by
 unfold binK at h;split at h
 ·rename_i ka a kb b;split at h
  ·obtain⟨h1,h2⟩:=CP h;simp only[Aa,Aw,Al,AP] at h1;exact⟨_,by simp[Mn,h1.1,intV,h1.2],h2⟩
  ·obtain⟨h1,h2⟩:=CP h;simp only[Aa,Aw,Al,AP] at h1;exact⟨_,by simp[Mn,h1.1,intV,h1.2],h2⟩
  ·obtain⟨h1,h2⟩:=CP h;simp only[Al,AP] at h1;exact⟨_,by simp only[Mn];rw[An h1],h2⟩
  ·obtain⟨h1,h2⟩:=CP h;simp only[Al,AP] at h1;exact⟨_,by simp only[Mn];rw[An h1],h2⟩
  ·exact Fu h
 ·rename_i a b;split at h
  ·obtain⟨h1,h2⟩:=CP h;simp only[Al,AP] at h1;exact⟨_,by simp only[Mn,strV];rw[An h1],h2⟩
  ·obtain⟨p,h1,h2⟩:=Fu h;exact⟨p,by simpa [Mn] using h1,h2⟩
 ·split at h
  ·rename_i hu;obtain⟨h1,h2⟩:=CP h;exact⟨_,by simp only[Mn,hu];rw[Ai (AS h1)],h2⟩
  ·rename_i hu;obtain⟨h1,h2⟩:=CP h;exact⟨_,by simp only[Mn,hu];rw[Ai (AS h1)],h2⟩
  ·cases h
 ·exact Fu h

def binHK0 (P:Program) (H:List Row) (op:BinOp) (T:TypeId) (x0 y0:Operand) (x y:PV) (k:PV->Option α):Option α:=
 match x,y with
 | .sl i n _ _,.val (.slice none 0 0) =>
  match rowAt H i,P.underlying T,op with
  | some r,some (.slice _),.eql=>Ds (r.es.length==n) (bif r.nl then k (.val (.bool true)) else k (.val (.bool false)))
  | some r,some (.slice _),.neq=>Ds (r.es.length==n) (bif r.nl then k (.val (.bool false)) else k (.val (.bool true)))
  | _,_,_=>none
 | x,y=>binK P op T x0 y0 x y k
theorem binHK0_some {P:Program} {H:List Row} {op:BinOp} {T:TypeId} {x0 y0:Operand} {x y:PV} {k:PV->Option α} {r:α} (h:binHK0 P H op T x0 y0 x y k=some r):∃ p,binH0 P H op T x0 y0 x y=some p/\k p=some r:=by
 unfold binHK0 at h;split at h
 ·split at h
  ·rename_i r0 _ hr hu;obtain⟨h1,h2⟩:=CP h;refine⟨.val (.bool r0.nl),by simp only[binH0,hr,hu];rw[Ai (by simpa using h1)],?_⟩;cases hn:r0.nl <;> rw[hn] at h2 <;> exact h2
  ·rename_i r0 _ hr hu;obtain⟨h1,h2⟩:=CP h;refine⟨.val (.bool !r0.nl),by simp only[binH0,hr,hu];rw[Ai (by simpa using h1)],?_⟩;cases hn:r0.nl <;> rw[hn] at h2 <;> exact h2
  ·cases h
 ·rename_i hne;obtain⟨p,h1,h2⟩:=binK_some h;refine⟨p,?_,h2⟩;unfold binH0;split
  ·exact absurd rfl (hne _ _ _ _ rfl)
  ·exact h1
def binHK (P:Program) (H:List Row) (op:BinOp) (T:TypeId) (x0 y0:Operand) (x y:PV) (k:PV->Option α):Option α:=
 match ptrV P H op T x y with
 | some p=>k p
 | none=>binHK0 P H op T x0 y0 x y k
theorem binHK_some {P:Program} {H:List Row} {op:BinOp} {T:TypeId} {x0 y0:Operand} {x y:PV} {k:PV->Option α} {r:α} (h:binHK P H op T x0 y0 x y k=some r):∃ p,binH P H op T x0 y0 x y=some p/\k p=some r:=by
 unfold binHK at h;split at h
 ·rename_i q hq;exact⟨q,by unfold binH;rw[hq],h⟩
 ·rename_i hnone;obtain⟨p,h1,h2⟩:=binHK0_some h;exact⟨p,by unfold binH;rw[hnone];exact h1,h2⟩

def grabK (P:Program) (t:TypeId) (bv:Bool) (s:Nat) (e:PV) (T:TypeId) (j:Nat) (k:PV->Option α):Option α:=
 match known P T with
 | true =>
  match CX P T with
  | true=>Ds (decide (j+P.cellsOf T<=s)) (bif bv then k (.agg ((List.range (P.cellsOf T)).map fun x=>pick P t true e (j+x))) else k (.agg ((List.range (P.cellsOf T)).map fun x=>pick P t false e (j+x))))
  | false=>Ds (decide (j<s)) (bif bv then k (pick P t true e j) else k (pick P t false e j))
 | false=>none
theorem grabK_some {P:Program} {t:TypeId} {bv:Bool} {s:Nat} {e:PV} {T:TypeId} {j:Nat} {k:PV->Option α} {r:α} (h:grabK P t bv s e T j k=some r):∃ p,grab P t bv s e T j=some p/\k p=some r:=by
 unfold grabK at h;unfold grab;split at h
 ·rename_i hk;rw[Ai hk];split at h
  ·rename_i ha;obtain⟨h1,h2⟩:=CP h;rw[Ai ha,Ai (by simpa using h1)];cases bv <;> exact⟨_,rfl,h2⟩
  ·rename_i ha;obtain⟨h1,h2⟩:=CP h;rw[An (by simp[ha]),Ai (by simpa using h1)];cases bv <;> exact⟨_,rfl,h2⟩
 ·cases h

def loadK (P:Program) (H:List Row) (T:TypeId) (x:PV) (k:PV->Option α):Option α:=
 match x with
 | .ptr i n m j =>
  match rowAt H i with
  | some r=>Ds (r.es.length==n) (grabK P r.t r.bv r.s (r.es.getD m .any) T j k)
  | none=>none
 | .Ee t e j=>grabK P t true (P.cellsOf t) e T j k
 | .val v=>dflt (loadG P T v) k
 | _=>none
theorem loadK_some {P:Program} {H:List Row} {T:TypeId} {x:PV} {k:PV->Option α} {r:α} (h:loadK P H T x k=some r):∃ p,loadQ P H T x=some p/\k p=some r:=by
 unfold loadK at h;split at h
 ·split at h
  ·rename_i hr;obtain⟨h1,h2⟩:=CP h;obtain⟨p,h3,h4⟩:=grabK_some h2;exact⟨p,by simp only[loadQ,hr];rw[Ai (by simpa using h1)];exact h3,h4⟩
  ·cases h
 ·exact grabK_some h
 ·exact Fu h
 ·cases h

def LQ (P:Program) (H:List Row) (T:TypeId) (i:Nat) (x:PV) (k:PV->Option α):Option α:=
 match P.underlying T with
 | some (.struct fs) =>
  match fs[i]? with
  | some fd=>Ds (known P fd.type&&P.cellsOf fd.type != 0&&Ig H x) (k (addOff fd.offset x))
  | none=>none
 | _=>none
theorem fieldAddrK_some {P:Program} {H:List Row} {T:TypeId} {i:Nat} {x:PV} {k:PV->Option α} {r:α} (h:LQ P H T i x k=some r):∃ p,HF P H T i x=some p/\k p=some r:=by
 unfold LQ at h;split at h
 ·rename_i fs hu;split at h
  ·rename_i fd hf;obtain⟨h1,h2⟩:=CP h;exact⟨_,by simp only[HF,hu,hf];rw[Ai h1],h2⟩
  ·cases h
 ·cases h

def ofK (n:Nat) (z:Int) (k:Nat->Option α):Option α:=
 match n with
 | 0=>none
 | m+1=>bif decide (z=(m:Int)) then k m else ofK m z k
theorem ofK_some {z:Int} {k:Nat->Option α} {r:α}:∀ {n:Nat},ofK n z k=some r->∃ m,m<n/\z=(m:Int)/\k m=some r
 | 0,h=>by cases h
 | n+1,h=>by
  unfold ofK at h;cases hd:decide (z=(n:Int)) with
  | true=>rw[hd] at h;exact⟨n,by omega,by simpa using hd,h⟩
  | false=>rw[hd] at h;obtain⟨m,h1,h2,h3⟩:=ofK_some (n:=n) h;exact⟨m,by omega,h2,h3⟩

def LR (P:Program) (H:List Row) (T:TypeId) (x ix:PV) (k:PV->Option α):Option α:=
 match ixOf ix,P.underlying T with
 | some z,some (.array len e)=>Ds (known P e&&Ig H x) (ofK len z fun m=>k (addOff (m*P.cellsOf e) x))
 | some z,some (.slice e) =>
  match x with
  | .sl i n m len =>
   match rowAt H i with
   | some r=>Ds (known P e&&r.es.length==n&&r.s==P.cellsOf e) (Ds (decide (0<=z)&&decide (z<len)) (k (.ptr i n (m+z.toNat) 0)))
   | none=>none
  | .CQ _ t es=>Ds (known P e&&t==e) (Ds (decide (0<=z)&&decide (z<es.length)) (k (.Ee t (es.getD z.toNat .any) 0)))
  | _=>none
 | _,_=>none
theorem indexAddrK_some {P:Program} {H:List Row} {T:TypeId} {x ix:PV} {k:PV->Option α} {r:α} (h:LR P H T x ix k=some r):∃ p,HG P H T x ix=some p/\k p=some r:=by
 unfold LR at h;unfold HG;split at h
 ·rename_i z len e hz hu;obtain⟨h1,h2⟩:=CP h;obtain⟨m,g1,rfl,g3⟩:=ofK_some h2;refine⟨_,?_,g3⟩;simp only[hz,hu];rw[Ai h1,Ai ⟨by omega,by omega⟩];simp
 ·rename_i z e hz hu;simp only[hz,hu];split at h
  ·split at h
   ·rename_i hr;obtain⟨h1,h2⟩:=CP h;obtain⟨h3,h4⟩:=CP h2;simp only[Aa,Ab] at h3;simp only[hr];exact⟨_,by rw[Ai h1,Ai h3],h4⟩
   ·cases h
  ·obtain⟨h1,h2⟩:=CP h;obtain⟨h3,h4⟩:=CP h2;simp only[Aa,Ab] at h3;exact⟨_,by dsimp only;rw[Ai h1,Ai h3],h4⟩
  ·cases h
 ·cases h

def indexK (P:Program) (T:TypeId) (x ix:PV) (k:PV->Option α):Option α:=
 match ixOf ix,P.underlying T with
 | some z,some (.array len e)=>Ds (x.isAgg&&known P e) (ofK len z fun m=>dflt (partQ P e x.cells (m*P.cellsOf e)) k)
 | some z,some .string =>
  match x with
  | .val (.string s)=>Ds (decide (0<=z)&&decide (z<s.size)) (k (.val (.int .u8 (s.data.getD z.toNat 0).toNat)))
  | _=>none
 | _,_=>none
theorem indexK_some {P:Program} {T:TypeId} {x ix:PV} {k:PV->Option α} {r:α} (h:indexK P T x ix k=some r):∃ p,indexQ P T x ix=some p/\k p=some r:=by
 unfold indexK at h;unfold indexQ;split at h
 ·rename_i z len e hz hu;obtain⟨h1,h2⟩:=CP h;obtain⟨m,g1,rfl,g3⟩:=ofK_some h2;obtain⟨p,h3,h4⟩:=Fu g3;refine⟨p,?_,h4⟩;simp only[hz,hu];rw[Ai h1,Ai ⟨by omega,by omega⟩];simpa using h3
 ·rename_i z hz hu;simp only[hz,hu];split at h
  ·obtain⟨h3,h4⟩:=CP h;simp only[Aa,Ab] at h3;exact⟨_,by simp only[];rw[Ai h3],h4⟩
  ·cases h
 ·cases h

def sliceK (P:Program) (H:List Row) (T:TypeId) (x:PV) (lo hi mx:Option PV) (k:PV->Option α):Option α:=
 match P.underlying T,x,E4 lo,E4 hi,E4 mx with
 | some .string,.val (.string s),some l,some h,some none =>
  Ds (decide (0<=l.getD 0)&&decide (l.getD 0<=h.getD s.size)&&decide (h.getD s.size<=s.size)) (k (.val (.string (s.extract (l.getD 0).toNat (h.getD s.size).toNat))))
 | some (.slice e),.CQ full t es,some l,some h,some none =>
  Ds (known P e&&t==e) (Ds (decide (0<=l.getD 0)&&decide (l.getD 0<=h.getD es.length)&&decide (h.getD es.length<=es.length))
   (k (.CQ (full&&h.isNone) t ((es.take (h.getD es.length).toNat).drop (l.getD 0).toNat))))
 | some (.slice e),.CQ _ t es,some l,some (some h),some (some m) =>
  Ds (known P e&&t==e) (Ds (decide (0<=l.getD 0)&&decide (l.getD 0<=h)&&decide (h<=m)&&decide (m<=es.length))
   (k (.CQ (h==m) t ((es.take h.toNat).drop (l.getD 0).toNat))))
 | some (.slice e),.sl i n m len,some none,some h,some none =>
  match rowAt H i with
  | some r=>Ds (known P e&&r.es.length==n&&r.s==P.cellsOf e) (Ds (decide (0<=h.getD len)&&decide (h.getD len<=len)) (k (.sl i n m (h.getD len).toNat)))
  | none=>none
 | some (.slice e),.sl i n m len,some (some l),some h,some none =>
  match rowAt H i with
  | some r=>Ds (known P e&&r.es.length==n&&r.s==P.cellsOf e)
    (bif decide (0<=l)&&decide (l<len)&&decide (l<=h.getD len)&&decide (h.getD len<=len) then k (.sl i n (m+l.toNat) (h.getD len-l).toNat) else Ds (decide (l=len)&&decide (h.getD len=len)) (k (.CQ false e [])))
  | none=>none
 | _,_,_,_,_=>none
theorem sliceK_some {P:Program} {H:List Row} {T:TypeId} {x:PV} {lo hi mx:Option PV} {k:PV->Option α} {r:α} (h:sliceK P H T x lo hi mx k=some r):∃ p,HI P H T x lo hi mx=some p/\k p=some r:=by
 unfold sliceK at h;split at h
 ·rename_i h1 h2 h3 h4;obtain⟨g1,g2⟩:=CP h;simp only[Aa,Ab] at g1;exact⟨_,by simp only[HI,h1,h2,h3,h4];rw[Ai ⟨g1.1.1,g1.1.2,g1.2⟩],g2⟩
 ·rename_i h1 h2 h3 h4;obtain⟨g0,g⟩:=CP h;obtain⟨g1,g2⟩:=CP g;simp only[Aa,Ab] at g1;exact⟨_,by simp only[HI,h1,h2,h3,h4];rw[Ai g0,Ai ⟨g1.1.1,g1.1.2,g1.2⟩],g2⟩
 ·rename_i h1 h2 h3 h4;obtain⟨g0,g⟩:=CP h;obtain⟨g1,g2⟩:=CP g;simp only[Aa,Ab] at g1;exact⟨_,by simp only[HI,h1,h2,h3,h4];rw[Ai g0,Ai ⟨g1.1.1.1,g1.1.1.2,g1.1.2,g1.2⟩],g2⟩
 ·rename_i h1 h2 h3 h4;split at h
  ·rename_i hr;obtain⟨g0,g⟩:=CP h;obtain⟨g1,g2⟩:=CP g;simp only[Aa,Ab] at g1;exact⟨_,by simp only[HI,h1,h2,h3,h4,hr];rw[Ai g0,Ai ⟨g1.1,g1.2⟩],g2⟩
  ·cases h
 ·rename_i h1 h2 h3 h4;split at h
  ·rename_i hr;obtain⟨g0,g⟩:=CP h;cases hc:_&&_ with
   | true =>
    rw[hc,Am] at g;simp only[Aa,Ab] at hc;exact⟨_,by simp only[HI,h1,h2,h3,h4,hr];rw[Ai g0,Ai ⟨hc.1.1.1,hc.1.1.2,hc.1.2,hc.2⟩],g⟩
   | false =>
    rw[hc,At] at g;obtain⟨g1,g2⟩:=CP g;simp only[Aa,Ab] at g1;exact⟨_,by simp only[HI,h1,h2,h3,h4,hr];rw[Ai g0,An (by rintro⟨a,b,c,d⟩;rw[Ac a,Ac b,Ac c,Ac d] at hc;cases hc),Ai ⟨g1.1,g1.2⟩],g2⟩
  ·cases h
 ·cases h

def convHK (P:Program) (H:List Row) (src dst:TypeId) (x:PV) (k:PV->Option α) (other:Option α):Option α:=
 match x with
 | .sl i n m len =>
  match rowAt H i,P.underlying src,P.underlying dst with
  | some r,some (.slice e),some .string=>Ds (Ln P e&&r.t==e&&(r.es.length==n)&&r.bv) (k (.val (.string (strB ((r.es.drop m).take len)))))
  | _,_,_=>none
 | x=>match convH P H src dst x with | some p=>k p | none=>other
theorem convHK_some {P:Program} {H:List Row} {src dst:TypeId} {x:PV} {k:PV->Option α} {other:Option α} {r:α} (h:convHK P H src dst x k other=some r):
  (∃ p,convH P H src dst x=some p/\k p=some r)\/(convH P H src dst x=none/\other=some r):=by
 unfold convHK at h;split at h
 ·split at h
  ·rename_i hr hs hd;obtain⟨h1,h2⟩:=CP h;exact .inl ⟨_,by simp only[convH,hr,hs,hd];rw[Ai h1],h2⟩
  ·cases h
 ·split at h
  ·rename_i hp;exact .inl ⟨_,hp,h⟩
  ·rename_i hp;exact .inr ⟨hp,h⟩
def sdK (H:List Row) (x:PV) (k:PV->Option α):Option α:=
 match x with
 | .val (.slice none 0 0)=>k (.val (.pointer none))
 | .sl i n m len =>
  match rowAt H i with
  | some r=>bif r.nl then Ds (r.es.length==n) (k (.val (.pointer none))) else Ds ((r.es.length==n)&&decide (0<len)) (k (.ptr i n m 0))
  | none=>none
 | _=>none
theorem sdK_some {H:List Row} {x:PV} {k:PV->Option α} {r:α} (h:sdK H x k=some r):∃ p,sdQ H x=some p/\k p=some r:=by
 unfold sdK at h;split at h
 ·exact⟨_,rfl,h⟩
 ·split at h
  ·rename_i r0 hr;cases hn:r0.nl with
   | true =>
    rw[hn] at h;obtain⟨h1,h2⟩:=CP h;exact⟨_,by simp only[sdQ,hr,hn];rw[Ai (by simpa using h1)],h2⟩
   | false =>
    rw[hn] at h;obtain⟨h1,h2⟩:=CP h;exact⟨_,by simp only[sdQ,hr,hn];rw[Ai (by simpa using h1)],h2⟩
  ·cases h
 ·cases h
def isSqrt (P:Program) (k:FuncId):Bool:=
 match P.funcs[k]? with
 | some fn=>(match fn.body with | some _=>false | none=>fn.name == "math.sqrt" && !(Extern.findNext fn).isSome)
 | none=>false
theorem isSqrt_some {P:Program} {k:FuncId} (h:isSqrt P k=true) {x y:Nat} (hy:FloatKind.f64.format.sqrt x=some y):noEscQ P k [.val (.float .f64 x)]=none/\Mq P k [.val (.float .f64 x)]=some (.val (.float .f64 y)):=by
 unfold isSqrt at h;split at h
 ·rename_i fn hf;split at h
  ·cases h
  ·rename_i hb;simp only[Aa,Aw,Al] at h;have h0:(fn.name == "internal/abi.NoEscape")=false:=by rw[h.1];decide
   refine⟨by unfold noEscQ;simp only[hf,hb,h0],?_⟩;unfold Mq;simp only[hf,hb,h.1,h.2];rw[An (by decide),An (by decide)];unfold extQ;rw[Ai rfl];simp only[hy,AH]
 ·cases h
def popK (P:Program) (H:List Row) (f:Operand->PV) (op:Op) (k:PV->Option α) (other:Option α):Option α:=
 match op with
 | .load t a=>loadK P H t (f a) k
 | .nilCheck x=>Ds (okNil H (f x)) (k (f x))
 | .binOp op t x y _=>binHK P H op t x y (f x) (f y) k
 | .slice t x lo hi mx=>match P.underlying t with | some (.array n e)=>(match arrQ P n e (f x) (lo.map f) (hi.map f) (mx.map f) with | some p=>k p | none=>none) | _=>sliceK P H t (f x) (lo.map f) (hi.map f) (mx.map f) k
 | .fieldAddr t x i=>LQ P H t i (f x) k
 | .indexAddr t x ix=>LR P H t (f x) (f ix) k
 | .index t x ix=>indexK P t (f x) (f ix) k
 | .convert s d x=>match convP P H s d (f x) with | some p=>k p | none=>convHK P H s d (f x) k other
 | .call ⟨.builtin .unsafeSliceData,ags,_⟩=>match ags.toList with | [x]=>sdK H (f x) k | _=>none
 | .call ⟨.value g,ags,tys⟩=>match f g,ags.toList.map f with
  | .fn (.func fk) [] [],[.val (.float .f64 x)]=>(match isSqrt P fk with
   | true=>Ds (FloatKind.f64.format.sqrt x).isSome (k (.val (.float .f64 ((FloatKind.f64.format.sqrt x).getD 0))))
   | false=>match Gw P H f (.call ⟨.value g,ags,tys⟩) with | some p=>k p | none=>other)
  | _,_=>match Gw P H f (.call ⟨.value g,ags,tys⟩) with | some p=>k p | none=>other
 | op=>match Gw P H f op with | some p=>k p | none=>other
theorem KT {P:Program} {H:List Row} {f:Operand->PV} {op:Op} {k:PV->Option α} {other:Option α} {r:α} (h:popK P H f op k other=some r):
  (∃ p,Gw P H f op=some p/\k p=some r)\/(Gw P H f op=none/\other=some r):=by
 unfold popK at h;split at h
 ·exact .inl (loadK_some h)
 ·obtain⟨h1,h2⟩:=CP h;exact .inl ⟨_,by simp[Gw,h1],h2⟩
 ·exact .inl (binHK_some h)
 ·split at h
  ·rename_i hu;split at h
   ·rename_i p hp;exact .inl ⟨p,by simp only[Gw,hu];exact hp,h⟩
   ·cases h
  ·rename_i hu;obtain⟨p,h1,h2⟩:=sliceK_some h;refine .inl ⟨p,?_,h2⟩;simp only[Gw];exact h1
 ·exact .inl (fieldAddrK_some h)
 ·exact .inl (indexAddrK_some h)
 ·exact .inl (indexK_some h)
 ·split at h
  ·rename_i p hp;exact .inl ⟨p,by simp only[Gw,hp],h⟩
  ·rename_i hp;have:=convHK_some h;simpa only[Gw,hp] using this
 ·split at h
  ·rename_i x hx;obtain⟨p,h1,h2⟩:=sdK_some h;exact .inl ⟨p,by simp only[Gw,callQ,hx];exact h1,h2⟩
  ·cases h
 ·rename_i g ags tys;have gen:(match Gw P H f (.call ⟨.value g,ags,tys⟩) with | some p=>k p | none=>other)=some r->(∃ p,Gw P H f (.call ⟨.value g,ags,tys⟩)=some p/\k p=some r)\/(Gw P H f (.call ⟨.value g,ags,tys⟩)=none/\other=some r):=fun h=>by
   split at h
   ·rename_i hp;exact .inl ⟨_,hp,h⟩
   ·rename_i hp;exact .inr ⟨hp,h⟩
  split at h
  ·rename_i fk x hg ha;split at h
   ·rename_i hq;obtain⟨h1,h2⟩:=CP h;obtain⟨y,hy⟩:=B4.1 h1;rw[hy] at h2;refine .inl ⟨_,?_,h2⟩;obtain⟨q1,q2⟩:=isSqrt_some hq hy;simp only[Gw,callQ,hg,ha,q1,q2,Bw]
   ·exact gen h
  ·exact gen h
 ·split at h
  ·rename_i hp;exact .inl ⟨_,hp,h⟩
  ·rename_i hp;exact .inr ⟨hp,h⟩

def rowK (r:Row) (k:Row->Option α):Option α:=bif r.bv then k { r with bv:=true } else k { r with bv:=false }
theorem Hp (r:Row) (k:Row->Option α):rowK r k=k r:=by
 unfold rowK;cases r with | mk es s t bv live nl lp=>cases bv <;> rfl

def repK (P:Program) (e:TypeId) (z:Value) (n:Nat) (k:Row->Option α):Option α:=
 match wt P e (.val z) with
 | true=>k { es:=List.replicate n (.val z),s:=P.cellsOf e,t:=e,bv:=true }
 | false=>rowK (Dz P e (List.replicate n (.val z))) k
theorem repK_eq (P:Program) (e:TypeId) (z:Value) (n:Nat) (k:Row->Option α):repK P e z n k=k (Dz P e (List.replicate n (.val z))):=by
 unfold repK;split
 ·rename_i h;have:(List.replicate n (PV.val z)).all (wt P e)=true:=by
   rw[Ap];intro x hx;rw[(List.mem_replicate.1 hx).2];exact h
  unfold Dz;rw[this]
 ·exact Hp _ _

def newK (P:Program) (H:List Row) (f:Operand->PV) (op:Op) (k:PV->Row->Option α) (other:Option α):Option α:=
 match op with
 | .box T x=>Ds (okc (f x)&&(f x).cells.length==P.cellsOf T) (rowK (Dz P T [f x]) fun r=>k (.ptr H.length 1 0 0) r)
 | .makeSlice T l c =>
  match P.underlying T,f l,f c with
  | some (.slice e),.val (.int _ n),.val (.int _ m) =>
   match EL P e with
   | some z =>
    Ds (okc (.val z)&&known P e&&z.cells.size==P.cellsOf e&&decide (0<P.cellsOf e)&&decide (0<=n)&&decide (n<=m)&&decide (m<=2 ^ 40)&&decide (P.bytesOf e<=256))
     (repK P e z n.toNat fun r=>k (.sl H.length n.toNat 0 n.toNat) r)
   | none=>none
  | _,_,_=>none
 | op=>match JT P H f op with | some (p,r)=>rowK r fun r=>k p r | none=>other
theorem KU {P:Program} {H:List Row} {f:Operand->PV} {op:Op} {k:PV->Row->Option α} {other:Option α} {r:α} (h:newK P H f op k other=some r):
  (∃ p rw,JT P H f op=some (p,rw)/\k p rw=some r)\/(JT P H f op=none/\other=some r):=by
 unfold newK at h;split at h
 ·obtain⟨h1,h2⟩:=CP h;rw[Hp] at h2;exact .inl ⟨_,_,by simp only[JT];rw[Ai h1],h2⟩
 ·split at h
  ·rename_i hu hl hc;split at h
   ·rename_i z hz;obtain⟨h1,h2⟩:=CP h;rw[repK_eq] at h2;exact .inl ⟨_,_,by simp only[JT,hu,hl,hc,hz];rw[Ai h1],h2⟩
   ·cases h
  ·cases h
 ·split at h
  ·rename_i hp;rw[Hp] at h;exact .inl ⟨_,_,hp,h⟩
  ·rename_i hp;exact .inr ⟨hp,h⟩

def storeK (P:Program) (ro:Nat) (H:List Row) (T:TypeId) (a x:PV) (k:List Row->Option α):Option α:=
 match a with
 | .ptr i n m j =>
  match rowAt H i with
  | some r =>
   Ds (decide (ro<=i)&&okc x&&x.cells.all Gc&&r.es.length==n&&x.cells.length==P.cellsOf T&&known P T&&decide (j+x.cells.length<=r.s))
    (dflt (setCells P r m j x.cells) fun r2=>rowK r2 fun r3=>k (H.set i r3))
  | none=>none
 | _=>none
theorem Kp {P:Program} {ro:Nat} {H:List Row} {T:TypeId} {a x:PV} {k:List Row->Option α} {r:α} (h:storeK P ro H T a x k=some r):∃ H',GY P ro H T a x=some H'/\k H'=some r:=by
 unfold storeK at h;split at h
 ·split at h
  ·rename_i hr;obtain⟨h1,h2⟩:=CP h;obtain⟨r2,h3,h4⟩:=Fu h2;rw[Hp] at h4;exact⟨_,by simp only[GY,hr];rw[Ai h1];simp only[h3],h4⟩
  ·cases h
 ·cases h

def srcK (H:List Row) (y:PV) (k:Bool->TypeId->List PV->Option α):Option α:=
 match y with
 | .sl i n m len =>
  match rowAt H i with
  | some r=>Ds (r.es.length==n) (k r.bv r.t ((r.es.drop m).take len))
  | none=>none
 | .CQ _ t es=>k true t es
 | _=>none
theorem srcK_some {H:List Row} {y:PV} {k:Bool->TypeId->List PV->Option α} {r:α} (h:srcK H y k=some r):∃ ty t news,JN H y=some (ty,t,news)/\k ty t news=some r:=by
 unfold srcK at h;split at h
 ·split at h
  ·rename_i hr;obtain⟨h1,h2⟩:=CP h;exact⟨_,_,_,by simp only[JN,hr];rw[Ai (by simpa using h1)],h2⟩
  ·cases h
 ·exact⟨_,_,_,rfl,h⟩
 ·cases h

def strK (P:Program) (T:TypeId) (y:PV) (k:Bool->TypeId->List PV->Option α):Option α:=
 match P.underlying T,y with
 | some (.slice e),.val (.string s)=>Ds (byteT P e) (k true e (Fb s))
 | _,_=>none
def srcTK (P:Program) (T T2:TypeId) (H:List Row) (y:PV) (k:Bool->TypeId->List PV->Option α):Option α:=
 match P.underlying T2 with
 | some (.slice e)=>match zsl y with | true=>k true e [] | false=>srcK H y k
 | some .string=>strK P T y k
 | _=>none
theorem srcTK_some {P:Program} {T T2:TypeId} {H:List Row} {y:PV} {k:Bool->TypeId->List PV->Option α} {r:α} (h:srcTK P T T2 H y k=some r):∃ ty t news,Jj P T T2 H y=some (ty,t,news)/\k ty t news=some r:=by
 unfold srcTK at h;unfold Jj;split at h
 ·rename_i hu;simp only[hu];split at h
  ·rename_i hz;simp only[hz];exact⟨_,_,_,rfl,h⟩
  ·rename_i hz;simp only[hz];exact srcK_some h
 ·rename_i hu;simp only[hu];unfold strK at h;split at h
  ·rename_i h1;obtain⟨h2,h3⟩:=CP h;exact⟨_,_,_,by simp only[strSrc,h1];rw[Ai h2],h3⟩
  ·cases h
 ·cases h

def MT (P:Program) (ro:Nat) (H:List Row) (c:Call) (x y:PV) (k:PV->List Row->Option α):Option α:=
 match c.argTypes[0]?,c.argTypes[1]? with
 | some T,some T2 =>
  match P.underlying T with
  | some (.slice e) =>
   srcTK P T T2 H y fun ty t news =>
   Ds (known P e&&t==e&&(EL P e).any (fun z=>z.cells.size==P.cellsOf e)&&P.bytesOf e != 0&&(ty||Gx news))
    (match x with
    | .sl i n 0 len =>
     match rowAt H i with
     | some r =>
      Ds (decide (ro<=i)&&decide (r.es.length=n)&&decide (n=len)&&decide ((n+news.length)*P.bytesOf e<=140737488355328))
       (Ds (r.t==e&&r.s==P.cellsOf e && !r.fz)
        (rowK { r with es:=r.es++news,bv:=r.bv&&ty,nl:=r.nl&&news.isEmpty } fun r2=>k (.sl i (n+news.length) 0 (n+news.length)) (H.set i r2)))
     | none=>none
    | .val (.slice none 0 0) =>
     Ds (decide (news.length*P.bytesOf e<=140737488355328))
      (bif news.isEmpty then k x H else rowK { es:=news,s:=P.cellsOf e,t:=e,bv:=ty } fun r2=>k (.sl H.length news.length 0 news.length) (H++[r2]))
    | .CQ true t2 es =>
     Ds (t2==e) (Ds (decide ((es.length+news.length)*P.bytesOf e<=140737488355328))
      (bif news.isEmpty then k x H else rowK { es:=es++news,s:=P.cellsOf e,t:=e,bv:=ty } fun r2=>k (.sl H.length (es.length+news.length) 0 (es.length+news.length)) (H++[r2])))
    | _=>none)
  | _=>none
 | _,_=>none
theorem Jm {P:Program} {ro:Nat} {H:List Row} {c:Call} {x y:PV} {k:PV->List Row->Option α} {r:α} (h:MT P ro H c x y k=some r):∃ p H',Es P ro H c x y=some (p,H')/\k p H'=some r:=by
 unfold MT at h;unfold Es;split at h
 ·rename_i T T2 h1 h2;split at h
  ·rename_i e hu;obtain⟨ty,t,news,hs,h⟩:=srcTK_some h;obtain⟨hc,h⟩:=CP h;simp only[h1,h2,hu,hs];rw[Ai hc];split at h
   ·split at h
    ·rename_i hr;obtain⟨g1,h⟩:=CP h;obtain⟨g2,h⟩:=CP h;simp only[Aa,Ab] at g1;rw[Hp] at h;simp only[hr];exact⟨_,_,by rw[Ai ⟨g1.1.1.1,g1.1.1.2,g1.1.2,g1.2⟩,Ai g2],h⟩
    ·cases h
   ·obtain⟨g1,h⟩:=CP h;rw[Ai (by simpa using g1)];cases hn:news.isEmpty with
    | true=>rw[hn] at h;exact⟨_,_,by simp,h⟩
    | false=>rw[hn] at h;simp only[At,Hp] at h;exact⟨_,_,rfl,h⟩
   ·obtain⟨g0,h⟩:=CP h;obtain⟨g1,h⟩:=CP h;dsimp only;rw[Ai g0,Ai (by simpa using g1)];cases hn:news.isEmpty with
    | true=>rw[hn] at h;exact⟨_,_,rfl,h⟩
    | false=>rw[hn] at h;simp only[At,Hp] at h;exact⟨_,_,rfl,h⟩
   ·cases h
  ·cases h
 ·cases h
def moreK (P:Program) (ro:Nat) (H:List Row) (f:Operand->PV) (op:Op) (k:PV->List Row->Option α):Option α:=
 match op with
 | .call c =>
  match c.callee with
  | .builtin .clear =>
   match c.args.toList,c.argTypes[0]? with
   | [x],some T =>
    match P.underlying T with
    | some (.slice e) =>
     match EL P e with
     | some z =>
      match f x with
      | .sl i n m len =>
       match rowAt H i with
       | some r=>Ds (decide (ro<=i)&&r.t==e&&clearOk P e z && !r.fz&&(r.es.length==n)) (bif r.nl then k (.val (.tuple #[])) H else rowK (clearRow P e z r m len) fun r2=>k (.val (.tuple #[])) (H.set i r2))
       | none=>none
      | .val (.slice none 0 0)=>k (.val (.tuple #[])) H
      | _=>none
     | none=>none
    | _=>none
   | _,_=>none
  | .builtin .unsafeString =>
   match c.args.toList,c.argTypes[0]? with
   | [x,y],some T =>
    match P.underlying T with
    | some (.pointer e) =>
     match f x,f y with
     | .ptr i n 0 0,.val (.int .i64 m) =>
      match rowAt H i with
      | some r=>Ds (decide (ro<=i)&&Ln P e&&r.t==e&&r.bv&&(r.es.length==n)&&decide (0<m)&&decide (m<=n)&&decide (m<=9223372036854775807))
        (rowK { r with fz:=true } fun r2=>k (.val (.string (strB ((r.es.drop 0).take m.toNat)))) (H.set i r2))
      | none=>none
     | .val (.pointer none),.val (.int .i64 0)=>k (.val (.string .empty)) H
     | _,_=>none
    | _=>none
   | _,_=>none
  | _=>none
 | _=>none
theorem moreK_some {P:Program} {ro:Nat} {H:List Row} {f:Operand->PV} {op:Op} {k:PV->List Row->Option α} {r:α} (h:moreK P ro H f op k=some r):∃ p H',Lr P ro H f op=some (p,H')/\k p H'=some r:=by
 unfold moreK at h;split at h
 ·rename_i c;split at h
  ·rename_i hc;split at h
   ·rename_i x T ha hT;split at h
    ·rename_i e hu;split at h
     ·rename_i z hz;split at h
      ·rename_i i n m len hx;split at h
       ·rename_i rw hr;obtain⟨h1,h2⟩:=CP h;refine⟨_,if rw.nl then H else H.set i (clearRow P e z rw m len),by simp only[Lr,hc,ha,clearQ,hT,hu,hz,hx,hr];rw[Ai h1],?_⟩;cases hn:rw.nl with
        | true=>rw[hn] at h2;exact h2
        | false=>rw[hn] at h2;simp only[At] at h2;rw[Hp] at h2;exact h2
       ·cases h
      ·rename_i hx;exact⟨_,_,by simp only[Lr,hc,ha,clearQ,hT,hu,hz,hx],h⟩
      ·cases h
     ·cases h
    ·cases h
   ·cases h
  ·rename_i hc;split at h
   ·rename_i x y T ha hT;split at h
    ·rename_i e hu;split at h
     ·rename_i i n m hx hy;split at h
      ·rename_i rw hr;obtain⟨h1,h2⟩:=CP h;rw[Hp] at h2;exact⟨_,_,by simp only[Lr,hc,ha,usQ,hT,hu,hx,hy,hr];rw[Ai h1],h2⟩
      ·cases h
     ·rename_i hx hy;exact⟨_,_,by simp only[Lr,hc,ha,usQ,hT,hu,hx,hy],h⟩
     ·cases h
    ·cases h
   ·cases h
  ·cases h
 ·cases h
end

abbrev K9 (α:Type):=Nat->FuncId->Code->List PV->List Row->(PX->List PV->List Row->Option α)->Option α

section
variable {α:Type}
def resAllK (P:Program) (S:List PV) (H:List Row):List ResultVar->(List PV->Option α)->Option α
 | [],k=>k []
 | .tmp t::rs,k=>resAllK P S H rs fun ps=>k (S.getD t (.val undef)::ps)
 | .cell a t::rs,k=>Ds (Ig H (S.getD a (.val undef))) (loadK P H t (S.getD a (.val undef)) fun p=>resAllK P S H rs fun ps=>k (p::ps))
theorem Jn {P:Program} {S:List PV} {H:List Row}:∀ {rs:List ResultVar} {k:List PV->Option α} {r:α},resAllK P S H rs k=some r->∃ ps,Jk P S H rs=some ps/\k ps=some r
 | [],k,r,h=>⟨[],rfl,h⟩
 | .tmp t::rs,k,r,h=>by
  obtain⟨ps,h1,h2⟩:=Jn (rs:=rs) h;exact⟨_,by simp only[Jk,resOne,h1],h2⟩
 | .cell a t::rs,k,r,h=>by
  obtain⟨g1,g2⟩:=CP h;obtain⟨p,g3,g4⟩:=loadK_some g2;obtain⟨ps,h1,h2⟩:=Jn (rs:=rs) g4;exact⟨_,by simp only[Jk,resOne,h1];rw[Ai g1];simp only[g3],h2⟩
def resK (P:Program) (fn:Func) (S:List PV) (H:List Row) (k:PV->Option α):Option α:=
 resAllK P S H fn.results.toList fun ps=>match ps with | [p]=>k p | ps=>k (.D8 ps)
theorem resK_some {P:Program} {fn:Func} {S:List PV} {H:List Row} {k:PV->Option α} {r:α} (h:resK P fn S H k=some r):∃ p,resQ P fn S H=some p/\k p=some r:=by
 obtain⟨ps,h1,h2⟩:=Jn h;unfold resQ;rw[h1];split at h2
 ·exact⟨_,rfl,h2⟩
 ·rename_i hne;refine⟨.D8 ps,?_,h2⟩;split
  ·rename_i q hq;cases hq;exact absurd rfl (hne _)
  ·rename_i hq;cases hq;rfl
  ·rename_i hq;cases hq

def LU (P:Program) (ex:K9 α) (ro:Nat) (f:FuncId) (args:List PV) (H:List Row) (k:PV->List Row->Option α):Option α:=
 match P.funcs[f]? with
 | some fn =>
  match fn.body with
  | some b =>
   match fn.name == "runtime.NumGoroutine" with
   | true=>none
   | false =>
    ex ro f b (args++List.replicate (fn.ntmps-args.length) (.val undef)) H fun x S' H' =>
     match x with
     | .exit _=>none
     | _=>resK P fn S' H' fun p=>k p H'
  | none=>none
 | none=>none
def Kq (P:Program) (E:CO) (ex:K9 α) (ro:Nat) (f:FuncId) (args:List PV) (H:List Row) (k:PV->List Row->Option α):Option α:=
 match E.Gq ro f args H with
 | some d=>d.go fun r=>k r.1 r.2
 | none=>LU P ex ro f args H k
def frz0K (H:List Row) (h:Nat) (p:PV) (k:PV->Option α):Option α:=
 match p with
 | .sl i n m len =>
  bif decide (h<=i) then
   match rowAt H i with
   | some r=>bif r.bv then Ds (r.es.length==n) (k (.CQ false r.t ((r.es.drop m).take len))) else k (.sl i n m len)
   | none=>k (.sl i n m len)
  else k (.sl i n m len)
 | p=>k (frz H h p)
theorem frz0K_some {H:List Row} {h:Nat} {p:PV} {k:PV->Option α} {r:α} (g:frz0K H h p k=some r):k (frz H h p)=some r:=by
 unfold frz0K at g;split at g
 ·rename_i i n m len;rw[frz];by_cases hh:h<=i
  ·rw[Ai hh];rw[Ac hh,Am] at g;cases hr:rowAt H i with
   | none=>rw[hr] at g;exact g
   | some r0 =>
    rw[hr] at g;dsimp only at g ⊢;cases hb:r0.bv with
    | true =>
     rw[hb,Am] at g;obtain⟨g1,g2⟩:=CP g;rw[g1];exact g2
    | false=>rw[hb] at g;exact g
  ·rw[An hh];rw[Aj hh,At] at g;exact g
 ·exact g
def frz0sK (H:List Row) (h:Nat):List PV->(List PV->Option α)->Option α
 | [],k=>k []
 | p::ps,k=>frz0K H h p fun q=>frz0sK H h ps fun qs=>k (q::qs)
theorem frz0sK_some {H:List Row} {h:Nat}:∀ {ps:List PV} {k:List PV->Option α} {r:α},frz0sK H h ps k=some r->k (GR H h ps)=some r
 | [],k,r,g=>by rw[GR];exact g
 | p::ps,k,r,g=>by rw[GR];exact frz0sK_some (ps:=ps) (frz0K_some g)
def frzK (H:List Row) (h:Nat) (p:PV) (k:PV->Option α):Option α:=
 match p with
 | .agg cs=>frz0sK H h cs fun ds=>k (.agg ds)
 | p=>frz0K H h p k
theorem IV {H:List Row} {h:Nat} {p:PV} {k:PV->Option α} {r:α} (g:frzK H h p k=some r):k (frz H h p)=some r:=by
 unfold frzK at g;split at g
 ·rw[frz];exact frz0sK_some g
 ·exact frz0K_some g
def Lv (H:List Row) (h:Nat):List PV->(List PV->Option α)->Option α
 | [],k=>k []
 | p::ps,k=>frzK H h p fun q=>Lv H h ps fun qs=>k (q::qs)
theorem EW {H:List Row} {h:Nat}:∀ {ps:List PV} {k:List PV->Option α} {r:α},Lv H h ps k=some r->k (GR H h ps)=some r
 | [],k,r,g=>by rw[GR];exact g
 | p::ps,k,r,g=>by rw[GR];exact EW (ps:=ps) (IV g)
def oraK (r:PV) (ags args:List PV) (k:PV->Option α):Option α:=
 Ds (EJ 0 ags&&mlt 0 r&&(plain r||EJ 0 args)) (k r)
def callGK (P:Program) (E:CO) (ex:K9 α) (ro:Nat) (f:FuncId) (args:List PV) (H:List Row) (k:PV->List Row->Option α):Option α:=
 Lv H 0 args fun ags =>
 match E.orD f ags with
 | some d=>d.go fun r=>oraK r ags args fun p=>k p H
 | none =>
 match E.Ff f ags with
 | some r=>oraK r ags args fun p=>k p H
 | none=>Kq P E ex ro f args H fun p H' =>
   bif E.JU f then k p H' else frzK H' H.length p fun q=>Ds (mlt H.length q&&Dj H.length (H'.take H.length)) (k q (H'.take H.length))
def callEK (P:Program) (E:CO) (ex:K9 α) (f:FuncId) (args:List PV) (H:List Row) (k:PV->Option α):Option α:=
 Ds (EJ H.length args&&Dj H.length H)
  (Lv H 0 args fun ags =>
  match E.orD f ags with
  | some d=>d.go fun r=>oraK r ags args k
  | none =>
  match E.Ff f ags with
  | some r=>oraK r ags args k
  | none=>Kq P E ex H.length f args H fun p H'=>frzK H' H.length p fun q=>Ds (mlt H.length q) (k q))

def Ref (GP:K9 α) (ex:Ex):Prop:=∀ ro f c S H (k:PX->List PV->List Row->Option α) r,GP ro f c S H k=some r->∃ x S' H',ex ro f c S H=some (x,S',H')/\k x S' H'=some r

theorem Fl {P:Program} {GP:K9 α} {ex:Ex} (hr:Ref GP ex) {ro:Nat} {f:FuncId} {args:List PV} {H:List Row} {k:PV->List Row->Option α} {r:α} (h:LU P GP ro f args H k=some r):
  ∃ p H',callX P ex ro f args H=some (p,H')/\k p H'=some r:=by
 unfold LU at h;split at h
 ·rename_i fn hfn;split at h
  ·rename_i b hb;split at h
   ·cases h
   ·rename_i hn;obtain⟨x,S',H',h1,h2⟩:=hr _ _ _ _ _ _ _ h;have:x ≠ .exit (match x with | .exit i=>i | _=>0)/\resK P fn S' H' (fun p=>k p H')=some r:=by
     cases x with
     | exit i=>cases h2
     | normal=>exact⟨by simp,h2⟩
     | ret=>exact⟨by simp,h2⟩
    obtain⟨p,h3,h4⟩:=resK_some this.2;refine⟨p,H',?_,h4⟩;unfold callX;simp only[hfn,hb];rw[An (by simp[hn]),h1];cases x with
    | exit i=>cases h2
    | normal=>simp only[h3,AH]
    | ret=>simp only[h3,AH]
  ·cases h
 ·cases h
theorem FZ {P:Program} {E:CO} {GP:K9 α} {ex:Ex} (hr:Ref GP ex) {ro:Nat} {f:FuncId} {args:List PV} {H:List Row} {k:PV->List Row->Option α} {r:α} (h:Kq P E GP ro f args H k=some r):
  ∃ p H',HO P E.env ex ro f args H=some (p,H')/\k p H'=some r:=by
 unfold Kq at h;unfold HO CO.env;dsimp only;split at h
 ·rename_i d hd;obtain⟨a,h1,h2⟩:=DT.Gg h;rw[hd];simp only[Bh,h1];exact⟨_,_,rfl,h2⟩
 ·rename_i hd;rw[hd];exact Fl hr h
theorem HB {E:CO} {f:FuncId} {args:List PV} {H:List Row} {p:PV} {k:PV->Option α} {r:α} (ho:E.env.Ff f (GR H 0 args)=some p) (h:oraK p (GR H 0 args) args k=some r):Gr E.env f args H=some p/\k p=some r:=by
 obtain⟨h1,h2⟩:=CP h;refine⟨?_,h2⟩;unfold Gr;rw[ho];dsimp only;rw[Ai h1]
theorem ora_of {E:CO} {f:FuncId} {a:List PV} {p:PV} (hd:E.orD f a=none) (h:E.Ff f a=some p):E.env.Ff f a=some p:=by
 show (match E.orD f a with | some d=>d.run | none=>E.Ff f a)=_
 rw[hd];exact h
theorem ora_orD {E:CO} {f:FuncId} {a:List PV} {p:PV} {d:DT PV} (hd:E.orD f a=some d) (h:d.run=some p):E.env.Ff f a=some p:=by
 show (match E.orD f a with | some d=>d.run | none=>E.Ff f a)=_
 rw[hd];exact h
theorem ora_none {E:CO} {f:FuncId} {a:List PV} (hd:E.orD f a=none) (h:E.Ff f a=none):E.env.Ff f a=none:=by
 show (match E.orD f a with | some d=>d.run | none=>E.Ff f a)=_
 rw[hd];exact h
theorem callGK_some {P:Program} {E:CO} {GP:K9 α} {ex:Ex} (hr:Ref GP ex) {ro:Nat} {f:FuncId} {args:List PV} {H:List Row} {k:PV->List Row->Option α} {r:α} (h:callGK P E GP ro f args H k=some r):
  ∃ p H',callG P E.env ex ro f args H=some (p,H')/\k p H'=some r:=by
 unfold callGK at h;replace h:=EW h
 unfold callG;split at h
 ·rename_i d hd;obtain⟨p,g1,g2⟩:=DT.Gg h;obtain⟨h1,h2⟩:=HB (ora_orD hd g1) g2;rw[h1];exact⟨_,_,rfl,h2⟩
 rename_i hd;split at h
 ·rename_i p hp;obtain⟨h1,h2⟩:=HB (ora_of hd hp) h;rw[h1];exact⟨_,_,rfl,h2⟩
 ·rename_i hn;have:Gr E.env f args H=none:=by
   unfold Gr;rw[ora_none hd hn]
  rw[this];obtain⟨p,H',h1,h2⟩:=FZ hr h;simp only[h1];show ∃ q H2,(if E.JU f=true then some (p,H') else some (settle H.length p H'))=some (q,H2)/\_
  cases hk:E.JU f with
  | true=>rw[hk] at h2;exact⟨_,_,rfl,h2⟩
  | false =>
   rw[hk,At] at h2;obtain⟨g1,g2⟩:=CP (IV h2);refine⟨_,_,by rw[An (by simp)];simp only[settle];rw[Ai g1],g2⟩
theorem callEK_some {P:Program} {E:CO} {GP:K9 α} {ex:Ex} (hr:Ref GP ex) {f:FuncId} {args:List PV} {H:List Row} {k:PV->Option α} {r:α} (h:callEK P E GP f args H k=some r):
  ∃ p,callE P E.env ex f args H=some p/\k p=some r:=by
 obtain⟨h0,h⟩:=CP h;replace h:=EW h
 unfold callE;rw[Ai h0];split at h
 ·rename_i d hd;obtain⟨p,g1,g2⟩:=DT.Gg h;obtain⟨h1,h2⟩:=HB (ora_orD hd g1) g2;rw[h1];exact⟨_,rfl,h2⟩
 rename_i hd;split at h
 ·rename_i p hp;obtain⟨h1,h2⟩:=HB (ora_of hd hp) h;rw[h1];exact⟨_,rfl,h2⟩
 ·rename_i hn;have:Gr E.env f args H=none:=by
   unfold Gr;rw[ora_none hd hn]
  rw[this];obtain⟨p,H',h1,h2⟩:=FZ hr h;obtain⟨g1,g2⟩:=CP (IV h2);simp only[h1];exact⟨_,by rw[Ai g1],g2⟩

def yieldK (ex:K9 α) (ro i:Nat) (args:List PV) (H:List Row) (k:PV->List Row->Option α):Option α:=
 match Ix H i with
 | some ⟨kk,.ready⟩ =>
  Ds (decide (ro<=i)&&args.length==kk.ps.size)
   (ex ro kk.f kk.He (setPs kk.S0 kk.ps.toList args) H fun x S1 H1 =>
    match x with
    | .normal =>
     match Ix H1 i,Ij H1 i .busy with
     | some ⟨_,.ready⟩,some H2 =>
      ex ro kk.f kk.body S1 H2 fun x _ H3 =>
       match x with
       | .normal=>dflt (Ij H3 i .ready) fun H4=>k (.val (.bool true)) H4
       | .exit id=>dflt (Ij H3 i (.done (.exit id))) fun H4=>k (.val (.bool false)) H4
       | .ret=>dflt (Ij H3 i (.done .ret)) fun H4=>k (.val (.bool false)) H4
     | _,_=>none
    | _=>none)
 | _=>none
theorem yieldK_some {GP:K9 α} {ex:Ex} (hr:Ref GP ex) {ro i:Nat} {args:List PV} {H:List Row} {k:PV->List Row->Option α} {r:α} (h:yieldK GP ro i args H k=some r):
  ∃ b H',yieldQ ex ro i args H=some (b,H')/\k (.val (.bool b)) H'=some r:=by
 unfold yieldK at h;unfold yieldQ;split at h
 ·rename_i kk hk;rw[hk];obtain⟨h1,h2⟩:=CP h;dsimp only;rw[Ai h1];obtain⟨x,S1,H1,h3,h4⟩:=hr _ _ _ _ _ _ _ h2;rw[h3];split at h4
  ·dsimp only;split at h4
   ·rename_i H2 hl hs;rw[hl,hs];obtain⟨x,S3,H3,h5,h6⟩:=hr _ _ _ _ _ _ _ h4;dsimp only;rw[h5];cases x with
    | normal =>
     obtain⟨H4,h7,h8⟩:=Fu h6;simp only[LN,h7,AH];exact⟨_,_,rfl,h8⟩
    | exit id =>
     obtain⟨H4,h7,h8⟩:=Fu h6;simp only[LN,h7,AH];exact⟨_,_,rfl,h8⟩
    | ret =>
     obtain⟨H4,h7,h8⟩:=Fu h6;simp only[LN,h7,AH];exact⟨_,_,rfl,h8⟩
   ·cases h4
  ·cases h4
 ·cases h
def overK (S:List PV) (i:Nat) (H:List Row) (k:PX->List PV->List Row->Option α):Option α:=
 match Ix H i,Ij H i .over with
 | some ⟨_,.ready⟩,some H'=>k .normal S H'
 | some ⟨_,.done .ret⟩,some H'=>k .ret S H'
 | some ⟨_,.done (.exit id)⟩,some H'=>k (.exit id) S H'
 | _,_=>none
theorem overK_some {S:List PV} {i:Nat} {H:List Row} {k:PX->List PV->List Row->Option α} {r:α} (h:overK S i H k=some r):∃ x S' H',overQ S i H=some (x,S',H')/\k x S' H'=some r:=by
 unfold overK at h;unfold overQ;split at h
 ·rename_i h1 h2;rw[h1,h2];exact⟨_,_,_,rfl,h⟩
 ·rename_i h1 h2;rw[h1,h2];exact⟨_,_,_,rfl,h⟩
 ·rename_i h1 h2;rw[h1,h2];exact⟨_,_,_,rfl,h⟩
 ·cases h

def moreEK (P:Program) (E:CO) (ro:Nat) (H:List Row) (f:Operand->PV) (op:Op) (k:PV->List Row->Option α):Option α:=
 match E.EP ro H f op with
 | some d=>d.go fun r=>k r.1 r.2
 | none=>moreK P ro H f op k
theorem moreEK_some {P:Program} {E:CO} {ro:Nat} {H:List Row} {f:Operand->PV} {op:Op} {k:PV->List Row->Option α} {r:α} (h:moreEK P E ro H f op k=some r):∃ p H',moreE P E.env ro H f op=some (p,H')/\k p H'=some r:=by
 unfold moreEK at h;unfold moreE;split at h
 ·rename_i d hd;obtain⟨x,h1,h2⟩:=DT.Gg h;refine⟨x.1,x.2,?_,h2⟩;show (match (E.EP ro H f op).bind DT.run with | some r=>some r | none=>Lr P ro H f op)=_
  rw[hd];simp only[Bh,h1]
 ·rename_i hd;obtain⟨p,H',h1,h2⟩:=moreK_some h;refine⟨p,H',?_,h2⟩;show (match (E.EP ro H f op).bind DT.run with | some r=>some r | none=>Lr P ro H f op)=_
  rw[hd];exact h1
theorem inpE_bind {E:CO} {ro:Nat} {H:List Row} {f:Operand->PV} {op:Op}:inpE E.env.Ec ro H f op=(inpE E.Ec ro H f op).bind DT.run:=by
 unfold inpE;split
 ·rfl
 ·rfl
 ·rfl
 ·split <;> rfl
 ·rfl
def stepK (P:Program) (E:CO) (ex:K9 α) (ro:Nat) (S:List PV) (H:List Row) (o:Oper) (k:PV->List Row->Option α):Option α:=
 match inpE E.Ec ro H (ev S) o.op with
 | some d=>d.go fun r=>k r.1 r.2
 | none =>
 popK P H (ev S) o.op (fun p=>k p H) (newK P H (ev S) o.op (fun p r=>k p (H++[r]))
  (match o.op with
   | .store T a x=>storeK P ro H T (ev S a) (ev S x) fun H'=>k (.val undef) H'
   | .call c =>
    match c.callee with
    | .builtin .append=>match c.args.toList with | [x,y]=>MT P ro H c (ev S x) (ev S y) k | _=>none
    | .value g=>match ev S g with | .fn (.func f) first cap=>callGK P E ex ro f (first++c.args.toList.map (ev S)++cap) H k | .HE i=>yieldK ex ro i (c.args.toList.map (ev S)) H k | _=>none
    | _=>moreEK P E ro H (ev S) o.op k
   | _=>moreEK P E ro H (ev S) o.op k))
theorem LV {P:Program} {E:CO} {GP:K9 α} {ex:Ex} (hr:Ref GP ex) {ro:Nat} {S:List PV} {H:List Row} {o:Oper} {k:PV->List Row->Option α} {r:α} (h:stepK P E GP ro S H o k=some r):
  ∃ p H',Ls P E.env ex ro S H o=some (p,H')/\k p H'=some r:=by
 unfold stepK at h;unfold Ls;split at h
 ·rename_i d hr0;obtain⟨r0,h1,h2⟩:=DT.Gg h;have hr0':inpE E.env.Ec ro H (ev S) o.op=some r0:=by rw[inpE_bind,hr0];exact h1
  rw[hr0'];exact⟨r0.1,r0.2,rfl,h2⟩
 rename_i hr0;have hr0':inpE E.env.Ec ro H (ev S) o.op=none:=by rw[inpE_bind,hr0];rfl
 rw[hr0'];dsimp only;rcases KT h with ⟨p,h1,h2⟩ | ⟨h1,h⟩
 ·exact⟨p,H,by rw[h1],h2⟩
 ·rw[h1];rcases KU h with ⟨p,rw',h3,h4⟩ | ⟨h3,h⟩
  ·exact⟨p,_,by rw[h3],h4⟩
  ·rw[h3];dsimp only;split at h
   ·rename_i hop;simp only[hop];obtain⟨H',h5,h6⟩:=Kp h;exact⟨_,_,by rw[h5];rfl,h6⟩
   ·rename_i c hop;simp only[hop];split at h
    ·rename_i hc;simp only[hc];split at h
     ·rename_i x y ha;simp only[ha];exact Jm h
     ·cases h
    ·rename_i g hc;simp only[hc];split at h
     ·rename_i f first cap hg
      simp only[hg];exact callGK_some hr h
     ·rename_i i hg;simp only[hg];obtain⟨b,H',h5,h6⟩:=yieldK_some hr h;exact⟨_,_,by rw[h5];rfl,h6⟩
     ·cases h
    ·obtain⟨p,H',h5,h6⟩:=moreEK_some h;refine⟨p,H',?_,h6⟩;split
     ·rename_i hc;exact absurd hc (by assumption)
     ·rename_i hc;exact ((by assumption:∀ f,c.callee=.value f->False) _ hc).elim
     ·rw[<- hop];exact h5
   ·obtain⟨p,H',h5,h6⟩:=moreEK_some h;refine⟨p,H',?_,h6⟩;split
    ·rename_i hc;exact ((by assumption:∀ T a x,o.op=.store T a x->False) _ _ _ hc).elim
    ·rename_i hc;exact ((by assumption:∀ c,o.op=.call c->False) _ hc).elim
    ·exact h5

def stepEK (P:Program) (E:CO) (ex:K9 α) (S:List PV) (H:List Row) (o:Oper) (k:PV->List Row->Option α):Option α:=
 popK P H (ev S) o.op (fun p=>k p H) (newK P H (ev S) o.op (fun p r=>k p (H++[r]))
  (match o.op with
   | .call c =>
    match c.callee with
    | .value g=>match ev S g with | .fn (.func f) first cap=>callEK P E ex f (first++c.args.toList.map (ev S)++cap) H fun p=>k p H | _=>none
    | _=>none
   | _=>none))
theorem Kr {P:Program} {E:CO} {GP:K9 α} {ex:Ex} (hr:Ref GP ex) {S:List PV} {H:List Row} {o:Oper} {k:PV->List Row->Option α} {r:α} (h:stepEK P E GP S H o k=some r):
  ∃ p H',Ha P E.env ex S H o=some (p,H')/\k p H'=some r:=by
 unfold stepEK at h;unfold Ha;rcases KT h with ⟨p,h1,h2⟩ | ⟨h1,h⟩
 ·exact⟨p,H,by rw[h1],h2⟩
 ·rw[h1];rcases KU h with ⟨p,rw',h3,h4⟩ | ⟨h3,h⟩
  ·exact⟨p,_,by rw[h3],h4⟩
  ·rw[h3];dsimp only;split at h
   ·rename_i c hop;simp only[hop];split at h
    ·rename_i g hc;simp only[hc];split at h
     ·rename_i f first cap hg
      simp only[hg];obtain⟨p,h5,h6⟩:=callEK_some hr h;exact⟨p,H,by rw[h5];rfl,h6⟩
     ·cases h
    ·cases h
   ·cases h

def guardK (ops:Array Oper) (S:List PV) (o:Oper) (k:Bool->List PV->Option α):Option α:=
 match o.guard with
 | none=>k true S
 | some (j,want) =>
  match (ops[j]?).bind (·.dst) with
  | none=>k false S
  | some d =>
   match S[d]? with
   | none=>k false S
   | some (.val (.bool t))=>bif t then k want (S.set d (.val (.bool true))) else k (!want) (S.set d (.val (.bool false)))
   | some (.val _)=>k false S
   | some _=>none
theorem guardK_some {ops:Array Oper} {S:List PV} {o:Oper} {k:Bool->List PV->Option α} {r:α} (h:guardK ops S o k=some r):∃ b S1,Ef ops S o=some (b,S1)/\k b S1=some r:=by
 unfold guardK at h;unfold Ef;split at h
 ·rename_i hg;rw[hg];exact⟨_,_,rfl,h⟩
 ·rename_i j want hg;rw[hg];dsimp only;split at h
  ·rename_i hd;rw[hd];exact⟨_,_,rfl,h⟩
  ·rename_i d hd;rw[hd];dsimp only;split at h
   ·rename_i hs;rw[hs];exact⟨_,_,rfl,h⟩
   ·rename_i t hs;rw[hs];cases t
    ·exact⟨_,_,rfl,h⟩
    ·exact⟨_,_,rfl,h⟩
   ·rename_i v hv hs;rw[hs];refine⟨false,S,?_,h⟩;cases v <;> first | rfl | exact absurd rfl (hv _)
   ·cases h

def opsK (step:List PV->List Row->Oper->(PV->List Row->Option α)->Option α) (ops:Array Oper):List Oper->List PV->List Row->(List PV->List Row->Option α)->Option α
 | [],S,H,k=>k S H
 | o::os,S,H,k=>guardK ops S o fun w S1 =>
  match w with
  | true=>step S1 H o fun p H1=>opsK step ops os (DG S1 o.dst p) H1 k
  | false=>opsK step ops os (DG S1 o.dst (.val undef)) H k
theorem IW {stK:List PV->List Row->Oper->(PV->List Row->Option α)->Option α} {st:List PV->List Row->Oper->Option (PV × List Row)}
  (hst:∀ S H o k r,stK S H o k=some r->∃ p H',st S H o=some (p,H')/\k p H'=some r) {ops:Array Oper}:
  ∀ {os:List Oper} {S:List PV} {H:List Row} {k:List PV->List Row->Option α} {r:α},opsK stK ops os S H k=some r->∃ S' H',K6 st ops os S H=some (S',H')/\k S' H'=some r
 | [],S,H,k,r,h=>⟨S,H,rfl,h⟩
 | o::os,S,H,k,r,h=>by
  obtain⟨w,S1,h1,h2⟩:=guardK_some h;simp only[K6,h1];cases w with
  | true =>
   obtain⟨p,H1,h3,h4⟩:=hst _ _ _ _ _ h2;simp only[h3];exact IW hst (os:=os) h4
  | false=>exact IW hst (os:=os) h2

def stepXK (P:Program) (E:CO) (ex:K9 α) (K:List Nat) (S:List PV) (H:List Row) (o:Oper) (k:PV->List Row->Option α):Option α:=
 match K with
 | []=>stepEK P E ex S H o k
 | x::K=>popK P (kill (x::K) H) (ev S) o.op (fun p=>k p H) (newK P H (ev S) o.op (fun p r=>k p (H++[r])) none)
theorem stepXK_some {P:Program} {E:CO} {GP:K9 α} {ex:Ex} (hr:Ref GP ex) {K:List Nat} {S:List PV} {H:List Row} {o:Oper} {k:PV->List Row->Option α} {r:α} (h:stepXK P E GP K S H o k=some r):
  ∃ p H',Lt P E.env ex K S H o=some (p,H')/\k p H'=some r:=by
 cases K with
 | nil=>exact Kr hr h
 | cons x K =>
  unfold stepXK at h;unfold Lt;rcases KT h with ⟨p,h1,h2⟩ | ⟨h1,h⟩
  ·exact⟨p,H,by simp only[h1],h2⟩
  ·rcases KU h with ⟨p,rw',h3,h4⟩ | ⟨h3,h⟩
   ·exact⟨p,_,by simp only[h1,h3];rfl,h4⟩
   ·cases h
def stepMEK (P:Program) (E:CO) (ex:K9 α) (W R K:List Nat) (S:List PV) (H:List Row) (o:Oper) (k:PV->List Row->Option α):Option α:=
 stepXK P E ex K S (DP R H) o fun p H1 =>
  match H1.drop H.length with
  | []=>k p H
  | [r]=>Ds (W.contains H.length && !R.contains H.length) (k p (H++[r]))
  | _=>none
theorem MU {P:Program} {E:CO} {GP:K9 α} {ex:Ex} (hr:Ref GP ex) {W R K:List Nat} {S:List PV} {H:List Row} {o:Oper} {k:PV->List Row->Option α} {r:α} (h:stepMEK P E GP W R K S H o k=some r):
  ∃ p H',Kf P E.env ex W R K S H o=some (p,H')/\k p H'=some r:=by
 obtain⟨p,H1,h1,h2⟩:=stepXK_some hr h;unfold Kf;rw[h1];dsimp only;split at h2
 ·rename_i hd;rw[hd];exact⟨_,_,rfl,h2⟩
 ·rename_i hd;rw[hd];obtain⟨h3,h4⟩:=CP h2;dsimp only;rw[Ai h3];exact⟨_,_,rfl,h4⟩
 ·cases h2
def stepMK (P:Program) (E:CO) (ex:K9 α) (ro:Nat) (W R K G:List Nat) (S:List PV) (H:List Row) (o:Oper) (k:PV->List Row->Option α):Option α:=
 match o.op with
 | .store T a x =>
  match ev S a with
  | .ptr i n q j=>Ds (W.contains i && !R.contains i) (storeK P ro H T (.ptr i n q j) (ev S x) fun H'=>k (.val undef) H')
  | _=>none
 | _ =>
  match Gy S o.op with
  | some (f,args) =>
   match wRows E.pure f args with
   | []=>stepMEK P E ex W R K S H o k
   | K =>
    Ds (K.all (fun x=>W.contains x && !R.contains x)&&args.all (argOk H.length)&&decide (ro<=H.length)&&Dj 0 (El K H))
     (Kq P E ex ro f args (El K H) fun p H'=>Ds (plain p&&Dj 0 (El K (H'.take H.length))&&shpsB K H H') (k p (HM K H H')))
  | none =>
   match growQ S o.op with
   | some (c,i,x,y)=>Ds (W.contains i && !R.contains i&&G.contains i&&MD R y) (MT P ro H c x y k)
   | none=>stepMEK P E ex W R K S H o k
theorem stepMK_some {P:Program} {E:CO} {GP:K9 α} {ex:Ex} (hr:Ref GP ex) {ro:Nat} {W R K G:List Nat} {S:List PV} {H:List Row} {o:Oper} {k:PV->List Row->Option α} {r:α} (h:stepMK P E GP ro W R K G S H o k=some r):
  ∃ p H',stepM P E.env ex ro W R K G S H o=some (p,H')/\k p H'=some r:=by
 unfold stepMK at h;unfold stepM;split at h
 ·rename_i hop;simp only[hop];split at h
  ·rename_i ha;simp only[ha];obtain⟨h1,h2⟩:=CP h;rw[Ai h1];obtain⟨H',h3,h4⟩:=Kp h2;exact⟨_,_,by rw[h3];rfl,h4⟩
  ·cases h
 ·rename_i hno;have key:(∃ p H',(match Gy S o.op with
    | some (f,args) =>
     match wRows E.pure f args with
     | []=>Kf P E.env ex W R K S H o
     | K =>
      if K.all (fun x=>W.contains x && !R.contains x)&&args.all (argOk H.length)&&decide (ro<=H.length)&&Dj 0 (El K H) then
       match HO P E.env ex ro f args (El K H) with
       | some (p,H')=>if plain p&&Dj 0 (El K (H'.take H.length))&&shpsB K H H' then some (p,HM K H H') else none
       | none=>none
      else none
    | none =>
     match growQ S o.op with
     | some (c,i,x,y)=>if W.contains i && !R.contains i&&G.contains i&&MD R y then Es P ro H c x y else none
     | none=>Kf P E.env ex W R K S H o)=some (p,H')/\k p H'=some r):=by
   split at h
   ·rename_i f args hw
    try rw[hw]
    try dsimp only
    split at h
    ·rename_i hp
     try rw[hp]
     exact MU hr h
    ·rename_i hne;obtain⟨h1,h2⟩:=CP h;obtain⟨p,H',h3,h4⟩:=FZ hr h2;obtain⟨h5,h6⟩:=CP h4;rw[Ai h1,h3];dsimp only;rw[Ai h5];exact⟨_,_,rfl,h6⟩
   ·rename_i hw
    try rw[hw]
    try dsimp only
    split at h
    ·rename_i hg
     try rw[hg]
     try dsimp only
     obtain⟨h1,h2⟩:=CP h;rw[Ai h1];exact Jm h2
    ·rename_i hg
     try rw[hg]
     exact MU hr h
  obtain⟨p,H',h1,h2⟩:=key;refine⟨p,H',?_,h2⟩;split
  ·rename_i hop;exact absurd hop (hno _ _ _)
  ·exact h1
noncomputable def callSK (P:Program) (E:CO) (ex:K9 α) (ro:Nat) (K:List Nat) (f:FuncId) (args:List PV) (H:List Row) (k:PV->List Row->Option α):Option α:=
 Lv H 0 args fun ags =>
 match E.orD f ags with
 | some d=>d.go fun r=>oraK r ags args fun p=>k p H
 | none =>
 match E.Ff f ags with
 | some r=>oraK r ags args fun p=>k p H
 | none=>Kq P E ex ro f args H fun p H'=>Ds (GQ (IM K 0 (H'.take H.length)) (IM K 0 H)) (k p H')
theorem callSK_some {P:Program} {E:CO} {GP:K9 α} {ex:Ex} (hr:Ref GP ex) {ro:Nat} {K:List Nat} {f:FuncId} {args:List PV} {H:List Row} {k:PV->List Row->Option α} {r:α} (h:callSK P E GP ro K f args H k=some r):
  ∃ p H',(match Gr E.env f args H with | some r=>some (r,H) | none=>match HO P E.env ex ro f args H with | some (p,H')=>if GQ (IM K 0 (H'.take H.length)) (IM K 0 H) then some (p,H') else none | none=>none)=some (p,H')/\k p H'=some r:=by
 replace h:=EW h
 split at h
 ·rename_i d hd;obtain⟨p,g1,g2⟩:=DT.Gg h;obtain⟨h1,h2⟩:=HB (ora_orD hd g1) g2;rw[h1];exact⟨_,_,rfl,h2⟩
 rename_i hd;split at h
 ·rename_i p hp;obtain⟨h1,h2⟩:=HB (ora_of hd hp) h;rw[h1];exact⟨_,_,rfl,h2⟩
 ·rename_i hn;have:Gr E.env f args H=none:=by
   unfold Gr;rw[ora_none hd hn]
  rw[this];obtain⟨p,H',h1,h2⟩:=FZ hr h;obtain⟨g1,g2⟩:=CP h2;dsimp only;rw[h1];dsimp only;rw[Ai g1];exact⟨_,_,rfl,g2⟩
noncomputable def stepCK (P:Program) (E:CO) (ex:K9 α) (ro h0:Nat) (K:List Nat) (S:List PV) (H:List Row) (o:Oper) (k:PV->List Row->Option α):Option α:=
 match stOp o.op with
 | some (T,a,x) =>
  match ev S a with
  | .ptr i n q j=>Ds (inW h0 K i) (storeK P ro H T (.ptr i n q j) (ev S x) fun H'=>k (.val undef) H')
  | _=>none
 | none =>
  match Gy S o.op with
  | some (f,args) =>
   match E.JU f with
   | true=>callSK P E ex ro K f args H k
   | false =>
   Ds (args.all (argM (Fc args) H.length)&&decide (ro<=H.length)&&Dj 0 (El (Fc args) H))
    (Kq P E ex ro f args (El (Fc args) H) fun p H'=>Ds (plain p&&Dj 0 (El (Fc args) (H'.take H.length))&&deadsB (Fc args) H H') (k p (HM (Fc args) H H')))
  | none =>
   newK P H (ev S) o.op (fun p r=>k p (H++[r]))
    (match apOp o.op with
    | some (c,x,y)=>Ds (apOk h0 K (ev S x)) (match inpE E.Ec ro H (ev S) o.op with | some d=>d.go fun r=>Ds (killOk h0 (ev S x) r.2) (k r.1 r.2) | none=>MT P ro H c (ev S x) (ev S y) k)
    | none =>
     match E.EP ro H (ev S) o.op with
     | some d=>d.go fun r=>match Nat.beq r.2.length H.length with | true=>k r.1 r.2 | false=>none
     | none=>none)
theorem stepCK_some {P:Program} {E:CO} {GP:K9 α} {ex:Ex} (hr:Ref GP ex) {ro h0:Nat} {K:List Nat} {S:List PV} {H:List Row} {o:Oper} {k:PV->List Row->Option α} {r:α} (h:stepCK P E GP ro h0 K S H o k=some r):
  ∃ p H',JO P E.env ex ro h0 K S H o=some (p,H')/\k p H'=some r:=by
 unfold stepCK at h;unfold JO;split at h
 ·rename_i T a x hst;simp only[hst];split at h
  ·rename_i ha;simp only[ha];obtain⟨h1,h2⟩:=CP h;rw[Ai h1];obtain⟨H',h3,h4⟩:=Kp h2;exact⟨_,_,by rw[h3];rfl,h4⟩
  ·cases h
 ·rename_i hst;simp only[hst];split at h
  ·rename_i f args hw;simp only[hw];have hke:E.env.JU f=E.JU f:=rfl;rw[hke];split at h
   ·rename_i hk;rw[hk];exact callSK_some hr h
   rename_i hk;rw[hk];dsimp only;obtain⟨h1,h2⟩:=CP h;obtain⟨p,H',h3,h4⟩:=FZ hr h2;obtain⟨h5,h6⟩:=CP h4;rw[Ai h1,h3];dsimp only;rw[Ai h5];exact⟨_,_,rfl,h6⟩
  ·rename_i hw;simp only[hw];rcases KU h with ⟨p,rw',h3,h4⟩ | ⟨h3,h⟩
   ·exact⟨p,_,by rw[h3],h4⟩
   ·rw[h3];dsimp only;split at h
    ·rename_i c x y hap;simp only[hap];obtain⟨h1,h2⟩:=CP h;rw[Ai h1,inpE_bind];split at h2
     ·rename_i d hd;obtain⟨x,g1,g2⟩:=DT.Gg h2;obtain⟨g3,g4⟩:=CP g2;exact⟨x.1,x.2,by rw[hd];simp only[Bh,g1];rw[Ai g3],g4⟩
     ·rename_i hd;rw[hd];exact Jm h2
    ·rename_i hap;simp only[hap];split at h
     ·rename_i d hd;obtain⟨x,h1,h2⟩:=DT.Gg h;have ho:E.env.EP ro H (ev S) o.op=some x:=by
       show (E.EP ro H (ev S) o.op).bind DT.run=some x
       rw[hd];exact h1
      rw[ho];split at h2
      ·rename_i hb;dsimp only;rw[Ai (Bm hb)];exact⟨_,_,rfl,h2⟩
      ·cases h2
     ·cases h
noncomputable def stepsCK (sf:Bool) (F:List Bool) (P:Program) (E:CO) (ex:K9 α) (ro h0:Nat) (W:List (List Nat)) (m:List Nat) (n j:Nat) (S:List PV) (H:List Row) (o:Oper) (k:PV->List Row->Option α):Option α:=
 popK P (kill (FT W m n j) (H.take h0)) (ev S) o.op (fun p=>k p H) (match chainB o.op with
  | true=>(match F.getD j false&&GO o.op with
   | true=>(match freeQ P (ev S) o.op with | some p=>k p H | none=>none)
   | false=>(match sf&&Gz o.op with | true=>(match E.F9 H (ev S) o.op with | some p=>k p H | none=>none) | false=>stepCK P E ex ro h0 (W.getD j []) S H o k))
  | false=>none)
theorem stepsCK_some {sf:Bool} {F:List Bool} {P:Program} {E:CO} {GP:K9 α} {ex:Ex} (hr:Ref GP ex) {ro h0:Nat} {W:List (List Nat)} {m:List Nat} {n j:Nat} {S:List PV} {H:List Row} {o:Oper} {k:PV->List Row->Option α} {r:α} (h:stepsCK sf F P E GP ro h0 W m n j S H o k=some r):
  ∃ p H',Kg sf F P E.env ex ro h0 W m n j S H o=some (p,H')/\k p H'=some r:=by
 unfold stepsCK at h;unfold Kg;rcases KT h with ⟨p,h1,h2⟩ | ⟨h1,h⟩
 ·exact⟨p,H,by rw[h1],h2⟩
 ·rw[h1];dsimp only;split at h
  ·rename_i hb;rw[Ai hb];split at h
   ·rename_i hf;rw[Ai hf];split at h
    ·rename_i p hp;rw[hp];exact⟨p,H,rfl,h⟩
    ·cases h
   rename_i hf;rw[An (by rw[hf];simp)];split at h
   ·rename_i hs;rw[Ai hs];split at h
    ·rename_i p hp;have hp':E.env.F9 H (ev S) o.op=some p:=hp;rw[hp'];exact⟨p,H,rfl,h⟩
    ·cases h
   ·rename_i hs;rw[An (by rw[hs];simp)];exact stepCK_some hr h
  ·cases h
def stepsMK (P:Program) (E:CO) (ex:K9 α) (ro:Nat) (W G:List (List Nat)) (m:List Nat) (n j:Nat):List PV->List Row->Oper->(PV->List Row->Option α)->Option α:=
 stepMK P E ex ro (W.getD j []) (FT W m n j) (FT G m n j) (G.getD j [])
def stepPK (P:Program) (E:CO) (ex:K9 α) (S:List PV) (H:List Row) (o:Oper) (k:PV->List Row->Option α):Option α:=
 stepEK P E ex S H o fun p H1=>match Nat.beq H1.length H.length with | true=>k p H | false=>none
theorem stepPK_some {P:Program} {E:CO} {GP:K9 α} {ex:Ex} (hr:Ref GP ex) {S:List PV} {H:List Row} {o:Oper} {k:PV->List Row->Option α} {r:α} (h:stepPK P E GP S H o k=some r):
  ∃ p H',stepP P E.env ex S H o=some (p,H')/\k p H'=some r:=by
 obtain⟨p,H1,h1,h2⟩:=Kr hr h;unfold stepP;rw[h1];dsimp only;split at h2
 ·rename_i hb;rw[Ai (Bm hb)];exact⟨_,_,rfl,h2⟩
 ·cases h2
def stepsPK (P:Program) (E:CO) (ex:K9 α) (ro pv j:Nat) (S:List PV) (H:List Row) (o:Oper) (k:PV->List Row->Option α):Option α:=
 match Nat.beq j pv with
 | true=>stepK P E ex ro S H o k
 | false=>stepPK P E ex S H o k
theorem stepsPK_some {P:Program} {E:CO} {GP:K9 α} {ex:Ex} (hr:Ref GP ex) {ro pv j:Nat} {S:List PV} {H:List Row} {o:Oper} {k:PV->List Row->Option α} {r:α} (h:stepsPK P E GP ro pv j S H o k=some r):
  ∃ p H',Ki P E.env ex ro pv j S H o=some (p,H')/\k p H'=some r:=by
 unfold stepsPK at h;unfold Ki;split at h
 ·rename_i hb;rw[Ai (Bm hb)];exact LV hr h
 ·rename_i hb;rw[An (Nat.ne_of_beq_eq_false hb)];exact stepPK_some hr h
def opsJK (step:Nat->List PV->List Row->Oper->(PV->List Row->Option α)->Option α) (ops:Array Oper):Nat->List Oper->List PV->List Row->(List PV->List Row->Option α)->Option α
 | _,[],S,H,k=>k S H
 | j,o::os,S,H,k=>guardK ops S o fun w S1 =>
  match w with
  | true=>step j S1 H o fun p H1=>opsJK step ops (j+1) os (DG S1 o.dst p) H1 k
  | false=>opsJK step ops (j+1) os (DG S1 o.dst (.val undef)) H k
theorem HS {stK:Nat->List PV->List Row->Oper->(PV->List Row->Option α)->Option α} {st:Nat->List PV->List Row->Oper->Option (PV × List Row)}
  (hst:∀ j S H o k r,stK j S H o k=some r->∃ p H',st j S H o=some (p,H')/\k p H'=some r) {ops:Array Oper}:
  ∀ {os:List Oper} {j:Nat} {S:List PV} {H:List Row} {k:List PV->List Row->Option α} {r:α},opsJK stK ops j os S H k=some r->∃ S' H',Kh st ops j os S H=some (S',H')/\k S' H'=some r
 | [],j,S,H,k,r,h=>⟨S,H,rfl,h⟩
 | o::os,j,S,H,k,r,h=>by
  obtain⟨w,S1,h1,h2⟩:=guardK_some h;simp only[Kh,h1];cases w with
  | true =>
   obtain⟨p,H1,h3,h4⟩:=hst _ _ _ _ _ _ h2;simp only[h3];exact HS hst (os:=os) h4
  | false=>exact HS hst (os:=os) h2

def iterK (body:List PV->List Row->(PX->List PV->List Row->Option α)->Option α) (live:Option (List Tmp)) (ro:Nat):Nat->List PV->List Row->(PX->List PV->List Row->Option α)->Option α
 | 0,_,_,_=>none
 | m+1,S,H,k =>
  body (ES live S) H fun x S1 H1 =>
   match x with
   | .normal=>bif EJ H.length (ES live S1)&&decide (H.length<=H1.length)&&Dj H.length (H1.take H.length)&&decide (ro<=H.length) then iterK body live ro m (HP H.length (ES live S1)) (H1.take H.length) k
    else iterK body live ro m (ES live S1) H1 k
   | .exit i=>k (.exit i) S1 H1
   | .ret=>k .ret S1 H1
theorem LW {bK:List PV->List Row->(PX->List PV->List Row->Option α)->Option α} {b:List PV->List Row->Option (PX × List PV × List Row)}
  (hb:∀ S H k r,bK S H k=some r->∃ x S' H',b S H=some (x,S',H')/\k x S' H'=some r) {live:Option (List Tmp)} {ro:Nat}:
  ∀ {m:Nat} {S:List PV} {H:List Row} {k:PX->List PV->List Row->Option α} {r:α},iterK bK live ro m S H k=some r->∃ x S' H',MH b live ro m S H=some (x,S',H')/\k x S' H'=some r
 | 0,_,_,_,_,h=>by cases h
 | m+1,S,H,k,r,h=>by
  obtain⟨x,S1,H1,h1,h2⟩:=hb _ _ _ _ h;simp only[MH,h1];cases x with
  | normal =>
   dsimp only at h2 ⊢;split
   ·rename_i g1;rw[g1] at h2;exact LW hb (m:=m) h2
   ·rename_i g1;rw[Bool.not_eq_true] at g1;rw[g1] at h2;exact LW hb (m:=m) h2
  | exit i=>exact⟨_,_,_,rfl,h2⟩
  | ret=>exact⟨_,_,_,rfl,h2⟩

def askC (H:List Row) (h:Nat):PV->Bool
 | .sl i n _ _=>match decide (h<=i) with | true=>(match rowAt H i with | some r => !r.bv||(r.es.length==n) | none=>true) | false=>true
 | _=>true
def frzU (H:List Row) (h:Nat):PV->PV
 | .sl i n k len =>
  match decide (h<=i) with
  | true =>
   match rowAt H i with
   | some r=>match r.bv with | true=>.CQ false r.t ((r.es.drop k).take len) | false=>frz H h (.sl i n k len)
   | none=>frz H h (.sl i n k len)
  | false=>frz H h (.sl i n k len)
 | p=>frz H h p
theorem frzU_eq {H:List Row} {h:Nat} {p:PV} (ha:askC H h p=true):frzU H h p=frz H h p:=by
 unfold frzU;split
 ·rename_i i n k len;split
  ·rename_i hi;split
   ·rename_i r hr;split
    ·rename_i hb;unfold askC at ha;simp only[hi,hr,hb,BP,By,Aw] at ha;have hi':=AS hi;unfold frz;rw[Ai hi',hr];dsimp only;rw[Ai (by simp[hb,ha])]
    ·rfl
   ·rfl
  ·rfl
 ·rfl
def askSl (H:List Row) (h:Nat):PV->Bool
 | .sl i n _ _=>match decide (h<=i) with | true=>(match rowAt H i with | some r => !r.bv||(r.es.length==n) | none=>true) | false=>true
 | .ptr i _ k _=>match decide (h<=i) with | true=>(match rowAt H i with | some r=>r.bv||((r.es.getD k .any).cells.all (askC H h)) | none=>true) | false=>true
 | _=>true
def frzEU (H:List Row) (h:Nat) (e:PV):PV:=.agg (e.cells.map (frzU H h))
def lfzU (P:Program) (H:List Row) (h:Nat):PV->PV
 | .sl i n k len =>
  match decide (h<=i) with
  | true =>
   match rowAt H i with
   | some r=>match r.bv with | true=>.CQ false r.t ((r.es.drop k).take len) | false=>lfz P H h (.sl i n k len)
   | none=>lfz P H h (.sl i n k len)
  | false=>lfz P H h (.sl i n k len)
 | .ptr i n k j =>
  match decide (h<=i) with
  | true =>
   match rowAt H i with
   | some r =>
    match r.bv with
    | true=>lfz P H h (.ptr i n k j)
    | false =>
     match r.es.length==n&&decide (k<n)&&((r.es.getD k .any).cells.all fun c=>mlt h (frzU H h c))&&wt P r.t (frzEU H h (r.es.getD k .any)) with
     | true=>.Ee r.t (frzEU H h (r.es.getD k .any)) j
     | false=>.any
   | none=>.any
  | false=>.ptr i n k j
 | p=>lfz P H h p
theorem Lw {α:Type} {f g:α->Bool}:∀ {l:List α},(∀ x ∈ l,f x=g x)->l.all f=l.all g
 | [],_=>rfl
 | x::l,h=>by
  rw[Ce,Ce,h x (AJ ..),Lw fun y hy=>h y (AU _ hy)]
theorem lfzU_eq {P:Program} {H:List Row} {h:Nat} {p:PV} (ha:askSl H h p=true):lfzU P H h p=lfz P H h p:=by
 unfold lfzU;split
 ·rename_i i n k len;split
  ·rename_i hi;split
   ·rename_i r hr;split
    ·rename_i hb;unfold askSl at ha;simp only[hi,hr,hb,BP,By,Aw] at ha;have hi':=AS hi;have hf:frz H h (.sl i n k len)=.CQ false r.t ((r.es.drop k).take len):=by
      unfold frz;rw[Ai hi',hr];dsimp only;rw[Ai (by simp[hb,ha])]
     show _=(match mlt h (frz H h (.sl i n k len)) with | true=>frz H h (.sl i n k len) | false=>.any)
     rw[hf];rfl
    ·rfl
   ·rfl
  ·rfl
 ·rename_i i n k j;unfold lfz;split
  ·rename_i hi;split
   ·rename_i r hr;split
    ·rename_i hb;simp only[hi,hr,hb]
    ·rename_i hb;unfold askSl at ha;simp only[hi,hr,hb,By,Ap] at ha;have e1:(r.es.getD k .any).cells.map (frzU H h)=(r.es.getD k .any).cells.map (frz H h):=BE fun c hc=>frzU_eq (ha c hc)
     have e2:((r.es.getD k .any).cells.all fun c=>mlt h (frzU H h c))=((r.es.getD k .any).cells.all fun c=>mlt h (frz H h c)):=Lw fun c hc=>by rw[frzU_eq (ha c hc)]
     simp only[hi,hr,hb,frzEU,frzE,e1,e2,Bool.false_and,BU,Cf];split <;> rename_i hq <;> simp only[hq]
   ·rename_i hr;simp only[hi,hr]
  ·rename_i hi;simp only[hi]
 ·rfl
def deepEU (P:Program) (H:List Row) (h:Nat) (e:PV):PV:=.agg (e.cells.map (lfzU P H h))
def deepRU (P:Program) (H:List Row) (h:Nat) (r:Row):Row:=
 match r.live with
 | false=>r
 | true=>match r.bv with | true=>r | false=>{ r with es:=r.es.map (deepEU P H h),bv:=(r.es.map (deepEU P H h)).all (wt P r.t) }
def askR (H:List Row) (h:Nat) (r:Row):Bool:=!r.live||r.bv||r.es.all fun e=>e.cells.all (askSl H h)
theorem deepRU_eq {P:Program} {H:List Row} {h:Nat} {r:Row} (ha:askR H h r=true):deepRU P H h r=FB P H h r:=by
 unfold deepRU FB;cases hl:r.live with
 | false=>rfl
 | true =>
  cases hb:r.bv with
  | true=>rfl
  | false =>
   unfold askR at ha;simp only[hl,hb,BP,By,Ap] at ha;have he:r.es.map (deepEU P H h)=r.es.map (deepE P H h):=BE fun e hm=>by
    unfold deepEU deepE;congr 1
    exact BE fun c hc=>lfzU_eq (ha e hm c hc)
   dsimp only;rw[he]
def dropU (P:Program) (ro h:Nat) (S:List PV) (H:List Row):List PV × List Row:=
 match Nat.beq ro 0&&decide (h<=H.length)&&lpOk h (H.take h)&&(H.drop h).all (fun r=>r.lp.isNone) with
 | true=>(S.map (lfzU P H h),(H.take h).map (deepRU P H h)++List.replicate (H.length-h) C6)
 | false=>(S,H)
def askAll (h:Nat) (S:List PV) (H:List Row):Bool:=S.all (askSl H h)&&(H.take h).all (askR H h)
theorem dropU_eq {P:Program} {ro h:Nat} {S:List PV} {H:List Row} (ha:askAll h S H=true):dropU P ro h S H=JP P ro (some (h,true)) S H:=by
 simp only[askAll,Aa,Ap] at ha;have e1:S.map (lfzU P H h)=S.map (lfz P H h):=BE fun p hp=>lfzU_eq (ha.1 p hp)
 have e2:(H.take h).map (deepRU P H h)=(H.take h).map (FB P H h):=BE fun r hr=>deepRU_eq (ha.2 r hr)
 unfold dropU JP;dsimp only;rw[e1,e2];cases (Nat.beq ro 0&&decide (h<=H.length)&&lpOk h (H.take h)&&(H.drop h).all (fun r=>r.lp.isNone)) <;> rfl
def dropK (P:Program) (ro:Nat) (o:Option (Nat × Bool)) (S:List PV) (H:List Row) (k:List PV->List Row->Option α):Option α:=
 match o with
 | some (h,true)=>Ds (askAll h S H) (k (dropU P ro h S H).1 (dropU P ro h S H).2)
 | o=>k (JP P ro o S H).1 (JP P ro o S H).2
theorem dropK_some {P:Program} {ro:Nat} {o:Option (Nat × Bool)} {S:List PV} {H:List Row} {k:List PV->List Row->Option α} {r:α} (h:dropK P ro o S H k=some r):k (JP P ro o S H).1 (JP P ro o S H).2=some r:=by
 unfold dropK at h;split at h
 ·obtain⟨h1,h2⟩:=CP h;rw[dropU_eq h1] at h2;exact h2
 ·exact h
def setC (S:List PV) (c:Operand) (b:Bool):List PV:=match c with | .tmp d=>S.set d (.val (.bool b)) | _=>S
theorem setC_same {S:List PV} {c:Operand} {b:Bool} (h:ev S c=.val (.bool b)):setC S c b=S:=by
 cases c with
 | tmp d =>
  show S.set d (.val (.bool b))=S
  have h':S.getD d (.val undef)=.val (.bool b):=h;apply Bc
  intro i;rw[Au];split
  ·rename_i e;subst e;split
   ·rename_i hl;rw[<- h'];simp[List.getD,List.getElem?_eq_getElem hl]
   ·rename_i hl;exact (AD (by omega)).symm
  ·rfl
 | _=>rfl

noncomputable def EU (P:Program) (E:CO):Nat->K9 α
 | 0=>fun _ _ _ _ _ _=>none
 | n+1=>fun ro f c S H k =>
  match c with
  | .skip=>k .normal S H
  | .label _=>k .normal S H
  | .region id ops draw =>
   dropK P ro (relD H.length (E.drop f id)) (forget (E.fgt f id) S) H fun S H =>
    match draw with
    | true =>
     match Gf P ops.toList with
     | true =>
      match E.chain f id with
      | true =>
       match MF P (E.soft f id) (Dp ops.toList []) ops.toList with
       | true=>opsJK (stepsCK (E.soft f id) (Lu (E.soft f id) (Dp ops.toList []) ops.toList) P E (EU P E n) ro H.length (G0 P H S ops.toList H.length) (Dp ops.toList []) ops.size) ops 0 ops.toList S H fun S' H'=>k .normal S' H'
       | false=>none
      | false =>
      match pivotE (E.piv f id) ops.toList S with
      | some pv =>
       match MG (Dp ops.toList []) ops.size pv with
       | true=>opsJK (stepsPK P E (EU P E n) ro pv) ops 0 ops.toList S H fun S' H'=>k .normal S' H'
       | false=>none
      | none =>
       match mixed (DY E.pure H S ops.toList H.length) with
       | true=>opsJK (stepsMK P E (EU P E n) ro ((DY E.pure H S ops.toList H.length).map fun x=>x.2.1) ((DY E.pure H S ops.toList H.length).map fun x=>x.2.2) (Dp ops.toList []) ops.size) ops 0 ops.toList S H fun S' H'=>k .normal S' H'
       | false=>opsK (stepEK P E (EU P E n)) ops ops.toList S H fun S' H'=>k .normal S' H'
     | false=>none
    | false=>opsK (stepK P E (EU P E n) ro) ops ops.toList S H fun S' H'=>k .normal S' H'
  | .seq a b=>EU P E n ro f a S H fun x S1 H1 =>
   match x with
   | .normal=>EU P E n ro f b S1 H1 k
   | .exit i=>k (.exit i) S1 H1
   | .ret=>k .ret S1 H1
  | .cond c x y =>
   match ev S c with
   | .val (.bool t)=>bif t then EU P E n ro f x (setC S c true) H k else EU P E n ro f y (setC S c false) H k
   | _=>none
  | .block id b=>EU P E n ro f b S H fun x S1 H1 =>
   match x with
   | .exit i=>bif decide (i=id) then k .normal S1 H1 else k (.exit i) S1 H1
   | .normal=>k .normal S1 H1
   | .ret=>k .ret S1 H1
  | .loop b =>
   match Gs ro (E.Ke f (Ed b)) S H with
   | (S0,H0) =>
    match E.lo f ro (Ed b) (ES (E.live f (Ed b)) S0) H0 with
    | some d=>d.go fun r=>k r.1 r.2.1 r.2.2
    | none=>iterK (EU P E n ro f b) (E.live f (Ed b)) ro n S0 H0 k
  | .scope b=>EU P E n ro f b S H k
  | .exit id=>k (.exit id) S H
  | .ret=>k .ret S H
  | .rangeFunc g ps He body =>
   match ES (E.live f (Ed He)) S with
   | S0 =>
    match ev S0 g with
    | .fn (.func kf) first cap=>Kq P E (EU P E n) ro kf (first++[.HE H.length]++cap) (H++[Ez f S0 ps He body]) fun _ H2=>overK S0 H.length H2 k
    | _=>none
  | _=>none

theorem Fa {P:Program} {E:CO}:∀ n,Ref (α:=α) (EU P E n) (exec P E.env n)
 | 0=>fun _ _ _ _ _ _ _ h=>by cases h
 | n+1=>fun ro f c S H k r h=>by
  have ih:=Fa (P:=P) (E:=E) n;cases c <;> simp only[EU,reduceCtorEq] at h
  case skip=>exact⟨_,_,_,rfl,h⟩
  case label=>exact⟨_,_,_,rfl,h⟩
  case region id ops draw =>
   have h:=dropK_some h;have hdr0:E.env.drop f id=E.drop f id:=rfl;have hfg0:E.env.fgt f id=E.fgt f id:=rfl;simp only[exec,hdr0,hfg0];generalize JP P ro (relD H.length (E.drop f id)) (forget (E.fgt f id) S) H=SH at h ⊢;obtain⟨S,H⟩:=SH;dsimp only at h ⊢;split at h
   ·rename_i hdr;split at h
    ·rename_i hok;have hch0:E.env.chain f id=E.chain f id:=rfl;rw[Ai rfl,Ai hok,hch0];split at h
     ·rename_i hch;rw[Ai hch];split at h
      ·rename_i hco;obtain⟨S',H',h1,h2⟩:=HS (stK:=stepsCK (E.soft f id) (Lu (E.soft f id) (Dp ops.toList []) ops.toList) P E (EU P E n) ro H.length (G0 P H S ops.toList H.length) (Dp ops.toList []) ops.size) (st:=Kg (E.soft f id) (Lu (E.soft f id) (Dp ops.toList []) ops.toList) P E.env (exec P E.env n) ro H.length (G0 P H S ops.toList H.length) (Dp ops.toList []) ops.size) (fun j S1 H1 o k r h=>stepsCK_some ih h) h;exact⟨_,_,_,by rw[show E.env.soft f id=E.soft f id from rfl,Ai hco,h1];rfl,h2⟩
      ·cases h
     rename_i hch;rw[An (by rw[hch];simp)];split at h
     ·rename_i pv hpn;split at h
      ·rename_i hpo;obtain⟨S',H',h1,h2⟩:=HS (stK:=stepsPK P E (EU P E n) ro pv) (st:=Ki P E.env (exec P E.env n) ro pv) (fun j S1 H1 o k r h=>stepsPK_some ih h) h;exact⟨_,_,_,by simp only[show pivotE (E.env.piv f id) ops.toList S=_ from hpn];rw[Ai hpo,h1];rfl,h2⟩
      ·cases h
     ·rename_i hpn;split at h
      ·rename_i hm;obtain⟨S',H',h1,h2⟩:=HS (stK:=stepsMK P E (EU P E n) ro ((DY E.pure H S ops.toList H.length).map (fun x:Bool × List Nat × List Nat=>x.2.1)) ((DY E.pure H S ops.toList H.length).map (fun x:Bool × List Nat × List Nat=>x.2.2)) (Dp ops.toList []) ops.size) (st:=stepsM P E.env (exec P E.env n) ro ((DY E.env.pure H S ops.toList H.length).map (fun x:Bool × List Nat × List Nat=>x.2.1)) ((DY E.env.pure H S ops.toList H.length).map (fun x:Bool × List Nat × List Nat=>x.2.2)) (Dp ops.toList []) ops.size) (fun j S1 H1 o k r (h:stepMK P E (EU P E n) ro _ _ _ _ S1 H1 o k=some r)=>stepMK_some ih h) h;exact⟨_,_,_,by simp only[show pivotE (E.env.piv f id) ops.toList S=_ from hpn];rw[Ai (show mixed (DY E.env.pure H S ops.toList H.length)=true from hm),h1];rfl,h2⟩
      ·rename_i hm;obtain⟨S',H',h1,h2⟩:=IW (st:=Ha P E.env (exec P E.env n)) (fun S H o k r h=>Kr ih h) h;exact⟨_,_,_,by simp only[show pivotE (E.env.piv f id) ops.toList S=_ from hpn];rw[An (show ¬ mixed (DY E.env.pure H S ops.toList H.length)=true from by rw[show mixed (DY E.env.pure H S ops.toList H.length)=false from hm];simp),h1];rfl,h2⟩
    ·cases h
   ·rename_i hdr;obtain⟨S',H',h1,h2⟩:=IW (st:=Ls P E.env (exec P E.env n) ro) (fun S H o k r h=>LV ih h) h;exact⟨_,_,_,by rw[An (by simp),h1];rfl,h2⟩
  case seq a b =>
   obtain⟨x,S1,H1,h1,h2⟩:=ih _ _ _ _ _ _ _ h;simp only[exec,h1];cases x with
   | normal=>exact ih _ _ _ _ _ _ _ h2
   | exit i=>exact⟨_,_,_,rfl,h2⟩
   | ret=>exact⟨_,_,_,rfl,h2⟩
  case cond c x y =>
   split at h
   ·rename_i t ht;simp only[exec,ht];cases t
    ·simp only[At,setC_same ht] at h;exact ih _ _ _ _ _ _ _ h
    ·simp only[Am,setC_same ht] at h;exact ih _ _ _ _ _ _ _ h
   ·cases h
  case block id b =>
   obtain⟨x,S1,H1,h1,h2⟩:=ih _ _ _ _ _ _ _ h;simp only[exec,h1];cases x with
   | normal=>exact⟨_,_,_,rfl,h2⟩
   | ret=>exact⟨_,_,_,rfl,h2⟩
   | exit i =>
    dsimp only at h2 ⊢;by_cases hi:i=id
    ·rw[Ai hi];simp only[hi,decide_true,Am] at h2;exact⟨_,_,_,rfl,h2⟩
    ·rw[An hi];simp only[hi,decide_false,At] at h2;exact⟨_,_,_,rfl,h2⟩
  case loop b =>
   simp only[exec];show ∃ x S' H',(match (E.lo f ro (Ed b) (ES (E.live f (Ed b)) (Gs ro (E.Ke f (Ed b)) S H).1) (Gs ro (E.Ke f (Ed b)) S H).2).bind DT.run with | some r=>some r | none=>MH (exec P E.env n ro f b) (E.live f (Ed b)) ro n (Gs ro (E.Ke f (Ed b)) S H).1 (Gs ro (E.Ke f (Ed b)) S H).2)=some (x,S',H')/\_
   generalize Gs ro (E.Ke f (Ed b)) S H=SH at h ⊢;obtain⟨S0,H0⟩:=SH;dsimp only at h ⊢;split at h
   ·rename_i d hd;obtain⟨a,h1,h2⟩:=DT.Gg h;rw[hd];simp only[Bh,h1];exact⟨_,_,_,rfl,h2⟩
   ·rename_i hd;rw[hd];exact LW (fun S H k r h=>ih _ _ _ _ _ _ _ h) h
  case scope b=>exact ih _ _ _ _ _ _ _ h
  case exit id=>exact⟨_,_,_,rfl,h⟩
  case ret=>exact⟨_,_,_,rfl,h⟩
  case rangeFunc g ps He body =>
   split at h
   ·rename_i kf first cap hg
    simp only[exec];rw[show E.env.live=E.live from rfl,hg];obtain⟨p,H2,h1,h2⟩:=FZ ih h;simp only[h1];exact overK_some h2
   ·cases h
end

noncomputable def Dw (P:Program) (E:CO) (n:Nat) (f:FuncId) (args:List PV):Option PV:=
 Ds (EJ 0 args) (LU P (EU P E n) 0 f args [] fun p H'=>frzK H' 0 p fun q=>Ds (mlt 0 q) (some q))
noncomputable def runR (P:Program) (E:CO) (n:Nat) (ro:Nat) (f:FuncId) (args:List PV) (H:List Row):Option (PV × List Row):=
 LU P (EU P E n) ro f args H fun p H'=>some (p,H')
theorem runR_sound {P:Program} {E:CO} (hE:Ck P E.env) {n ro:Nat} {f:FuncId} {args:List PV} {H H':List Row} {p:PV} (h:runR P E n ro f args H=some (p,H')):CV P f/\ET P ro f args H p H':=by
 obtain⟨q,H1,h1,h2⟩:=Fl (Fa n) h;cases h2;refine⟨?_,fun C hH hro hR Vs hv => ?_⟩
 ·intro Vs w;unfold callX at h1;split at h1
  ·rename_i fn hfn;split at h1
   ·rename_i b hb;split at h1
    ·cases h1
    ·rename_i hn;simp[callFunc,hfn,hb];simpa using hn
   ·cases h1
  ·cases h1
 ·subst hH;exact (Fk hE (Ho hE n) hR hro hv h1).2
theorem Gi {P:Program} {ex:Ex} {ro:Nat} {f:FuncId} {args:List PV} {H H':List Row} {p:PV} (h1:callX P ex ro f args H=some (p,H')):CV P f:=by
 intro Vs w;unfold callX at h1;split at h1
 ·rename_i fn hfn;split at h1
  ·rename_i b hb;split at h1
   ·cases h1
   ·rename_i hn;simp[callFunc,hfn,hb];simpa using hn
  ·cases h1
 ·cases h1
theorem CK {P:Program} {E:CO} (hE:Ck P E.env) {n:Nat} {f:FuncId} {args:List PV} {p:PV} (h:Dw P E n f args=some p):CV P f/\Da P f args p:=by
 obtain⟨hm,h⟩:=CP h;obtain⟨q,H2,hI,h2⟩:=Fl (Fa n) h;obtain⟨hq,h2⟩:=CP (IV h2);cases h2;refine⟨Gi hI,fun C hR Vs hv => ?_⟩;have hRc:RH P (C.cut 0 True 0):=hR.cut (A4 _) (Ak _) (by simp[Dj]);have hvc:Cs P (C.cut 0 True 0) args Vs:=⟨hv.1,fun j c v h1 h2=>(hv.2 j c v h1 h2).cut (A4 _) (C5 hm h1)⟩;have g2:=(Fk hE (Ho hE n) (C:=C.cut 0 True 0) hRc rfl hvc hI).2;refine g2.mono ?_
 rintro e w' ⟨V,C',rfl,rfl,hc⟩
 refine⟨V,rfl,IL hc.ext,?_⟩;have hH2:=hc.H;subst hH2;have h1:=hc.rv.frz (ro:=C'.ro) hc.rh (A4 _) hq;have hx2:Ext (C.cut 0 True 0) (C'.cut 0 False C'.ro):=hc.ext.cut (A4 _) (A4 _) (A4 _);exact RV.back (Ci:=C'.cut 0 False C'.ro) (A4 _) hx2 h1 hq

def nrm:PV->PV
 | .val (.agg a)=>.agg (a.toList.map .val)
 | p=>p
theorem RV.nrm {P:Program} {C:Ctx} {p:PV} {V:Value} (h:RV P C p V):RV P C (nrm p) V:=by
 unfold Hx.nrm;split
 ·cases h;refine .agg (by simp) fun j c v h1 h2 => ?_
  simp only[Ao,Af] at h1;obtain⟨x,hx,rfl⟩:=h1;have:x=v:=Ah (hx.symm.trans (by rw[AI];exact h2));subst this;exact .val
 ·exact h
theorem Cs.nrm {P:Program} {C:Ctx} {ps:List PV} {Vs:Array Value} (h:Cs P C ps Vs):Cs P C (ps.map Hx.nrm) Vs:=by
 refine⟨by simpa using h.1,fun j c v h1 h2 => ?_⟩;simp only[Ao,Af] at h1;obtain⟨x,hx,rfl⟩:=h1;exact (h.2 j x v hx h2).nrm

def CO.EC (E:CO) (k:FuncId) (c:List PV->Option PV):CO:={ E with Ff:=fun f a=>if f=k then c (a.map nrm) else E.Ff f a }
def CO.addC (E:CO) (k:FuncId) (c:Nat->List PV->List Row->Option (DT (PV × List Row))):CO:={ E with Gq:=fun ro f a H=>if f=k then c ro a H else E.Gq ro f a H }
def CO.G3 (E:CO) (k:FuncId) (i:Nat) (l:List (Tmp × TypeId × Nat)):CO:={ E with Ke:=fun f j=>if f=k then (if j=i then l else E.Ke f j) else E.Ke f j }
def CO.FN (E:CO) (k:FuncId):CO:={ E with JU:=fun f=>if f=k then true else E.JU f }

def CO.Gj (E:CO) (k:FuncId) (i h:Nat):CO:={ E with drop:=fun f j=>if f=k then (if j=i then some (h,false) else E.drop f j) else E.drop f j }
def CO.LX (E:CO) (k:FuncId) (i:Nat) (ks:List Nat):CO:={ E with fgt:=fun f j=>if f=k then (if j=i then ks else E.fgt f j) else E.fgt f j }
def CO.Hq (E:CO) (k:FuncId) (i h:Nat):CO:={ E with drop:=fun f j=>if f=k then (if j=i then some (h,true) else E.drop f j) else E.drop f j }

theorem FV.mono {P:Program} {E E':Env} {f:FuncId} (h:∀ ro i S H x S' H',E'.lo f ro i S H=some (x,S',H')->E.lo f ro i S H=some (x,S',H')):∀ {c:Code},FV P E f c->FV P E' f c
 | .seq a b,hc=>⟨FV.mono h (c:=a) hc.1,FV.mono h (c:=b) hc.2⟩
 | .cond _ x y,hc=>⟨FV.mono h (c:=x) hc.1,FV.mono h (c:=y) hc.2⟩
 | .block _ b,hc=>FV.mono h (c:=b) hc
 | .scope b,hc=>FV.mono h (c:=b) hc
 | .loop b,hc=>⟨fun ro S H x S' H' g=>hc.1 ro S H x S' H' (h _ _ _ _ _ _ _ g),FV.mono h (c:=b) hc.2⟩
 | .rangeFunc _ _ a b,hc=>⟨FV.mono h (c:=a) hc.1,FV.mono h (c:=b) hc.2⟩
 | .skip,_ | .label _,_ | .region _ _ _,_ | .exit _,_ | .ret,_ | .goto _,_ | .refuse _,_=>trivial

theorem Fm {P:Program}:Ck P ({}:CO).env where
 EP:=fun _ _ _ _ _ _ h=>by cases h
 Ec:=fun _ _ _ _ _ _ h=>by cases h
 F9:=fun _ _ _ _ h=>by cases h
 Ev:=fun _ _ _ _ _ _ _ _ h=>by cases h
 G2:=fun _ _ _ h=>by cases h
 Gq:=fun _ _ _ _ _ _ h=>by cases h
 Ff:=fun _ _ _ h=>by cases h
 lo:=fun k fn b _ _=>by
  have:∀ c:Code,FV P ({}:CO).env k c:=by
   intro c;induction c with
   | seq a b iha ihb=>exact⟨iha,ihb⟩
   | cond c x y ihx ihy=>exact⟨ihx,ihy⟩
   | block i b ih=>exact ih
   | scope b ih=>exact ih
   | loop b ih=>exact⟨fun _ _ _ _ _ _ h=>(by cases h),ih⟩
   | rangeFunc g ps a b iha ihb=>exact⟨iha,ihb⟩
   | _=>trivial
  exact this b
theorem ora_addO {E:CO} {k:FuncId} {c:List PV->Option PV} {f:FuncId} {a:List PV} {r:PV} (h:(E.EC k c).env.Ff f a=some r):(f=k/\c (a.map nrm)=some r)\/E.env.Ff f a=some r:=by
 change (match E.orD f a with | some d=>d.run | none=>if f=k then c (a.map nrm) else E.Ff f a)=some r at h
 split at h
 ·rename_i d hd;exact .inr (ora_orD hd h)
 ·rename_i hd;split at h
  ·rename_i e;exact .inl ⟨e,h⟩
  ·exact .inr (ora_of hd h)
theorem Ck.EC {P:Program} {E:CO} (hE:Ck P E.env) {k:FuncId} {c:List PV->Option PV} (hc:∀ args r,c args=some r->CV P k/\Da P k args r):Ck P (E.EC k c).env where
 EP:=hE.EP
 Ec:=hE.Ec
 F9:=hE.F9
 Ev:=hE.Ev
 G2:=fun f a r h=>by
  rcases ora_addO h with ⟨e,g⟩ | h
  ·subst e;exact (hc _ _ g).1
  ·exact hE.G2 f a r h
 Gq:=hE.Gq
 Ff:=fun f a r h=>by
  rcases ora_addO h with ⟨e,g⟩ | h
  ·subst e;exact fun C hR Vs hv=>(hc _ _ g).2 C hR Vs hv.nrm
  ·exact hE.Ff f a r h
 lo:=fun f fn b h1 h2=>FV.mono (E:=E.env) (E':=(E.EC k c).env) (fun _ _ _ _ _ _ _ h=>h) (hE.lo f fn b h1 h2)
def CO.DF (E:CO) (k:FuncId) (c:List PV->Option (DT PV)):CO:={ E with orD:=fun f a=>if f=k then (match c (a.map nrm) with | some d=>some d | none=>E.orD f a) else E.orD f a }
theorem ora_addF {E:CO} {k:FuncId} {c:List PV->Option (DT PV)} {f:FuncId} {a:List PV} {r:PV} (h:(E.DF k c).env.Ff f a=some r):(f=k/\∃ d,c (a.map nrm)=some d/\d.run=some r)\/E.env.Ff f a=some r:=by
 change (match (if f=k then (match c (a.map nrm) with | some d=>some d | none=>E.orD f a) else E.orD f a) with | some d=>d.run | none=>E.Ff f a)=some r at h
 by_cases e:f=k
 ·rw[Ai e] at h;cases hc:c (a.map nrm) with
  | some d=>rw[hc] at h;exact .inl ⟨e,d,rfl,h⟩
  | none=>rw[hc] at h;exact .inr h
 ·rw[An e] at h;exact .inr h
theorem Ck.DF {P:Program} {E:CO} (hE:Ck P E.env) {k:FuncId} {c:List PV->Option (DT PV)} (hent:CV P k) (hc:∀ args d r,c args=some d->d.run=some r->Da P k args r):Ck P (E.DF k c).env where
 EP:=hE.EP
 Ec:=hE.Ec
 F9:=hE.F9
 Ev:=hE.Ev
 G2:=fun f a r h=>by
  rcases ora_addF h with ⟨e,_⟩ | h
  ·subst e;exact hent
  ·exact hE.G2 f a r h
 Gq:=hE.Gq
 Ff:=fun f a r h=>by
  rcases ora_addF h with ⟨e,d,h1,h2⟩ | h
  ·subst e;exact fun C hR Vs hv=>hc _ _ _ h1 h2 C hR Vs hv.nrm
  ·exact hE.Ff f a r h
 lo:=fun f fn b h1 h2=>FV.mono (E:=E.env) (E':=(E.DF k c).env) (fun _ _ _ _ _ _ _ h=>h) (hE.lo f fn b h1 h2)
theorem Ck.addC {P:Program} {E:CO} (hE:Ck P E.env) {k:FuncId} {c:Nat->List PV->List Row->Option (DT (PV × List Row))} (hent:CV P k)
  (hc:∀ ro args H d p H',c ro args H=some d->d.run=some (p,H')->ET P ro k args H p H'):Ck P (E.addC k c).env where
 EP:=hE.EP
 Ec:=hE.Ec
 F9:=hE.F9
 Ev:=hE.Ev
 G2:=hE.G2
 Gq:=fun ro f a H p H' h=>by
  change (if f=k then c ro a H else E.Gq ro f a H).bind DT.run=some (p,H') at h
  split at h
  ·rename_i e;subst e;obtain⟨d,h1,h2⟩:=AE.1 h;exact⟨hent,hc _ _ _ _ _ _ h1 h2⟩
  ·exact hE.Gq ro f a H p H' h
 Ff:=hE.Ff
 lo:=fun f fn b h1 h2=>FV.mono (E:=E.env) (E':=(E.addC k c).env) (fun _ _ _ _ _ _ _ h=>h) (hE.lo f fn b h1 h2)
def loops:Code->List Code
 | .seq a b=>loops a++loops b
 | .cond _ x y=>loops x++loops y
 | .block _ b=>loops b
 | .scope b=>loops b
 | .loop b=>b::loops b
 | .rangeFunc _ _ a b=>loops a++loops b
 | _=>[]
theorem FV.of {P:Program} {E:Env} {f:FuncId}:∀ {c:Code},(∀ b,b ∈ loops c->Gu (.loop b) c->∀ ro S H x S' H',E.lo f ro (Ed b) S H=some (x,S',H')->Eu P (.loop b) ro S H x S' H')->FV P E f c
 | .seq a b,h=>⟨FV.of (c:=a) fun b hb hs=>h b (by simp[loops,hb]) (.seq1 hs),FV.of (c:=b) fun b hb hs=>h b (by simp[loops,hb]) (.seq2 hs)⟩
 | .cond _ a b,h=>⟨FV.of (c:=a) fun b hb hs=>h b (by simp[loops,hb]) (.cond1 hs),FV.of (c:=b) fun b hb hs=>h b (by simp[loops,hb]) (.cond2 hs)⟩
 | .block _ b,h=>FV.of (c:=b) fun b hb hs=>h b (by simpa [loops] using hb) (.block hs)
 | .scope b,h=>FV.of (c:=b) fun b hb hs=>h b (by simpa [loops] using hb) (.scope hs)
 | .loop b,h=>⟨h b (by simp[loops]) .here,FV.of (c:=b) fun b hb hs=>h b (by simp[loops,hb]) (.loop hs)⟩
 | .rangeFunc _ _ a b,h=>⟨FV.of (c:=a) fun b hb hs=>h b (by simp[loops,hb]) (.range1 hs),FV.of (c:=b) fun b hb hs=>h b (by simp[loops,hb]) (.range2 hs)⟩
 | .skip,_ | .label _,_ | .region _ _ _,_ | .exit _,_ | .ret,_ | .goto _,_ | .refuse _,_=>trivial
theorem Ck.G3 {P:Program} {E:CO} (hE:Ck P E.env) (k:FuncId) (i:Nat) (l:List (Tmp × TypeId × Nat)):Ck P (E.G3 k i l).env where
 EP:=hE.EP
 Ec:=hE.Ec
 F9:=hE.F9
 Ev:=hE.Ev
 G2:=hE.G2
 Gq:=hE.Gq
 Ff:=hE.Ff
 lo:=fun f fn b h1 h2=>FV.mono (E:=E.env) (E':=(E.G3 k i l).env) (fun _ _ _ _ _ _ _ h=>h) (hE.lo f fn b h1 h2)
theorem Ck.FN {P:Program} {E:CO} (hE:Ck P E.env) (k:FuncId):Ck P (E.FN k).env where
 EP:=hE.EP
 Ec:=hE.Ec
 F9:=hE.F9
 Ev:=hE.Ev
 G2:=hE.G2
 Gq:=hE.Gq
 Ff:=hE.Ff
 lo:=fun f fn b h1 h2=>FV.mono (E:=E.env) (E':=(E.FN k).env) (fun _ _ _ _ _ _ _ h=>h) (hE.lo f fn b h1 h2)
theorem Ck.Gj {P:Program} {E:CO} (hE:Ck P E.env) (k:FuncId) (i h:Nat):Ck P (E.Gj k i h).env where
 EP:=hE.EP
 Ec:=hE.Ec
 F9:=hE.F9
 Ev:=hE.Ev
 G2:=hE.G2
 Gq:=hE.Gq
 Ff:=hE.Ff
 lo:=fun f fn b h1 h2=>FV.mono (E:=E.env) (E':=(E.Gj k i h).env) (fun _ _ _ _ _ _ _ h=>h) (hE.lo f fn b h1 h2)
def CO.D6 (E:CO) (k:FuncId) (i:Nat):CO:={ E with chain:=fun f j=>if f=k then (if j=i then true else E.chain f j) else E.chain f j }
theorem Ck.D6 {P:Program} {E:CO} (hE:Ck P E.env) (k:FuncId) (i:Nat):Ck P (E.D6 k i).env where
 EP:=hE.EP
 Ec:=hE.Ec
 F9:=hE.F9
 Ev:=hE.Ev
 G2:=hE.G2
 Gq:=hE.Gq
 Ff:=hE.Ff
 lo:=fun f fn b h1 h2=>FV.mono (E:=E.env) (E':=(E.D6 k i).env) (fun _ _ _ _ _ _ _ h=>h) (hE.lo f fn b h1 h2)
theorem Ck.Hq {P:Program} {E:CO} (hE:Ck P E.env) (k:FuncId) (i h:Nat):Ck P (E.Hq k i h).env where
 EP:=hE.EP
 Ec:=hE.Ec
 F9:=hE.F9
 Ev:=hE.Ev
 G2:=hE.G2
 Gq:=hE.Gq
 Ff:=hE.Ff
 lo:=fun f fn b h1 h2=>FV.mono (E:=E.env) (E':=(E.Hq k i h).env) (fun _ _ _ _ _ _ _ h=>h) (hE.lo f fn b h1 h2)
theorem Ck.LX {P:Program} {E:CO} (hE:Ck P E.env) (k:FuncId) (i:Nat) (ks:List Nat):Ck P (E.LX k i ks).env where
 EP:=hE.EP
 Ec:=hE.Ec
 F9:=hE.F9
 Ev:=hE.Ev
 G2:=hE.G2
 Gq:=hE.Gq
 Ff:=hE.Ff
 lo:=fun f fn b h1 h2=>FV.mono (E:=E.env) (E':=(E.LX k i ks).env) (fun _ _ _ _ _ _ _ h=>h) (hE.lo f fn b h1 h2)

def DT.map {α β:Type} (g:α->β):DT α->DT β
 | .leaf a=>.leaf (g a)
 | .no=>.no
 | .br b x y=>.br b (x.map g) (y.map g)
theorem DT.run_map {α β:Type} {g:α->β} {r:β}:∀ {d:DT α},(d.map g).run=some r->∃ a,d.run=some a/\g a=r
 | .leaf a,h=>⟨a,rfl,Ah h⟩
 | .no,h=>by cases h
 | .br b x y,h=>by
  cases b
  ·exact DT.run_map (d:=y) h
  ·exact DT.run_map (d:=x) h
inductive Lf where
 | i (n:Int) | b (b:Bool) | n (n:Nat) | l (f:Bool) (es:List PV) | t (s:ByteArray)
inductive CS where
 | int (k:IntKind) | bool | CQ (t:TypeId) | str
def CS.get:CS->PV->Option Lf
 | .int k,.val (.int k' n)=>if k==k' then some (.i n) else none
 | .bool,.val (.bool v)=>some (.b v)
 | .CQ t,.CQ f t' es=>if t==t' then some (.l f es) else none
 | .str,.val (.string s)=>some (.t s)
 | _,_=>none
def getCs:List CS->List PV->Option (List Lf)
 | [],[]=>some []
 | c::cs,p::ps=>match c.get p,getCs cs ps with | some x,some xs=>some (x::xs) | _,_=>none
 | _,_=>none
inductive Sh where
 | any | cell (c:CS) | agg (cs:List CS) | ptr (i n k j:Nat) | sl (i:Nat) | nil
def Sh.get:Sh->PV->Option (List Lf)
 | .any,.any=>some []
 | .cell c,p=>(c.get p).map fun x=>[x]
 | .agg cs,.agg ps=>getCs cs ps
 | .ptr i n k j,.ptr i' n' k' j'=>if i==i'&&n==n'&&k==k'&&j==j' then some [] else none
 | .sl i,.sl i' n k l=>if i==i'&&k==0 then some [.n n,.n l] else none
 | .nil,.val (.slice none 0 0)=>some []
 | _,_=>none
inductive RS where
 | one (t s:Nat) (h:Sh) | many (t s:Nat) | dead
def Jo (r:Row) (t s:Nat):Bool:=r.t==t&&r.s==s&&r.bv&&r.live&&r.lp.isNone && !r.fz
def RS.get:RS->Row->Option (List Lf)
 | .one t s h,r=>if Jo r t s && !r.nl then (match r.es with | [e]=>h.get e | _=>none) else none
 | .many t s,r=>if Jo r t s then some [.l r.nl r.es] else none
 | .dead,_=>none
theorem LY {r:Row} {t s:Nat} (h:Jo r t s=true):r={ es:=r.es,s,t,bv:=true,nl:=r.nl }:=by
 simp only[Jo,Aa,Aw,A7,Al] at h;obtain⟨⟨⟨⟨⟨h1,h2⟩,h3⟩,h4⟩,h5⟩,h6⟩:=h;cases r;simp_all
def It (shs:List (Nat × Sh)):Nat->Nat->List PV->Option (List Lf)
 | 0,_,[]=>some []
 | n+1,x,p::S =>
  match ((shs.lookup x).getD .any).get p,It shs n (x+1) S with
  | some a,some b=>some (a++b)
  | _,_=>none
 | _,_,_=>none
def getH:List RS->List Row->Option (List Lf)
 | [],[]=>some []
 | s::ss,r::H=>match s.get r,getH ss H with | some a,some b=>some (a++b) | _,_=>none
 | _,_=>none
structure St where
 n:Nat
 S:List (Nat × Sh)
 H:List RS
def St.get (s:St) (S:List PV) (H:List Row):Option (List Lf × List Lf):=
 match It s.S s.n 0 S,getH s.H H with | some a,some b=>some (a,b) | _,_=>none
def tm (n:Nat) (l:List (Nat × PV)):List PV:=(List.range n).map fun x=>(l.lookup x).getD .any
abbrev r1 (t s:Nat) (e:PV):Row:={ es:=[e],s,t,bv:=true }
abbrev rN (t s:Nat) (nl:Bool) (es:List PV):Row:={ es,s,t,bv:=true,nl }

def Iy (r:Row):Row:=match r.live with | true=>{ r with es:=r.es.map nrm } | false=>r
def nrmH (H:List Row):List Row:=H.map Iy
theorem nrm_cells (p:PV):(nrm p).cells=p.cells:=by
 unfold nrm;split
 ·rfl
 ·rfl
theorem nrmRow_live (r:Row):(Iy r).live=r.live:=by unfold Iy;split <;> simp_all
theorem nrmRow_shp (r:Row):ShpR r (Iy r):=by unfold Iy;split <;> simp[ShpR]
theorem RB.nrm {P:Program} {C:Ctx} {b:Nat} {r:Row} (h:RB P C b r):RB P C b (Iy r):=by
 unfold Iy;split
 ·obtain⟨c,fr,cv,m1,m2,m3,m4⟩:=h.mem;refine⟨h.sz,⟨c,fr,cv,m1,m2,by simpa using m3,fun k e j p hk hj => ?_⟩,fun e he => ?_,fun hb e he => ?_⟩
  ·simp only[Ao,Af] at hk;obtain⟨e0,hk0,rfl⟩:=hk;rw[nrm_cells] at hj;exact m4 k e0 j p hk0 hj
  ·simp only[AW] at he;obtain⟨e0,he0,rfl⟩:=he;rw[nrm_cells];exact h.len e0 he0
  ·simp only[AW] at he;obtain⟨e0,he0,rfl⟩:=he;have:=h.typed hb e0 he0;simp only[wt,nrm_cells] at this ⊢;exact this
 ·exact h
theorem Ext.shp0 {C C1 C':Ctx} (h:Shp C C1) (hro:C.ro=0) (hx:Ext C1 C'):Ext C C':=by
 have own:∀ b,C1.own b->C.own b:=by
  rintro b ⟨i,hi,hb⟩
  exact⟨i,by rw[<- h.ro];exact hi,by rw[<- h.ρ];exact hb⟩
 have own':∀ b,C.own b->C1.own b:=by
  rintro b ⟨i,hi,hb⟩
  exact⟨i,by rw[h.ro];exact hi,by rw[h.ρ];exact hb⟩
 refine⟨by rw[hx.os,h.w],by rw[hx.tape,h.w],by rw[hx.output,h.w],by rw[<- h.w];exact hx.size,fun b hb ho=>by rw[<- h.w] at hb ⊢;exact hx.block b hb fun hh=>ho (own b hh),fun b c e fr hb=>hx.shape b c e fr (by rw[h.w];exact hb),by rw[<- h.len];exact hx.len,
  fun i r' hi hr => ?_,fun b hb => ?_,fun b hb => ?_,by rw[hx.fo,h.fo],by rw[hx.ro,h.ro],fun i hi=>(by rw[hro] at hi;cases hi),fun i r info h1 h2 h3 => ?_,fun b rec hb=>hx.loop b rec (by rw[h.w];exact hb)⟩
 ·obtain⟨r1,a1,a2,a3,a4,a5⟩:=hx.rows i r' (by rw[h.len];exact hi) hr;obtain⟨r,b1,c1,c2,c3,c4⟩:=h.row i r1 a1;exact⟨r,b1,c1.trans a2,c4.trans a3,by omega,fun e=>⟨c3.trans (a5 (by omega)).1,fun b hb=>(a5 (by omega)).2 b (by rw[h.ρ];exact hb)⟩⟩
 ·rcases hx.fresh b hb with ⟨i,hi⟩ | hs
  ·exact .inl ⟨i,by rw[<- h.ρ];exact hi⟩
  ·exact .inr (by rw[<- h.w];exact hs)
 ·rcases hx.DJ b hb with ho | hs
  ·exact .inl (own b ho)
  ·exact .inr (by rw[<- h.w];exact hs)
 ·obtain⟨g1,g2⟩:=hx.lp i r info (h.lp i r h1 h3) h2 h3;exact⟨g1,fun b hb=>g2 b (by rw[h.ρ];exact hb)⟩
def byShape (s:St) (f:List Lf->List Lf->Option (DT (PX × List PV × List Row))) (ro:Nat) (S:List PV) (H:List Row):Option (DT (PX × List PV × List Row)):=
 match ro with
 | 0=>match s.get S (nrmH H) with | some x=>f x.1 x.2 | none=>none
 | _+1=>none

theorem rounds_of {P:Program} {b:Code} {ro:Nat} {x:PX} {S':List PV} {H':List Row} (hx:x ≠ .normal):∀ (n:Nat) (Sf:Nat->List PV) (Hf:Nat->List Row),(∀ k,k<n->Eu P b ro (Sf k) (Hf k) .normal (Sf (k+1)) (Hf (k+1)))->Eu P b ro (Sf n) (Hf n) x S' H' ->
  ∀ (r:Option Nat) (C:Ctx) (a:Act),C.H=Hf 0->C.ro=ro->RH P C->Fv P C (Sf 0) a.tmps->Fg r C.w->∀ Q:Exit->Act->World->Prop,
   (∀ (a':Act) (C':Ctx),K7 C.w a C'.w a'->C'.H=H'->Ext C C'->RH P C'->Fv P C' S' a'.tmps->Q (XOut x) a' C'.w)->Code.roundsIn (Fr r) 0 P b Q (n+1) a C.w
 | 0,Sf,Hf,_,hl=>by
  intro r C a hH hro hR hs hro2 Q hQ;rw[roundsIn_succ];refine hl r C a hH hro hR hs hro2 _ fun a' C' hd hH' hxt hR' hs' => ?_
  have hq:=hQ a' C' hd hH' hxt hR' hs';cases x with
  | normal=>exact absurd rfl hx
  | exit id=>exact hq
  | ret=>exact hq
 | n+1,Sf,Hf,h,hl=>by
  intro r C a hH hro hR hs hro2 Q hQ;rw[roundsIn_succ];refine h 0 (by omega) r C a hH hro hR hs hro2 _ fun a' C' hd hH' hxt hR' hs' => ?_
  show Code.roundsIn (Fr r) 0 P b Q (n+1) a' C'.w
  exact rounds_of hx n (fun k=>Sf (k+1)) (fun k=>Hf (k+1)) (fun k hk=>h (k+1) (by omega)) hl r C' a' hH' (by rw[hxt.ro];exact hro) hR' hs' (hro2.mono hxt) Q fun a2 C2 hd2 hH2 hx2 hR2 hs2=>hQ a2 C2 (hd.trans hxt.size hR' hx2 hd2) hH2 (hxt.trans hx2) hR2 hs2
theorem loop_of {P:Program} {b:Code} {ro:Nat} {x:PX} {S':List PV} {H':List Row} (hx:x ≠ .normal) (n:Nat) (Sf:Nat->List PV) (Hf:Nat->List Row) (h:∀ k,k<n->Eu P b ro (Sf k) (Hf k) .normal (Sf (k+1)) (Hf (k+1))) (hl:Eu P b ro (Sf n) (Hf n) x S' H'):
  Eu P (.loop b) ro (Sf 0) (Hf 0) x S' H':=
 fun r C a hH hro hR hs hro2 Q hQ=>wpIn_loop_rounds (n+1) (rounds_of hx n Sf Hf h hl r C a hH hro hR hs hro2 Q hQ)
theorem loop_go {P:Program} {b:Code} {ro:Nat} {x:PX} {S S1 S':List PV} {H H1 H':List Row} (h:Eu P b ro S H .normal S1 H1) (k:∃ n,∃ Sf:Nat->List PV,∃ Hf:Nat->List Row,Sf 0=S1/\Hf 0=H1/\(∀ k,k<n->Eu P b ro (Sf k) (Hf k) .normal (Sf (k+1)) (Hf (k+1)))/\Eu P b ro (Sf n) (Hf n) x S' H'):
  ∃ n,∃ Sf:Nat->List PV,∃ Hf:Nat->List Row,Sf 0=S/\Hf 0=H/\(∀ k,k<n->Eu P b ro (Sf k) (Hf k) .normal (Sf (k+1)) (Hf (k+1)))/\Eu P b ro (Sf n) (Hf n) x S' H':=by
 obtain⟨n,Sf,Hf,e1,e2,g1,g2⟩:=k;refine⟨n+1,fun k=>match k with | 0=>S | k+1=>Sf k,fun k=>match k with | 0=>H | k+1=>Hf k,rfl,rfl,fun k hk => ?_,g2⟩
 match k with
 | 0=>show Eu P b ro S H .normal (Sf 0) (Hf 0);rw[e1,e2];exact h
 | k+1=>exact g1 k (by omega)
inductive Rnds (P:Program) (b:Code) (ro:Nat) (x:PX) (S':List PV) (H':List Row):List PV->List Row->Prop
 | stop {S:List PV} {H:List Row} (h:Eu P b ro S H x S' H'):Rnds P b ro x S' H' S H
 | go {S S1:List PV} {H H1:List Row} (h:Eu P b ro S H .normal S1 H1) (k:Rnds P b ro x S' H' S1 H1):Rnds P b ro x S' H' S H
theorem Rnds.loop {P:Program} {b:Code} {ro:Nat} {x:PX} {S S':List PV} {H H':List Row} (hx:x ≠ .normal) (h:Rnds P b ro x S' H' S H):Eu P (.loop b) ro S H x S' H':=by
 have:∃ n,∃ Sf:Nat->List PV,∃ Hf:Nat->List Row,Sf 0=S/\Hf 0=H/\(∀ k,k<n->Eu P b ro (Sf k) (Hf k) .normal (Sf (k+1)) (Hf (k+1)))/\Eu P b ro (Sf n) (Hf n) x S' H':=by
  induction h with
  | stop h=>exact⟨0,fun _=>_,fun _=>_,rfl,rfl,fun k hk=>by omega,h⟩
  | go h _ ih=>exact loop_go h ih
 obtain⟨n,Sf,Hf,rfl,rfl,g1,g2⟩:=this;exact loop_of hx n Sf Hf g1 g2

theorem trimF_sound {P:Program} {C:Ctx} (hR:RH P C) {S:List PV} {t:Array Value} {h ro:Nat} (hh:h<=C.H.length) (hs:Fv P C S t):Fv P (C.cut h False ro) (HP h (GR C.H h S)) t:=by
 refine⟨by simp[HP,GS];exact hs.1,fun i p v h1 h2 => ?_⟩;simp only[HP,Ao,Af] at h1;obtain⟨q,hq,rfl⟩:=h1;rw[Kb] at hq;obtain⟨q0,hq0,rfl⟩:=Af.1 hq;split
 ·rename_i hm;exact (hs.2 i q0 v hq0 h2).frz hR hh hm
 ·exact .any
noncomputable def CR (P:Program) (E:CO) (n:Nat) (f:FuncId) (b:Code) (l l':List Tmp) (S:List PV) (H:List Row):Option (PX × List PV × List Row):=
 EU P E n 0 f b S H fun x S1 H1 =>
  Ds (decide (H.length<=H1.length)&&Dj H.length (H1.take H.length))
   (match x with
   | .normal=>Lv H1 H.length (ES (some l) S1) fun S2=>some (.normal,HP H.length S2,H1.take H.length)
   | .exit i=>Lv H1 H.length (ES (some l') S1) fun S2=>some (.exit i,HP H.length S2,H1.take H.length)
   | .ret=>Lv H1 H.length (ES (some l') S1) fun S2=>some (.ret,HP H.length S2,H1.take H.length))
theorem Jp {P:Program} {E:CO} (hE:Ck P E.env) {n:Nat} {f:FuncId} {b:Code} {l l':List Tmp} {S S':List PV} {H H':List Row} {x:PX} (hb:D9 P f b) (h:CR P E n f b l l' S H=some (x,S',H')):Eu P b 0 S H x S' H':=by
 obtain⟨x1,S1,H1,h1,h2⟩:=Fa n _ _ _ _ _ _ _ h;obtain⟨h3,h4⟩:=CP h2;simp only[Aa,Ab] at h3;have hw:=Ho hE n _ _ _ _ _ _ _ _ h1 hb;have key:∀ L:List Tmp,S'=HP H.length (GR H1 H.length (ES (some L) S1))->H'=H1.take H.length->Eu P b 0 S H x1 S' H':=by
  rintro L rfl rfl
  intro r C a hH hro hR hs hro2 Q hQ;refine hw r C a hH hro hR hs hro2 Q fun a' C' hd hH' hxt hR' hs' => ?_
  subst hH;subst hH';exact hQ a' (C'.cut C.H.length False C'.ro) hd rfl (hxt.cut (Ak _) h3.1 hR.ro) (hR'.cut h3.1 (by rw[hxt.ro];exact hR.ro) h3.2) (trimF_sound hR' h3.1 (Ei (some L) hs'))
 cases x1 with
 | normal=>cases EW h4;exact key l rfl rfl
 | exit i=>cases EW h4;exact key l' rfl rfl
 | ret=>cases EW h4;exact key l' rfl rfl
noncomputable def DL (fn:Func):Code:=fn.body.getD .skip
noncomputable def CZ (fn:Func) (i:Nat):Code:=((loops (DL fn)).filter fun b=>Ed b==i).headD .skip
theorem DI {α:Type} {b:Bool} {a r:α} (h:(DT.br b (.leaf a) .no).run=some r):b=true/\a=r:=by
 cases b
 ·cases h
 ·exact⟨rfl,Ah h⟩
abbrev i64:Sh:=.cell (.int .i64)
def Lx (b:Bool) (r:Row):Row:=match b with | true=>Iy r | false=>r
def La (sel:List Bool) (H:List Row):List Row:=H.zipIdx.map fun x=>Lx (sel.getD x.2 false) x.1
theorem nrmA_get (sel:List Bool) (H:List Row) (i:Nat):(La sel H)[i]? = H[i]?.map (Lx (sel.getD i false)):=by
 simp only[La,Ao,Br,AN,B7];congr 1
theorem nrmIf_live (b:Bool) (r:Row):(Lx b r).live=r.live:=by cases b <;> simp[Lx,nrmRow_live]
theorem nrmIf_shp (b:Bool) (r:Row):ShpR r (Lx b r):=by
 cases b
 ·exact⟨rfl,rfl,rfl,rfl⟩
 ·exact nrmRow_shp r
theorem nrmIf_dead {b:Bool} {r:Row} (h:r.live=false):Lx b r=r:=by
 cases b
 ·rfl
 ·show Iy r=r
  unfold Iy;rw[h]
theorem nrmA_row {C:Ctx} (sel:List Bool) (i:Nat):({ C with H:=La sel C.H }:Ctx).row? i=(C.row? i).map (Lx (sel.getD i false)):=by
 show rowAt (La sel C.H) i=(rowAt C.H i).map _
 unfold rowAt;rw[nrmA_get];cases C.H[i]? with
 | none=>rfl
 | some r =>
  show (if (Lx _ r).live=true then some (Lx _ r) else none)=Option.map _ (if r.live=true then some r else none)
  rw[nrmIf_live];by_cases hl:r.live=true
  ·rw[Ai hl,Ai hl];rfl
  ·rw[An hl,An hl];rfl
theorem MV (sel:List Bool) (C:Ctx):Shp C { C with H:=La sel C.H }:=by
 refine⟨rfl,rfl,rfl,rfl,by simp[La],fun i r' hr => ?_,fun i r hr => ?_,fun i r hr hl => ?_,fun i r hr hl => ?_⟩
 ·rw[nrmA_row] at hr;obtain⟨r,a,rfl⟩:=Af.1 hr;exact⟨r,a,nrmIf_shp _ r⟩
 ·exact⟨_,by rw[nrmA_row,hr];rfl,nrmIf_shp _ r⟩
 ·show (La sel C.H)[i]? = _
  rw[nrmA_get,hr,AH,nrmIf_dead hl]
 ·have hr':(La sel C.H)[i]? = some r:=hr;rw[nrmA_get] at hr';obtain⟨q,a,b⟩:=Af.1 hr';have:q.live=false:=by rw[<- nrmIf_live (sel.getD i false),b];exact hl
  rw[nrmIf_dead this] at b;rw[a];exact congrArg some b
theorem wpTo_nrmA {P:Program} {c:Code} (sel:List Bool) {S S':List PV} {H H':List Row} {x:PX} (h:Eu P c 0 S (La sel H) x S' H'):Eu P c 0 S H x S' H':=by
 intro r C a hH hro hR hs hro2 Q hQ;subst hH;have hR1:RH P { C with H:=La sel C.H }:=hR.shp (MV sel C) fun i b q h1 h2=>by
  rw[nrmA_row] at h2;obtain⟨q0,a0,rfl⟩:=Af.1 h2;have hB:=hR.Gv i b q0 h1 a0;have hB2:RB P C b (Lx (sel.getD i false) q0):=by
   cases sel.getD i false
   ·exact hB
   ·exact hB.nrm
  exact hB2.shp (MV sel C)
 exact h r { C with H:=La sel C.H } a rfl hro hR1 (hs.shp (MV sel C)) hro2 Q fun a' C' hd hH' hx hR' hs'=>hQ a' C' hd hH' (Ext.shp0 (MV sel C) hro hx) hR' hs'

def Jq {σ:Type} (sel:List Bool) (get:List PV->List Row->Option σ) (pre:σ->Bool) (fin:σ->DT (PX × List PV × List Row)):Nat->List PV->List Row->Option (DT (PX × List PV × List Row))
 | 0,S,H=>match get S (La sel H) with | some s=>some (.br (pre s) (fin s) .no) | none=>none
 | _+1,_,_=>none
theorem loopW {P:Program} {E:CO} (hE:Ck P E.env) {n:Nat} {f:FuncId} {b:Code} (l l':List Tmp) {σ:Type} {sel:List Bool} (emb:σ->List PV × List Row) {get:List PV->List Row->Option σ}
  (hget:∀ S H s,get S H=some s->S=(emb s).1/\H=(emb s).2) {pre:σ->Bool} (m:σ->Nat) {fin:σ->DT (PX × List PV × List Row)}
  (hstep:∀ s r,pre s=true->(fin s).run=some r->r.1 ≠ .normal/\(CR P E n f b l l' (emb s).1 (emb s).2=some r \/
   ∃ s',CR P E n f b l l' (emb s).1 (emb s).2=some (.normal,emb s')/\pre s'=true/\m s'<m s/\(fin s').run=some r)):
  D9 P f (.loop b)->∀ (ro:Nat) (S:List PV) (H:List Row) (d:DT (PX × List PV × List Row)) (x:PX) (S':List PV) (H':List Row),Jq sel get pre fin ro S H=some d->d.run=some (x,S',H')->Eu P (.loop b) ro S H x S' H':=by
 intro hsub ro S H d x S' H' hc hd;cases ro with
 | succ ro=>cases hc
 | zero =>
 change (match get S (La sel H) with | some s=>some (DT.br (pre s) (fin s) DT.no) | none=>none)=some d at hc
 split at hc
 ·rename_i s hs;obtain rfl:=Ah hc;obtain⟨e1,e2⟩:=hget _ _ _ hs;have hp:pre s=true/\(fin s).run=some (x,S',H'):=by
   change (match pre s with | true=>(fin s).run | false=>DT.no.run)=_ at hd
   cases hq:pre s with
   | true=>rw[hq] at hd;exact⟨rfl,hd⟩
   | false=>rw[hq] at hd;cases hd
  obtain⟨hp,hr⟩:=hp;clear hc hd hs;have hbody:=hsub.sub (.loop .here);refine wpTo_nrmA sel ?_;rw[e2,e1];clear e1 e2;have hx:=(hstep s _ hp hr).1;refine Rnds.loop hx ?_;generalize hm:m s=k;induction k using Nat.strongRecOn generalizing s with
  | _ k ih =>
   rcases (hstep s _ hp hr).2 with h1 | ⟨s',h1,h2,h3,h4⟩
   ·exact .stop (Jp hE hbody h1)
   ·exact .go (Jp hE hbody h1) (ih (m s') (by omega) s' h2 h4 rfl)
 ·cases hc

end Go.Hx
namespace Go.Hx
open Go.MapKept

def ceq:PV->PV->Bool
 | .val (.int _ a),.val (.int _ b)=>a==b
 | .val (.bool a),.val (.bool b)=>a==b
 | .val (.string a),.val (.string b)=>a.toList==b.toList
 | _,_=>false
def leqC:List PV->List PV->Bool
 | [],[]=>true
 | a::ags,b::bs=>ceq a b&&leqC ags bs
 | _,_=>false
def ID (a b:PV):Bool:=leqC a.cells b.cells
def DA:List (PV × PV)->PV->Bool
 | [],_=>false
 | (a,_)::D,k=>ID k a||DA D k
def EG (z:PV):List (PV × PV)->PV->PV
 | [],_=>z
 | (a,v)::D,k=>bif ID k a then v else EG z D k
def Ej:List (PV × PV)->PV->PV->List (PV × PV)
 | [],k,v=>[(k,v)]
 | (a,w)::D,k,v=>bif ID k a then (k,v)::D else (a,w)::Ej D k v
def GB:List (PV × PV)->PV->Option Nat
 | [],_=>none
 | (a,_)::D,k=>bif ID k a then some 0 else (GB D k).map (· + 1)

def sc:Value->Bool
 | .int _ _ | .bool _ | .string _=>true
 | _=>false
theorem wtc_cell {k:Kind} {p:PV} (h:JY k p=true) (hp:p.flat=true):∃ v,p=.val v/\sc v=true:=by
 unfold JY at h;split at h
 ·exact⟨_,rfl,rfl⟩
 ·exact⟨_,rfl,rfl⟩
 ·exact⟨_,rfl,rfl⟩
 ·simp[PV.flat] at hp
 ·cases h
theorem wtcs_cells:∀ {ks:List Kind} {ps:List PV},DD ks ps=true->(∀ p ∈ ps,p.flat=true)->∀ p ∈ ps,∃ v,p=.val v/\sc v=true
 | [],[],_,_,p,hp=>by cases hp
 | [],_::_,h,_,_,_=>by simp[DD] at h
 | _::_,[],h,_,_,_=>by simp[DD] at h
 | k::ks,q::ps,h,hf,p,hp=>by
  simp only[DD,Aa] at h;rcases AK.1 hp with rfl | hp
  ·exact wtc_cell h.1 (hf _ (AJ ..))
  ·exact wtcs_cells h.2 (fun x hx=>hf x (AU _ hx)) p hp
theorem mv_cells {P:Program} {T:TypeId} {p:PV} (h:Fs P T p=true):∀ c ∈ p.cells,∃ v,c=.val v/\sc v=true:=by
 simp only[Fs,wt,Aa,Aw] at h;obtain⟨⟨hf,hw,_⟩,_⟩:=h;refine wtcs_cells hw fun c hc => ?_
 unfold PV.cells at hc;split at hc
 ·simp only[PV.flat,Ap] at hf;have:=hf c hc;split at this
  ·rfl
  ·cases this
 ·obtain⟨x,_,rfl⟩:=AW.1 hc;rfl
 ·rw[AF] at hc;rw[hc];exact hf
theorem LZ {P:Program} {C:Ctx} {T:TypeId} {p:PV} {V:Value} (h:Fs P T p=true) (hv:RV P C p V):
  V.cells.toList.map PV.val=p.cells/\(if CX P T then V=.agg V.cells else V.cells = #[V])/\∀ v ∈ V.cells.toList,sc v=true:=by
 have hc:=mv_cells h;have hag:p.isAgg=CX P T:=by simp only[Fs,Aa,Aw] at h;exact h.2
 have hflat:=FL h;cases hv with
 | val =>
  cases V with
  | agg a =>
   have e:CX P T=true:=by rw[<- hag];rfl
   rw[Ai e];refine⟨by simp[Value.cells,PV.cells],rfl,fun v hv => ?_⟩;obtain⟨u,hu,hs⟩:=hc (.val v) (by simp only[PV.cells];exact AW.2 ⟨v,by simpa [Value.cells] using hv,rfl⟩);cases hu;exact hs
  | _ =>
   have e:CX P T=false:=by rw[<- hag];rfl
   rw[An (by simp[e])];refine⟨by simp[Value.cells,PV.cells],rfl,fun v hv => ?_⟩;obtain⟨u,hu,hs⟩:=hc _ (by simp only[PV.cells];exact AF.2 rfl);cases hu;simp only[Value.cells,AF] at hv;rw[hv];exact hs
 | agg hs hh =>
  rename_i cs a;have e:CX P T=true:=by rw[<- hag];rfl
  rw[Ai e];have key:∀ (j:Nat) v,a[j]? = some v->cs[j]? = some (.val v)/\sc v=true:=fun j v hv=>by
   have hj:j<cs.length:=by rw[<- hs];exact (Aq.1 hv).1
   have h1:cs[j]? = some cs[j]:=Ae hj;obtain⟨u,hu,hsc⟩:=hc cs[j] (by simp only[PV.cells];exact Bl hj);have:=hh j _ _ h1 hv;rw[hu] at this h1;cases this;exact⟨h1,hsc⟩
  refine⟨?_,rfl,fun v hv => ?_⟩
  ·simp only[Value.cells,PV.cells];refine Bc fun j => ?_
   rw[Ao,AI];cases hj:a[j]? with
   | none=>rw[Option.map_none,AD (by rw[<- hs];exact Array.getElem?_eq_none_iff.1 hj)]
   | some v=>rw[AH,(key j v hj).1]
  ·simp only[Value.cells] at hv;obtain⟨j,hj⟩:=Bb hv;exact (key j v (by rw[AI] at hj;exact hj)).2
 | _=>simp[PV.flat] at hflat
theorem mv_agg {P:Program} {C:Ctx} {T:TypeId} {p:PV} {V:Value} (h:Fs P T p=true) (hv:RV P C p V) (ha:CX P T=true):V.cells.toList.map PV.val=p.cells/\V=.agg V.cells:=by
 obtain⟨a1,a2,_⟩:=LZ h hv;rw[Ai ha] at a2;exact⟨a1,a2⟩
theorem mv_inj {P:Program} {C:Ctx} {T:TypeId} {p q:PV} {V U:Value} (h:Fs P T p=true) (k:Fs P T q=true) (hv:RV P C p V) (hu:RV P C q U) (e:p.cells=q.cells):V=U:=by
 obtain⟨a1,a2,_⟩:=LZ h hv;obtain⟨b1,b2,_⟩:=LZ k hu;have:V.cells.toList=U.cells.toList:=List.map_inj_right (fun x y hxy=>by cases hxy;rfl) |>.1 (a1.trans (e.trans b1.symm))
 have hc:V.cells=U.cells:=Bs this;by_cases hag:CX P T=true
 ·rw[Ai hag] at a2 b2;rw[a2,b2,hc]
 ·rw[An hag] at a2 b2;rw[a2,b2] at hc;simpa using hc
theorem ceq_eq {k:Kind} {a b:PV} (ha:JY k a=true) (hb:JY k b=true) (h:ceq a b=true):a=b:=by
 unfold ceq at h;split at h
 ·rename_i k1 x k2 y;unfold JY at ha hb;cases k <;> simp at ha hb
  subst ha;subst hb;simp only[Aw] at h;rw[h]
 ·simp only[Aw] at h;rw[h]
 ·rename_i x y;simp only[Aw] at h;rw[ByteArray.toList_eq,ByteArray.toList_eq] at h;rw[show x=y from ByteArray.ext (Bs h)]
 ·cases h
theorem leqC_eq:∀ {ks:List Kind} {ags bs:List PV},DD ks ags=true->DD ks bs=true->leqC ags bs=true->ags=bs
 | [],[],[],_,_,_=>rfl
 | [],_::_,_,h,_,_=>by simp[DD] at h
 | [],[],_::_,_,h,_=>by simp[DD] at h
 | _::_,[],_,h,_,_=>by simp[DD] at h
 | _::_,_::_,[],_,h,_=>by simp[DD] at h
 | k::ks,a::ags,b::bs,h1,h2,h3=>by
  simp only[DD,leqC,Aa] at h1 h2 h3;rw[ceq_eq h1.1 h2.1 h3.1,leqC_eq h1.2 h2.2 h3.2]
theorem mv_wt {P:Program} {T:TypeId} {p:PV} (h:Fs P T p=true):DD (kinds P T) p.cells=true/\(kinds P T).length=P.cellsOf T:=by
 simp only[Fs,wt,Aa,Aw] at h;exact h.1.2
theorem keq_eq {P:Program} {T:TypeId} {p q:PV} (h:Fs P T p=true) (k:Fs P T q=true) (e:ID p q=true):p.cells=q.cells:=leqC_eq (mv_wt h).1 (mv_wt k).1 e
theorem sameBits_sc {v:Value} (n:Nat) (h:sc v=true):Instr.sameBits n v v=true:=by
 cases v <;> simp[sc] at h <;> cases n <;> simp[Instr.sameBits,beq_toListBytes]
theorem run_stays {P:Program} {C:Ctx} {T:TypeId} {p:PV} {V:Value} (h:Fs P T p=true) (hv:RV P C p V) (w:World):(Instr.keyThatStays V V).run P w=.ok V w:=by
 obtain⟨a1,a2,a3⟩:=LZ h hv;have:Instr.sameBits 10000 V V=true:=by
  by_cases hag:CX P T=true
  ·rw[Ai hag] at a2;rw[a2];show ((V.cells.size==V.cells.size)&&(V.cells.toList.zip V.cells.toList).all fun x=>Instr.sameBits 9999 x.1 x.2)=true
   rw[Aa];refine⟨by simp,Ap.2 fun x hx => ?_⟩;rw[List.zip_eq_zipWith,List.zipWith_self] at hx;obtain⟨y,hy,rfl⟩:=AW.1 hx;exact sameBits_sc _ (a3 y hy)
  ·rw[An hag] at a2;exact sameBits_sc _ (a3 V (by rw[a2];simp))
 unfold Instr.keyThatStays;rw[Ai this];rfl

structure Gt (P:Program) (K:TypeId):Prop where
 check:∀ (C:Ctx) (p:PV) (V:Value),Fs P K p=true->RV P C p V->∀ (em:Bool) (w:World),(Instr.checkKey em 10000 K V).run P w=.ok () w
 find:∀ (C:Ctx) (p:PV) (V:Value),Fs P K p=true->RV P C p V->∀ (D:List (PV × PV)) (es:List MapEntry),es.length=D.length->(∀ x ∈ D,Fs P K x.1=true) ->
  (∀ (i:Nat) k v e,D[i]? = some (k,v)->es[i]? = some e->RV P C k e.key)->∀ w,(Instr.findKey K V es).run P w=.ok ((GB D p).bind fun i=>es[i]?.map fun e=>(i,e.val)) w
theorem Ly {α:Type} (m:Option Nat) (e:MapEntry) (es:List MapEntry) (f:Nat->MapEntry->α):((m.map (· + 1)).bind fun j=>((e::es)[j]?).map fun x=>f j x)=m.bind fun j=>(es[j]?).map fun x=>f (j+1) x:=by
 cases m <;> simp
theorem asking_run {P:Program} {C:Ctx} {K:TypeId} {p:PV} {V:Value} {w:World} (he:∀ q U,Fs P K q=true->RV P C q U->(Op.equal K V U).run P w=.ok (ID p q) w):∀ (D:List (PV × PV)) (es:List MapEntry) (i:Nat),es.length=D.length ->
  (∀ x ∈ D,Fs P K x.1=true)->(∀ (i:Nat) k v e,D[i]? = some (k,v)->es[i]? = some e->RV P C k e.key)->(Instr.findAsking K V es i).run P w=.ok ((GB D p).bind fun j=>es[j]?.map fun e=>(i+j,e.val)) w
 | [],[],i,_,_,_=>by simp[Instr.findAsking,GB]
 | [],_::_,_,h,_,_=>by simp at h
 | _::_,[],_,h,_,_=>by simp at h
 | (a,v)::D,e::es,i,hl,hk,hr=>by
  have h1:=he a e.key (hk (a,v) (AJ ..)) (hr 0 a v e rfl rfl);have ih:=asking_run he D es (i+1) (by simpa using hl) (fun x hx=>hk x (AU _ hx)) (fun j k v e g1 g2=>hr (j+1) k v e (by simpa using g1) (by simpa using g2));simp only[Instr.findAsking,Sem.run_bind,h1,Result.andThen_ok];unfold GB;cases hq:ID p a with
  | true=>simp
  | false =>
   simp only[A2,B5,At,ih,Ly (f:=fun j x=>(i+j,x.val))];congr 2
   funext j
   rw[show i+1+j=i+(j+1) by omega]
theorem now_run {P:Program} {C:Ctx} {K:TypeId} {d:TypeDesc} {p:PV} {V:Value} (he:∀ q U,Fs P K q=true->RV P C q U->Instr.sameNow d V U=some (ID p q)):∀ (D:List (PV × PV)) (es:List MapEntry) (i:Nat),es.length=D.length ->
  (∀ x ∈ D,Fs P K x.1=true)->(∀ (i:Nat) k v e,D[i]? = some (k,v)->es[i]? = some e->RV P C k e.key)->Instr.findNow d V es i=some ((GB D p).bind fun j=>es[j]?.map fun e=>(i+j,e.val))
 | [],[],i,_,_,_=>by simp[Instr.findNow,GB]
 | [],_::_,_,h,_,_=>by simp at h
 | _::_,[],_,h,_,_=>by simp at h
 | (a,v)::D,e::es,i,hl,hk,hr=>by
  have h1:=he a e.key (hk (a,v) (AJ ..)) (hr 0 a v e rfl rfl);have ih:=now_run he D es (i+1) (by simpa using hl) (fun x hx=>hk x (AU _ hx)) (fun j k v e g1 g2=>hr (j+1) k v e (by simpa using g1) (by simpa using g2));simp only[Instr.findNow,h1];unfold GB;cases hq:ID p a with
  | true=>simp
  | false =>
   simp only[At,ih,Ly (f:=fun j x=>(i+j,x.val))];congr 2
   funext j
   rw[show i+1+j=i+(j+1) by omega]
theorem Gt.wide {P:Program} {K:TypeId} (hw:CX P K=true) (hc:∀ (C:Ctx) (p:PV) (V:Value),Fs P K p=true->RV P C p V->∀ (em:Bool) (w:World),(Instr.checkKey em 10000 K V).run P w=.ok () w)
  (he:∀ (xs ys:List PV),DD (kinds P K) xs=true->DD (kinds P K) ys=true->LJ P 40 K xs ys=some (leqC xs ys)):Gt P K where
 check:=hc
 find:=fun C p V hp hv D es hl hk hr w=>by
  have hwide:(match P.underlying K with | some (.array _ _) | some (.struct _)=>true | _=>false)=true:=by
   unfold CX at hw;revert hw;cases P.underlying K with
   | none=>simp
   | some d=>cases d <;> simp
  rw[run_findKey_eq w hwide];have:=asking_run (P:=P) (C:=C) (K:=K) (p:=p) (V:=V) (w:=w) (fun q U hq hu => ?_) D es 0 hl hk hr
  ·rw[this];simp only[AN]
  ·obtain⟨a1,a2,_⟩:=LZ hp hv;obtain⟨b1,b2,_⟩:=LZ hq hu;rw[Ai hw] at a2 b2;have cs:∀ {p:PV} {V:Value},V.cells.toList.map PV.val=p.cells->Cs P C p.cells V.cells:=fun {p V} h=>by
    rw[<- h];refine⟨by simp,fun j c v h1 h2 => ?_⟩;rw[Ao,AI,h2] at h1;cases h1;exact .val
   have hs:=Je (P:=P) 40 (he p.cells q.cells (mv_wt hp).1 (mv_wt hq).1) _ _ (cs a1) (cs b1) 10000 w (by decide);unfold vOf at hs;rw[Ai hw,Ai hw,<- a2,<- b2] at hs;exact hs
theorem kinds_int {P:Program} {K:TypeId} {q:IntKind} (hu:P.underlying K=some (.int q)):kinds P K=[.int q]:=by unfold kinds Dx;rw[hu]
theorem mv_int {P:Program} {K:TypeId} {q:IntKind} (hu:P.underlying K=some (.int q)) {C:Ctx} {p:PV} {V:Value} (h:Fs P K p=true) (hv:RV P C p V):∃ n,p.cells=[.val (.int q n)]/\V=.int q n:=by
 have hw:=(mv_wt h).1;rw[kinds_int hu] at hw;obtain⟨a1,a2,_⟩:=LZ h hv;rw[An (by simp[CX,hu])] at a2;rw[a2] at a1;have e:p.cells=[.val V]:=by rw[<- a1];rfl
 rw[e] at hw;simp only[DD,BD] at hw;unfold JY at hw;cases V <;> simp at hw
 subst hw;exact⟨_,e,rfl⟩
theorem Gt.int {P:Program} {K:TypeId} {q:IntKind} (hu:P.underlying K=some (.int q)):Gt P K where
 check:=fun C p V hp hv em w=>by
  obtain⟨n,_,rfl⟩:=mv_int hu hp hv;exact run_checkKey hu (by simp[IsKey]) em 9999
 find:=fun C p V hp hv D es hl hk hr w=>by
  have:=now_run (P:=P) (C:=C) (K:=K) (d:=.int q) (p:=p) (V:=V) (fun q' U hq hu' => ?_) D es 0 hl hk hr
  ·rw[run_findKey hu this];simp only[AN]
  ·obtain⟨n,e1,rfl⟩:=mv_int hu hp hv;obtain⟨m,e2,rfl⟩:=mv_int hu hq hu';unfold ID;rw[e1,e2];simp[Instr.sameNow,leqC,ceq]

theorem Gk:∀ (D:List (PV × PV)) (k:PV),DA D k=(GB D k).isSome
 | [],_=>rfl
 | (a,v)::D,k=>by
  unfold DA GB;cases ID k a with
  | true=>rfl
  | false=>rw[By,At,Gk D k];cases GB D k <;> rfl
theorem F0:∀ {D:List (PV × PV)} {k:PV} {j:Nat},GB D k=some j->∃ a v,D[j]? = some (a,v)/\ID k a=true/\(∀ z,EG z D k=v)/\∀ w,Ej D k w=D.set j (k,w)
 | [],_,_,h=>by simp[GB] at h
 | (a,v)::D,k,j,h=>by
  unfold GB at h;cases hq:ID k a with
  | true =>
   rw[hq] at h;cases h;exact⟨a,v,rfl,hq,fun z=>by simp[EG,hq],fun w=>by simp[Ej,hq]⟩
  | false =>
   rw[hq,At] at h;obtain⟨i,hi,rfl⟩:=Af.1 h;obtain⟨b,u,h1,h2,h3,h4⟩:=F0 hi;exact⟨b,u,by simpa using h1,h2,fun z=>by simp[EG,hq,h3 z],fun w=>by simp[Ej,hq,h4 w]⟩
theorem F1:∀ {D:List (PV × PV)} {k:PV},GB D k=none->(∀ z,EG z D k=z)/\∀ w,Ej D k w=D++[(k,w)]
 | [],_,_=>⟨fun _=>rfl,fun _=>rfl⟩
 | (a,v)::D,k,h=>by
  unfold GB at h;cases hq:ID k a with
  | true=>rw[hq] at h;cases h
  | false =>
   rw[hq,At] at h;obtain⟨h1,h2⟩:=F1 (Option.map_eq_none_iff.1 h);exact⟨fun z=>by simp[EG,hq,h1 z],fun w=>by simp[Ej,hq,h2 w]⟩
def Js (P:Program) (T:TypeId) (p:PV):PV:=if CX P T then .agg ((List.range (P.cellsOf T)).map fun x=>expc ((kinds P T).getD x .other) (p.cellAt x)) else expc ((kinds P T).getD 0 .other) (p.cellAt 0)
theorem expc_rv {P:Program} {C:Ctx} {k:Kind} {p:PV} {v:Value} (h:wtcN k p=true) (hv:RV P C p v):RV P C (expc k p) v:=by
 unfold wtcN at h;split at h
 ·rename_i t;cases hv;exact .CQ (es:=[]) 0 0 (fun _ _=>undef) (Ak _) (fun h=>by cases h) (fun h=>by simp at h) (fun x e j p h1 _=>by simp at h1) (fun x e j p h1 _=>by simp at h1) (fun e h1=>by cases h1)
 ·unfold JY at h;split at h
  ·rw[Aw] at h;subst h;cases hv;exact .val
  ·cases hv;exact .val
  ·cases hv;exact .val
  ·rw[Aw] at h;subst h;cases hv with
   | CQ b off cv hcap hfull ha hc hr ht=>exact .CQ b off cv hcap (fun hf=>by cases hf) ha hc hr ht
  ·cases h
theorem wtcsN_get:∀ {ks:List Kind} {ps:List PV},wtcsN ks ps=true->ps.length=ks.length/\∀ {j:Nat} {p},ps[j]? = some p->wtcN (ks.getD j .other) p=true
 | [],[],_=>⟨rfl,fun h=>by simp at h⟩
 | [],_::_,h=>by simp[wtcsN] at h
 | _::_,[],h=>by simp[wtcsN] at h
 | k::ks,p::ps,h=>by
  simp only[wtcsN,Aa] at h;obtain⟨a,b⟩:=wtcsN_get h.2;refine⟨by simp[a],fun {j q} hj => ?_⟩;cases j with
  | zero=>simp at hj;subst hj;exact h.1
  | succ j=>simp at hj;exact b hj
theorem RV.Js {P:Program} {C:Ctx} {T:TypeId} {p:PV} {V:Value} (h:mvV P T p=true) (hv:RV P C p V):RV P C (Js P T p) V:=by
 simp only[mvV,Aa,Aw] at h;obtain⟨⟨hfl,hw,hl⟩,hag⟩:=h;obtain⟨hlen,hcell⟩:=wtcsN_get hw;have hn:p.cells.length=P.cellsOf T:=by rw[hlen,hl]
 unfold Hx.Js;by_cases ha:CX P T=true
 ·rw[Ai ha];rw[ha] at hag;obtain⟨a,rfl,hsz,hc⟩:∃ a:Array Value,V=.agg a/\a.size=p.cells.length/\∀ (j:Nat) c v,p.cells[j]? = some c->a[j]? = some v->RV P C c v:=by
   cases hv with
   | agg hs hh=>exact⟨_,rfl,hs,hh⟩
   | val =>
    cases V with
    | agg a =>
     refine⟨a,rfl,by simp[PV.cells],fun j c v h1 h2 => ?_⟩;have h1':(a.toList.map PV.val)[j]? = some c:=h1;rw[Ao,AI,h2] at h1';cases h1';exact .val
    | _=>simp[PV.isAgg] at hag
   | _=>simp[PV.isAgg] at hag
  refine .agg (by simp[hsz,hn]) fun j c v h1 h2 => ?_
  rw[Ao] at h1;obtain⟨x,hx,rfl⟩:=Af.1 h1;have hj:j<p.cells.length:=by rw[<- hsz];exact (Aq.1 h2).1
  rw[Ba (by rw[<- hn];exact hj)] at hx;cases hx;have h3:p.cells[j]? = some p.cells[j]:=Ae hj;have h4:p.cellAt j=p.cells[j]:=by unfold PV.cellAt;rw[AA,h3];rfl
  rw[h4];exact expc_rv (hcell h3) (hc j _ v h3 h2)
 ·rw[An ha];have hag':p.isAgg=false:=by rw[hag];simpa using ha
  have hce:p.cells=[p]:=by
   unfold PV.cells;split
   ·simp[PV.isAgg] at hag'
   ·simp[PV.isAgg] at hag'
   ·rfl
  have h3:p.cells[0]? = some p:=by rw[hce];rfl
  have h4:p.cellAt 0=p:=by unfold PV.cellAt;rw[hce];rfl
  rw[h4];exact expc_rv (hcell h3) hv

def HT (H:List Row) (i:Nat):Option (FQ × TypeId × TypeId × List (PV × PV)):=
 match H[i]? with
 | some r=>match r.live,r.lp with | false,some ⟨k,.map K E D⟩=>(match k.S0 with | []=>some (k,K,E,D) | _=>none) | _,_=>none
 | none=>none
theorem Jt {H:List Row} {i:Nat} {k:FQ} {K E:TypeId} {D:List (PV × PV)} (h:HT H i=some (k,K,E,D)):∃ r,H[i]? = some r/\r.live=false/\r.lp=some ⟨k,.map K E D⟩:=by
 unfold HT at h;split at h
 ·rename_i r hr;split at h
  ·rename_i hl hp;split at h
   ·cases h;exact⟨r,hr,hl,hp⟩
   ·cases h
  ·cases h
 ·cases h
theorem mapAt_k {H:List Row} {i:Nat} {k:FQ} {K E:TypeId} {D:List (PV × PV)} (h:HT H i=some (k,K,E,D)):k.S0=[]:=by
 unfold HT at h;split at h
 ·split at h
  ·split at h
   ·rename_i hk;cases h;exact hk
   ·cases h
  ·cases h
 ·cases h
def k0:FQ:=⟨0,[],#[],.skip,.skip⟩
def Dd (k:FQ) (K E:TypeId) (D:List (PV × PV)):Row:={ es:=[],s:=0,t:=0,bv:=true,live:=false,lp:=some ⟨k,.map K E D⟩ }

theorem MW {P:Program} {C:Ctx} (hR:RH P C) {i:Nat} {V:Value} (hv:RV P C (.mp i) V) {k:FQ} {K E:TypeId} {D:List (PV × PV)} (h:HT C.H i=some (k,K,E,D)):∃ b,V=.map (some b)/\C.ρ i=some b/\MapB P C b K E D:=by
 obtain⟨r,h1,h2,h3⟩:=Jt h;cases hv with
 | mp hi hl hb =>
  obtain⟨r',info,g1,g2,g3,rfl⟩:=hl;rw[h1] at g1;cases g1;rw[h3] at g2;cases g2;exact⟨_,by unfold hdl;rw[mapAt_k h],hb,(hR.Hw i _ r _ hb h1 h3 h2).map K E D rfl⟩

theorem MX {P:Program} {C:Ctx} (hR:RH P C) {i b:Nat} {k:FQ} {K E:TypeId} {D D':List (PV × PV)} (h:HT C.H i=some (k,K,E,D)) (hρ:C.ρ i=some b) (hro:C.ro<=i) {es es':Array MapEntry} {c c':Nat} (hes:C.w.heap[b]? = some (.map es c))
  (hm:∀ C':Ctx,Ext C C'->C'.w.heap[b]? = some (.map es' c')->MapB P C' b K E D'):Iv P C { C with H:=C.H.set i (Dd k K E D'),w:=C.w.putObj b (.map es' c') } (C.H.set i (Dd k K E D')):=by
 obtain⟨r,g1,g3,g2⟩:=Jt h;have hi:i<C.H.length:=(Ad.1 g1).1;have hblt:b<C.w.heap.size:=hR.lt hρ;have hb':∀ (x:Nat),x ≠ b->(C.w.putObj b (.map es' c')).heap[x]? = C.w.heap[x]?:=fun x hx=>World.putObj_heap_other hx
 have hrowi:C.row? i=none:=by unfold Ctx.row? rowAt;rw[g1];simp[g3]
 have hrow:∀ x,rowAt (C.H.set i (Dd k K E D')) x=C.row? x:=by
  intro x;unfold rowAt;rw[Au];by_cases hx:i=x
  ·subst hx;simp only[BO,hi,Dd,A2,B5,hrowi]
  ·rw[An hx];rfl
 have hx:Ext C { C with H:=C.H.set i (Dd k K E D'),w:=C.w.putObj b (.map es' c') }:=by
  refine⟨rfl,rfl,rfl,by simp,fun x hx ho=>hb' x (fun e=>ho ⟨i,hro,e ▸ hρ⟩),fun x c e fr hh => ?_,by simp,fun x r' _ hr=>⟨r',by rw[<- hr];exact (hrow x).symm,rfl,rfl,Ak _,fun _=>⟨rfl,fun _ h=>h⟩⟩,fun _ h=>.inl h,fun _ h=>.inl h,rfl,rfl,fun x hx=>⟨?_,rfl⟩,fun x q info' q1 q2 q3=>⟨?_,fun _ h=>h⟩,fun x rc hh => ?_⟩
  ·have hne:x ≠ b:=fun e=>by subst e;rw[hes] at hh;cases hh
   exact⟨c,fr,by rw[<- hh];exact hb' x hne,rfl⟩
  ·show (C.H.set i _)[x]? = _
   rw[Au,An (by omega)]
  ·show ∃ r' st,(C.H.set i _)[x]? = some r'/\_
   by_cases hxi:i=x
   ·subst hxi;rw[g1] at q1;cases q1;rw[g2] at q2;cases q2;exact⟨Dd k K E D',_,by rw[Au,Ai rfl,Ai hi],rfl,rfl⟩
   ·exact⟨q,info'.st,by rw[Au,An hxi];exact q1,q2,q3⟩
  ·have hne:x ≠ b:=fun e=>by subst e;rw[hes] at hh;cases hh
   exact⟨rc,by rw[<- hh];exact hb' x hne⟩
 refine⟨rfl,hx,hR.inj,fun x c hx' => ?_,fun x c q q1 q2 => ?_,by simpa using hR.ro,hR.Iu,fun x hx'=>by simpa using hR.JL x hx',fun x c q info' q1 q2 q3 q4 => ?_,hR.K5.mono hx⟩
 ·rcases hR.KJ x c hx' with ⟨q,hq⟩ | ⟨q,info',q1,q2,q3⟩
  ·exact .inl ⟨q,by rw[<- hq];exact hrow x⟩
  ·obtain⟨⟨q',st',z1,z2,z3⟩,_⟩:=hx.lp x q info' q1 q2 q3;exact .inr ⟨q',_,z1,z2,z3⟩
 ·have q2':C.row? x=some q:=by rw[<- q2];exact (hrow x).symm
  have hB:=hR.Gv x c q q1 q2';have hne:c ≠ b:=fun e=>by
   subst e;obtain⟨cc,fr,cv,hh,_⟩:=hB.mem;rw[hes] at hh;cases hh
  exact hB.mono hx (hb' c hne)
 ·have hq2:(C.H.set i (Dd k K E D'))[x]? = some q:=q2;rw[Au] at hq2;by_cases hxi:i=x
  ·subst hxi;rw[Ai rfl,Ai hi] at hq2;cases hq2;cases q3;have hcb:c=b:=Ah ((show C.ρ i=some c from q1).symm.trans hρ);subst hcb;exact⟨fun hf=>by simp[LSt.isMap] at hf,fun K2 E2 D2 he=>(by cases he;exact hm _ hx (World.putObj_heap_same hblt)),fun K2 E2 D2 he=>(by cases he),fun s he=>(by cases he)⟩
  ·rw[An hxi] at hq2;have hL:=hR.Hw x c q info' q1 hq2 q3 q4;have hne:c ≠ b:=fun e=>hxi (hR.inj i x b hρ (e ▸ q1))
   exact hL.mono hx (hb' c hne)

theorem newMap_sound {P:Program} {C:Ctx} (hR:RH P C) (K E:TypeId):
  Ext C ((C.more (Dd k0 K E [])).bind C.H.length (.map #[] 0))/\RH P ((C.more (Dd k0 K E [])).bind C.H.length (.map #[] 0))/\RV P ((C.more (Dd k0 K E [])).bind C.H.length (.map #[] 0)) (.mp C.H.length) (.map (some C.w.heap.size)):=by
 have hx1:=EM hR (Dd k0 K E []);have hR1:=GN hR (Dd k0 K E []);have hn:(C.more (Dd k0 K E [])).ρ C.H.length=none:=hR.Gd (Ak _);have hx2:=Ctx.Ga (C:=C.more (Dd k0 K E [])) hn hR.ro (.map #[] 0);have hrow:(C.H++[Dd k0 K E []])[C.H.length]? = some (Dd k0 K E []):=by simp
 refine⟨hx1.trans hx2,⟨fun x y b hx hy => ?_,fun x b hx => ?_,fun x b r' g1 g2 => ?_,hR1.ro,fun x b hx => ?_,fun b hb=>Ax (hR1.JL b hb) hx2.size,fun x b r' info g1 g2 g3 g4 => ?_,hR1.K5.mono hx2⟩,?_⟩
 ·simp only[Ctx.bind] at hx hy;split at hx <;> split at hy
  ·omega
  ·cases hx;have:=hR1.lt hy;exact absurd this (by simp[Ctx.more])
  ·cases hy;have:=hR1.lt hx;exact absurd this (by simp[Ctx.more])
  ·exact hR1.inj x y b hx hy
 ·simp only[Ctx.bind] at hx;split at hx
  ·rename_i e;subst e;exact .inr ⟨_,_,hrow,rfl,rfl⟩
  ·exact hR1.KJ x b hx
 ·simp only[Ctx.bind] at g1;split at g1
  ·rename_i e;subst e;have:(C.more (Dd k0 K E [])).row? C.H.length=none:=by unfold Ctx.row? rowAt;rw[show (C.more (Dd k0 K E [])).H[C.H.length]? = _ from hrow];rfl
   rw[show (C.more (Dd k0 K E [])).row? C.H.length=some r' from g2] at this;cases this
  ·have hb:=hR1.Gv x b r' g1 g2;exact hb.mono hx2 (AT C.w _ hb.lt)
 ·simp only[Ctx.bind] at hx ⊢;split at hx
  ·cases hx;exact fun hf=>CY _ (hR.JL _ hf)
  ·exact hR1.Iu x b hx
 ·simp only[Ctx.bind] at g1;split at g1
  ·rename_i e;subst e;cases g1;have g2':(C.H++[Dd k0 K E []])[C.H.length]? = some r':=g2;rw[hrow] at g2';cases g2';cases g3;exact⟨fun hf=>by simp[LSt.isMap] at hf,fun K2 E2 D2 he=>(by
    cases he;exact⟨⟨#[],0,heap_alloc_new C.w _,rfl,rfl,fun i k v e g _=>by simp at g⟩,fun p hp=>(by cases hp),fun p hp=>(by cases hp)⟩),fun K2 E2 D2 he=>(by cases he),fun s he=>(by cases he)⟩
  ·have hL:=hR1.Hw x b r' info g1 g2 g3 g4;exact hL.mono hx2 (AT C.w _ hL.lt)
 ·exact .mp (Ad.1 hrow).1 ⟨_,_,hrow,rfl,rfl,rfl⟩ (by simp[Ctx.bind];rfl)

theorem F2 {P:Program} {C:Ctx} {b:Nat} {K E:TypeId} {D:List (PV × PV)} {es:Array MapEntry} {c:Nat} (h:MapB P C b K E D) (hes:C.w.heap[b]? = some (.map es c)):
  es.size=D.length/\c=D.length/\∀ (i:Nat) k v e,D[i]? = some (k,v)->es[i]? = some e->e.born=i/\RV P C k e.key/\RV P C v e.val:=by
 obtain⟨es',c',h1,h2,h3,h4⟩:=h.mem;rw[hes] at h1;cases h1;exact⟨h2,h3,h4⟩
theorem find_map {P:Program} {C:Ctx} {b:Nat} {K E:TypeId} {D:List (PV × PV)} (hK:Gt P K) (h:MapB P C b K E D) {p:PV} {V:Value} (hp:Fs P K p=true) (hv:RV P C p V) {es:Array MapEntry} {c:Nat} (hes:C.w.heap[b]? = some (.map es c)) (w:World):
  (Instr.findKey K V es.toList).run P w=.ok ((GB D p).bind fun i=>es[i]?.map fun e=>(i,e.val)) w:=by
 obtain⟨h1,h2,h3⟩:=F2 h hes;have:=hK.find C p V hp hv D es.toList (by simpa using h1) (fun x hx=>h.keys x hx) (fun i k v e g1 g2=>(h3 i k v e g1 (by rw[AI] at g2;exact g2)).2.1) w;simpa only[AI] using this
theorem mget_ok {P:Program} {E:TypeId} {D:List (PV × PV)} (hv:∀ x ∈ D,mvV P E x.2=true) {z:PV} (hz:mvV P E z=true) (k:PV):mvV P E (EG z D k)=true:=by
 cases hm:GB D k with
 | none=>rw[(F1 hm).1];exact hz
 | some j =>
  obtain⟨a,v,h1,_,h3,_⟩:=F0 hm;rw[h3];exact hv _ (Ag h1)
def lookQ (P:Program) (ks:List TypeId) (H:List Row) (T:TypeId) (x k:PV) (ok:Bool):Option PV:=
 match P.underlying T,x with
 | some (.map K E),.mp i =>
  match HT H i,EL P E with
  | some (_,K',E',D),some z =>
   if ks.contains K&&(K==K')&&(E==E')&&Fs P K k&&mvV P E (.val z) then
    some (if ok then .D8 [Js P E (EG (.val z) D k),.val (.bool (DA D k))] else Js P E (EG (.val z) D k)) else none
  | _,_=>none
 | _,_=>none
theorem lookQ_sound {P:Program} {ks:List TypeId} (hks:∀ K,K ∈ ks->Gt P K) {C:Ctx} (hR:RH P C) {T:TypeId} {x k p:PV} {X KV:Value} {ok:Bool} (hx:RV P C x X) (hk:RV P C k KV) (h:lookQ P ks C.H T x k ok=some p):
  ∃ v,(Instr.lookup T X KV ok).run P C.w=.ok v C.w/\RV P C p v:=by
 unfold lookQ at h;split at h
 ·rename_i K E i hu;split at h
  ·rename_i kk K' E' D z hm hz;split at h
   ·rename_i hc;simp only[Aa,Aw,BA,Ab] at hc;obtain⟨⟨⟨⟨hc1,rfl⟩,rfl⟩,hmk⟩,hmz⟩:=hc;have hKO:=hks _ hc1;obtain⟨b,rfl,hρ,hB⟩:=MW hR hx hm;obtain⟨es,c,hes,_⟩:=hB.mem;obtain⟨h1,h2,h3⟩:=F2 hB hes;have hf:=find_map hKO hB hmk hk hes C.w;have hch:=hKO.check C k KV hmk hk es.isEmpty C.w;have key:∃ v,(Instr.lookup T (.map (some b)) KV ok).run P C.w=.ok (if ok then .tuple #[v,.bool (DA D k)] else v) C.w/\RV P C (EG (.val z) D k) v:=by
     cases hi:GB D k with
     | none =>
      refine⟨z,?_,by rw[(F1 hi).1];exact .val⟩;rw[hi] at hf;unfold Instr.lookup;simp only[Sem.run_bind,run_underlying hu,Result.andThen_ok,MapKept.run_getObj_map hes,Sem.run_pure,hch,hf,Option.bind_none,E8 hz,Gk,hi,Option.isSome_none]
     | some j =>
      obtain⟨a,v,g1,_,g3,_⟩:=F0 hi;have hj:j<es.size:=by rw[h1];exact (Ad.1 g1).1
      have he:es[j]? = some es[j]:=AB hj;refine⟨es[j].val,?_,by rw[g3];exact (h3 j a v _ g1 he).2.2⟩;rw[hi] at hf;unfold Instr.lookup;simp only[Sem.run_bind,run_underlying hu,Result.andThen_ok,MapKept.run_getObj_map hes,Sem.run_pure,hch,hf,Bh,he,AH,Gk,hi,CF]
    obtain⟨v,k1,k2⟩:=key;refine⟨_,k1,?_⟩;have hE:=RV.Js (mget_ok (fun x hx=>hB.vals x hx) hmz k) k2;cases h;cases ok
    ·exact hE
    ·refine .D8 rfl fun j c u g1 g2 => ?_
     match j with
     | 0=>simp at g1 g2;subst g1;subst g2;exact hE
     | 1=>simp at g1 g2;subst g1;subst g2;exact .val
     | j+2=>simp at g1
   ·cases h
  ·cases h
 ·cases h
def updQ (P:Program) (ks:List TypeId) (ro:Nat) (H:List Row) (T:TypeId) (x k v:PV):Option (List Row):=
 match P.underlying T,x with
 | some (.map K E),.mp i =>
  match HT H i with
  | some (kk,K',E',D)=>if ks.contains K&&(K==K')&&(E==E')&&Fs P K k&&mvV P E v&&decide (ro<=i) then some (H.set i (Dd kk K E (Ej D k v))) else none
  | none=>none
 | _,_=>none
theorem updQ_sound {P:Program} {ks:List TypeId} (hks:∀ K,K ∈ ks->Gt P K) {C:Ctx} (hR:RH P C) {T:TypeId} {x k v:PV} {X KV VV:Value} {H':List Row} (hx:RV P C x X) (hk:RV P C k KV) (hv:RV P C v VV) (h:updQ P ks C.ro C.H T x k v=some H'):
  ∃ C',(Instr.mapUpdate T X KV VV).run P C.w=.ok () C'.w/\Iv P C C' H':=by
 unfold updQ at h;split at h
 ·rename_i K E i hu;split at h
  ·rename_i kk K' E' D hm;split at h
   ·rename_i hc;simp only[Aa,Aw,BA,Ab] at hc;obtain⟨⟨⟨⟨⟨hc1,rfl⟩,rfl⟩,hmk⟩,hmv⟩,hro⟩:=hc;cases h;have hKO:=hks _ hc1;obtain⟨b,rfl,hρ,hB⟩:=MW hR hx hm;obtain⟨es,c,hes,_⟩:=hB.mem;obtain⟨h1,h2,h3⟩:=F2 hB hes;have hf:=find_map hKO hB hmk hk hes C.w;have hch:=hKO.check C k KV hmk hk false C.w;cases hi:GB D k with
    | none =>
     have hrun:(Instr.mapUpdate T (.map (some b)) KV VV).run P C.w=.ok () (C.w.putObj b (.map (es.push { key:=KV,val:=VV,born:=c }) (c+1))):=by
      unfold Instr.mapUpdate;rw[hi] at hf;simp only[Sem.run_bind,run_underlying hu,Result.andThen_ok,MapKept.run_getObj_map hes,hch,hf,Option.bind_none,run_setObj_map _ hes];rfl
     refine⟨{ C with H:=C.H.set i (Dd kk K E (Ej D k v)),w:=C.w.putObj b (.map (es.push { key:=KV,val:=VV,born:=c }) (c+1)) },hrun,?_⟩;rw[(F1 hi).2];refine MX hR hm hρ hro hes fun C' hxx hh=>⟨⟨_,_,hh,by simp[h1],by simp[h2],fun j a u e g1 g2 => ?_⟩,fun p hp => ?_,fun p hp => ?_⟩
     ·rw[AL] at g1;rw[Array.getElem?_push] at g2;split at g1
      ·rename_i hj;rw[An (by omega)] at g2;obtain⟨q1,q2,q3⟩:=h3 j a u e g1 g2;exact⟨q1,q2.flat (FL (hB.keys _ (Ag g1))),q3.mono hxx⟩
      ·rename_i hj;have hj2:j=D.length:=by
        have:=(Ad.1 g1).1;simp at this;omega
       subst hj2;simp only[C7,AV,A3,Cq] at g1;rw[Ai (by omega)] at g2;obtain⟨rfl,rfl⟩:=g1;cases g2;exact⟨h2,hk.flat (FL hmk),hv.mono hxx⟩
     ·rcases A5.1 hp with hp | hp
      ·exact hB.keys p hp
      ·rw[AF] at hp;subst hp;exact hmk
     ·rcases A5.1 hp with hp | hp
      ·exact hB.vals p hp
      ·rw[AF] at hp;subst hp;exact hmv
    | some j =>
     obtain⟨a,u0,g1,g2,g3,g4⟩:=F0 hi;have hj:j<es.size:=by rw[h1];exact (Ad.1 g1).1
     have he:es[j]? = some es[j]:=AB hj;have hkey:es[j].key=KV:=(mv_inj hmk (hB.keys _ (Ag g1)) hk (h3 j a u0 _ g1 he).2.1 (keq_eq hmk (hB.keys _ (Ag g1)) g2)).symm;have hrun:(Instr.mapUpdate T (.map (some b)) KV VV).run P C.w=.ok () (C.w.putObj b (.map (es.modify j fun e=>{ e with key:=KV,val:=VV }) c)):=by
      unfold Instr.mapUpdate;rw[hi] at hf;simp only[Sem.run_bind,run_underlying hu,Result.andThen_ok,MapKept.run_getObj_map hes,hch,hf,Bh,he,AH,Bw,hkey,run_stays hmk hk,run_setObj_map _ hes];rfl
     refine⟨{ C with H:=C.H.set i (Dd kk K E (Ej D k v)),w:=C.w.putObj b (.map (es.modify j fun e=>{ e with key:=KV,val:=VV }) c) },hrun,?_⟩;rw[g4];refine MX hR hm hρ hro hes fun C' hxx hh=>⟨⟨_,_,hh,by simp[h1],by simp[h2],fun l a' u e k1 k2 => ?_⟩,fun p hp => ?_,fun p hp => ?_⟩
     ·rw[B9] at k2;rw[Au] at k1;by_cases hjl:j=l
      ·subst hjl;rw[Ai rfl,Ai (by rw[<- h1];exact hj)] at k1;cases k1;rw[Ai rfl,he] at k2;cases k2;exact⟨(h3 j a u0 _ g1 he).1,hk.flat (FL hmk),hv.mono hxx⟩
      ·rw[An hjl] at k1 k2;obtain⟨q1,q2,q3⟩:=h3 l a' u e k1 k2;exact⟨q1,q2.flat (FL (hB.keys _ (Ag k1))),q3.mono hxx⟩
     ·rcases BX hp with hp | hp
      ·exact hB.keys p hp
      ·subst hp;exact hmk
     ·rcases BX hp with hp | hp
      ·exact hB.vals p hp
      ·subst hp;exact hmv
   ·cases h
  ·cases h
 ·cases h
def mapQ (P:Program) (ks:List TypeId) (ro:Nat) (H:List Row) (f:Operand->PV):Op->Option (PV × List Row)
 | .makeMap T none=>match P.underlying T with | some (.map K E)=>some (.mp H.length,H++[Dd k0 K E []]) | _=>none
 | .lookup T x k ok=>(lookQ P ks H T (f x) (f k) ok).map fun p=>(p,H)
 | .mapUpdate T x k v=>(updQ P ks ro H T (f x) (f k) (f v)).map fun H'=>(.val undef,H')
 | .call c =>
  match c.callee,c.args.toList,c.argTypes[0]? with
  | .builtin .len,[x],some T =>
   match P.underlying T,f x with
   | some (.map _ _),.mp i=>(HT H i).map fun r=>(.val (.int .i64 (r.2.2.2.length:Int)),H)
   | _,_=>none
  | _,_,_=>none
 | _=>none
theorem set_row {H:List Row} {i:Nat} {k k':FQ} {K E K' E':TypeId} {D D':List (PV × PV)} (h:HT H i=some (k,K,E,D)) (x:Nat):rowAt (H.set i (Dd k' K' E' D')) x=rowAt H x:=by
 obtain⟨r,g1,g3,g2⟩:=Jt h;have hi:i<H.length:=(Ad.1 g1).1;unfold rowAt;rw[Au];by_cases hx:i=x
 ·subst hx;rw[Ai rfl,Ai hi,g1];simp[Dd,g3]
 ·rw[An hx]
theorem mapQ_rows {P:Program} {ks:List TypeId} {ro:Nat} {H:List Row} {f:Operand->PV} {op:Op} {p:PV} {H':List Row} (h:mapQ P ks ro H f op=some (p,H')) (x:Nat):rowAt H' x=rowAt H x:=by
 cases op <;> simp only[mapQ,reduceCtorEq] at h
 case makeMap T r =>
  cases r with
  | some _=>cases h
  | none =>
   simp only at h;split at h
   ·cases h;by_cases hx:x<H.length
    ·exact DE hx
    ·unfold rowAt;rw[Bj (by omega),AD (by omega:H.length<=x)];cases hm:x-H.length with
     | zero=>simp[Dd]
     | succ n=>simp
   ·cases h
 case lookup T x k ok =>
  obtain⟨q,hq,he⟩:=Af.1 h;cases he;rfl
 case mapUpdate T y k v =>
  obtain⟨q,hq,he⟩:=Af.1 h;cases he;unfold updQ at hq;split at hq
  ·split at hq
   ·rename_i hm;split at hq
    ·cases hq;exact set_row hm x
    ·cases hq
   ·cases hq
  ·cases hq
 case call c =>
  split at h
  ·split at h
   ·obtain⟨q,hq,he⟩:=Af.1 h;cases he;rfl
   ·cases h
  ·cases h
theorem mapQ_sound {P:Program} {ks:List TypeId} (hks:∀ K,K ∈ ks->Gt P K) {ro:Nat} {H:List Row} {f:Operand->PV} {op:Op} {p:PV} {H':List Row} (h:mapQ P ks ro H f op=some (p,H')):OprS P ro H f op p H':=by
 intro C g o ho hro hH hR hv;subst hro;subst hH;cases op <;> simp only[mapQ,reduceCtorEq] at h
 case makeMap T r =>
  cases r with
  | some _=>cases h
  | none =>
   simp only at h;split at h
   ·rename_i K E hu;cases h;obtain⟨h1,h2,h3⟩:=newMap_sound hR K E;refine⟨_,.map (some C.w.heap.size),_,?_,.inl rfl,⟨rfl,h1,h2⟩,h3⟩;unfold execOp;simp only[ho,Option.map_none,Instr.makeMap,Sem.run_bind,Sem.run_pure,Result.andThen_ok,run_newObj_alloc];rfl
   ·cases h
 case lookup T x k ok =>
  obtain⟨q,hq,he⟩:=Af.1 h;cases he;obtain⟨v,h1,h2⟩:=lookQ_sound hks hR (hv x (by simp[Op.operands])) (hv k (by simp[Op.operands])) hq;refine⟨_,v,C,?_,.inl rfl,⟨rfl,.refl C,hR⟩,h2⟩;unfold execOp;simp only[ho,Sem.run_bind,h1,Result.andThen_ok];rfl
 case mapUpdate T x k v =>
  obtain⟨q,hq,he⟩:=Af.1 h;cases he;obtain⟨C',h1,h2⟩:=updQ_sound hks hR (hv x (by simp[Op.operands])) (hv k (by simp[Op.operands])) (hv v (by simp[Op.operands])) hq;refine⟨_,undef,C',?_,.inr ⟨rfl,rfl⟩,h2,.val⟩;unfold execOp;simp only[ho,Sem.run_bind,h1,Result.andThen_ok];rfl
 case call c =>
  split at h
  ·rename_i x T hc ha hT;split at h
   ·rename_i K E i hu hfx;obtain⟨⟨kk,K',E',D⟩,hm,he⟩:=Af.1 h;cases he;have hca:c.args = #[x]:=by apply Bs;simpa using ha
    have hx:=hv x (by simp[Op.operands,Call.operands,hc,hca]);rw[hfx] at hx;obtain⟨b,hX,hρ,hB⟩:=MW hR hx hm;obtain⟨es,c0,hes,_⟩:=hB.mem;obtain⟨h1,h2,h3⟩:=F2 hB hes;refine⟨_,.int .i64 (D.length:Int),C,?_,.inl rfl,⟨rfl,.refl C,hR⟩,.val⟩;have hlen:(Builtin.len_ c.argTypes o.type #[g x]).run P C.w=.ok (.int .i64 (D.length:Int)) C.w:=by
     rw[hX];simp only[Builtin.len_,hT,Bt,AV,Sem.run_bind,run_underlying hu,Result.andThen_ok,MapKept.run_getObj_map hes,Sem.run_pure,h1];rfl
    simp only[execOp,ho,resolve,hc,hca,Sem.run_bind,Sem.run_pure,Result.andThen_ok,invoke,builtin,BC,AZ,Bu,hlen]
   ·cases h
  ·cases h
def lookD (P:Program) (E:TypeId) (z:PV) (k:PV) (H:List Row) (ok:Bool):List (PV × PV)->DT (PV × List Row)
 | []=>.leaf (if ok then .D8 [Js P E z,.val (.bool false)] else Js P E z,H)
 | (a,v)::D=>.br (ID k a) (.leaf (if ok then .D8 [Js P E v,.val (.bool true)] else Js P E v,H)) (lookD P E z k H ok D)
theorem lookD_run {P:Program} {E:TypeId} {z k:PV} {H:List Row} {ok:Bool}:∀ {D:List (PV × PV)},(lookD P E z k H ok D).run=some (if ok then .D8 [Js P E (EG z D k),.val (.bool (DA D k))] else Js P E (EG z D k),H)
 | []=>rfl
 | (a,v)::D=>by
  unfold lookD EG DA;cases hq:ID k a with
  | true=>rfl
  | false =>
   show (lookD P E z k H ok D).run=_
   rw[lookD_run];rfl
def updD (k:PV) (r:PV × List Row):List (PV × PV)->DT (PV × List Row)
 | []=>.leaf r
 | (a,_)::D=>.br (ID k a) .no (updD k r D)
theorem updD_run {k:PV} {r q:PV × List Row}:∀ {D:List (PV × PV)},(updD k r D).run=some q->q=r/\GB D k=none
 | [],h=>by cases h;exact⟨rfl,rfl⟩
 | (a,v)::D,h=>by
  unfold updD at h;unfold GB;cases hq:ID k a with
  | true=>rw[hq] at h;cases h
  | false =>
   rw[hq] at h;obtain⟨h1,h2⟩:=updD_run (D:=D) h;exact⟨h1,by rw[h2];rfl⟩
def mapDT (P:Program) (ks bs:List TypeId) (ro:Nat) (H:List Row) (f:Operand->PV) (op:Op):Option (DT (PV × List Row)):=
 match op with
 | .lookup T x k ok =>
  match bs.contains T,P.underlying T,f x with
  | true,some (.map K E),.mp i =>
   match HT H i,EL P E with
   | some (_,K',E',D),some z =>
    if ks.contains K&&(K==K')&&(E==E')&&Fs P K (f k)&&mvV P E (.val z) then some (lookD P E (.val z) (f k) H ok D) else none
   | _,_=>none
  | _,_,_=>(mapQ P ks ro H f op).map .leaf
 | .mapUpdate T x k v =>
  match bs.contains T,P.underlying T,f x with
  | true,some (.map K E),.mp i =>
   match HT H i with
   | some (kk,K',E',D) =>
    if ks.contains K&&(K==K')&&(E==E')&&Fs P K (f k)&&mvV P E (f v)&&decide (ro<=i) then some (updD (f k) (.val undef,H.set i (Dd kk K E (D++[(f k,f v)]))) D) else none
   | _=>none
  | _,_,_=>(mapQ P ks ro H f op).map .leaf
 | _=>(mapQ P ks ro H f op).map .leaf
theorem mapDT_run {P:Program} {ks bs:List TypeId} {ro:Nat} {H:List Row} {f:Operand->PV} {op:Op} {d:DT (PV × List Row)} {r:PV × List Row} (h:mapDT P ks bs ro H f op=some d) (hr:d.run=some r):mapQ P ks ro H f op=some r:=by
 have plain:(mapQ P ks ro H f op).map DT.leaf=some d->mapQ P ks ro H f op=some r:=fun h=>by
  obtain⟨q,hq,rfl⟩:=Af.1 h;cases hr;exact hq
 unfold mapDT at h;split at h
 ·rename_i T x k ok;split at h
  ·rename_i K E i hb hu hx;split at h
   ·rename_i kk K' E' D z hm hz;split at h
    ·rename_i hc;cases h;rw[lookD_run] at hr;cases hr;simp only[mapQ,lookQ,hu,hx,hm,hz];rw[Ai hc];rfl
    ·cases h
   ·cases h
  ·exact plain h
 ·rename_i T x k v;split at h
  ·rename_i K E i hb hu hx;split at h
   ·rename_i kk K' E' D hm;split at h
    ·rename_i hc;cases h;obtain⟨rfl,hi⟩:=updD_run hr;simp only[mapQ,updQ,hu,hx,hm];rw[Ai hc,(F1 hi).2];rfl
    ·cases h
   ·cases h
  ·exact plain h
 ·exact plain h
def CO.Ju (E:CO) (P:Program) (ks bs:List TypeId):CO:={ E with EP:=fun ro H f op=>match mapDT P ks bs ro H f op with | some d=>some d | none=>E.EP ro H f op }
theorem Ck.Ju {P:Program} {E:CO} (hE:Ck P E.env) {ks bs:List TypeId} (hks:∀ K,K ∈ ks->Gt P K):Ck P (E.Ju P ks bs).env where
 G2:=hE.G2
 Gq:=hE.Gq
 Ff:=hE.Ff
 lo:=fun f fn b h1 h2=>FV.mono (E:=E.env) (E':=(E.Ju P ks bs).env) (fun _ _ _ _ _ _ _ h=>h) (hE.lo f fn b h1 h2)
 Ec:=hE.Ec
 F9:=hE.F9
 Ev:=fun ro H f T x k p H' h=>hE.Ev ro H f T x k p H' h
 EP:=fun ro H f op p H' h=>by
  change (match mapDT P ks bs ro H f op with | some d=>some d | none=>E.EP ro H f op).bind DT.run=some (p,H') at h
  split at h
  ·rename_i d hd;have hq:=mapDT_run hd h;exact⟨mapQ_sound hks hq,mapQ_rows hq⟩
  ·exact hE.EP ro H f op p H' h

end Go.Hx
namespace Go.Hx

def sliceIn (P:Program) (H:List Row) (T:TypeId) (x:PV) (lo hi mx:Option PV):Option PV:=
 match P.underlying T,x,E4 lo,E4 hi,E4 mx with
 | some (.slice e),.sl i n k len,some l,some h,some m =>
  match rowAt H i with
  | some r =>
   if known P e&&(r.es.length==n)&&(r.s==P.cellsOf e) && !r.nl&&(m.isNone||h.isSome)&&decide (0<=l.getD 0/\l.getD 0<=h.getD len/\h.getD len<=m.getD ((n:Int)-k)/\m.getD ((n:Int)-k)=(n:Int)-k) then
    some (if l.getD 0=(n:Int)-k then .CQ false e [] else .sl i n (k+(l.getD 0).toNat) (h.getD len-l.getD 0).toNat)
   else none
  | none=>none
 | _,_,_,_,_=>none
theorem sliceIn_sound {P:Program} {C:Ctx} {T:TypeId} {x p:PV} {X:Value} {lo hi mx:Option PV} {L Hi M:Option Value} (hx:RV P C x X)
  (hl:∀ r,E4 lo=some r->Bd L r) (hh:∀ r,E4 hi=some r->Bd Hi r) (hm:∀ r,E4 mx=some r->Bd M r) (h:sliceIn P C.H T x lo hi mx=some p):
  ∃ e,P.underlying T=some (.slice e)/\∃ v,(Instr.slice T X L Hi M).run P C.w=.ok v C.w/\RV P C p v:=by
 unfold sliceIn at h;split at h
 ·rename_i e i n k len l h' m hu e1 e2 e3;split at h
  ·rename_i r hr;split at h
   ·rename_i hc;simp only[Aa,Aw,Ab,Al,A0] at hc;obtain⟨⟨⟨⟨⟨hk,h2⟩,h3⟩,hnl⟩,hmh⟩,g0,g1,g2,g3⟩:=hc;cases h;refine⟨e,hu,?_⟩;cases hx with
    | sl hV hi' hle hh2 =>
     obtain⟨q0,a,cap,rfl,q1,q2⟩:=hh2 r hr h2;unfold EI at q2;rw[An (by simp[hnl])] at q2;obtain⟨b,p1,rfl,c,ee,fr,p2,p3,p4⟩:=q2;rw[h2] at p4;obtain⟨c',hb,hc'⟩:∃ c',(Instr.sliceBounds true len cap L Hi M).run P C.w=.ok ((l.getD 0).toNat,(h'.getD len).toNat,c') C.w/\n<=k+c'/\c'<=cap:=by
      cases m with
      | none =>
       have hM:M=none:=by rcases hm _ e3 with ⟨rfl,_⟩ | ⟨_,_,_,hz⟩;rfl;cases hz
       subst hM;simp only[Option.getD_none] at g2;exact⟨cap,DW C.w (hl _ e1) (hh _ e2) g0 g1 (by omega),p4,Ak _⟩
      | some m =>
       simp only[Option.isNone_some,A2,Dk] at hmh;obtain⟨h'',rfl⟩:=B4.1 hmh;simp only[Bw] at g1 g2 g3 ⊢;exact⟨m.toNat,IG C.w (hl _ e1) (hh _ e2) (hm _ e3) g0 g1 g2 (by omega),by omega,by omega⟩
     generalize l.getD 0=lo' at *;generalize h'.getD len=hi'' at *;by_cases hend:lo'=(n:Int)-k
     ·rw[Ai hend];refine⟨.slice _ (hi''.toNat-lo'.toNat) (c'-lo'.toNat),by simp only[Instr.slice,Sem.run_bind,run_underlying hu,Result.andThen_ok,hb,run_sizeOf C.w hk,Sem.run_pure];rfl,?_⟩;have e0:hi''.toNat-lo'.toNat=([]:List PV).length:=by simp;omega
      rw[e0];exact .CQ 0 0 (fun _ _=>undef) (by simp) (fun hf=>by cases hf) (fun h0=>by simp at h0) (fun x e j p hx=>by simp at hx) (fun x e j p hx=>by simp at hx) (fun e he=>by simp at he)
     ·rw[An hend];refine⟨.slice (some ⟨b,(k+lo'.toNat)*r.s,none⟩) (hi''-lo').toNat (c'-lo'.toNat),?_,.sl ⟨_,_,rfl⟩ hi' hle fun r' hr' hn => ?_⟩
      ·simp only[Instr.slice,Sem.run_bind,run_underlying hu,Result.andThen_ok,hb,run_sizeOf C.w hk,Sem.run_pure];rw[An (by omega)];simp only[AH,E3,<- h3,<- A9];congr 2
       omega
      ·have e':r'=r:=Ah (hr'.symm.trans hr);subst e';refine⟨by omega,_,_,rfl,by omega,?_⟩;unfold EI;rw[An (by simp[hnl])];refine⟨b,p1,rfl,c,ee,fr,p2,?_,by omega⟩;refine A_ (AY _ ?_) p3;omega
   ·cases h
  ·cases h
 ·cases h

def appIn (P:Program) (ro:Nat) (H:List Row) (c:Call) (x y:PV):Option (PV × List Row):=
 match c.argTypes[0]?,c.argTypes[1]? with
 | some T,some T2 =>
  match P.underlying T,Jj P T T2 H y with
  | some (.slice e),some (ty,t,news) =>
   if known P e&&t==e&&(EL P e).any (fun z=>z.cells.size==P.cellsOf e)&&P.bytesOf e != 0&&(ty||Gx news) then
    match x with
    | .sl i n 0 len =>
     match rowAt H i with
     | some r =>
      if decide (ro<=i)&&(r.es.length==n)&&decide (len+news.length<=n)&&r.t==e&&r.s==P.cellsOf e && !r.fz && !r.nl then
       some (.sl i n 0 (len+news.length),H.set i { r with es:=r.es.take len++news++r.es.drop (len+news.length),bv:=r.bv&&ty }) else none
     | none=>none
    | _=>none
   else none
  | _,_=>none
 | _,_=>none
theorem src_one {P:Program} {C:Ctx} {t:TypeId} {ty:Bool} {news:List PV} {Y:Value} {us:List Value} (hS:Src P C (P.cellsOf t) t ty news Y us) (hcell:(ty||Gx news)=true):∀ v ∈ us,v.oneCell'=true:=fun v hv=>by
 obtain⟨j,hj⟩:=Bb hv;have hlt:j<news.length*P.cellsOf t:=by rw[<- hS.len];exact (Ad.1 hj).1
 have hs0:0<P.cellsOf t:=by
  rcases Cm (P.cellsOf t) with h0 | h0
  ·rw[h0] at hlt;simp at hlt
  ·exact h0
 have hkk:j / P.cellsOf t<news.length:=(Cr hs0).2 hlt;have he:=Ae hkk;have hmem:=Bl hkk;have hmm:j % P.cellsOf t<(news[j / P.cellsOf t]).cells.length:=by rw[hS.el _ hmem];exact Nat.mod_lt _ hs0
 obtain⟨v',g1,g2⟩:=hS.rel (j / P.cellsOf t) _ (j % P.cellsOf t) _ he (Ae hmm);have e3:j / P.cellsOf t*P.cellsOf t+j % P.cellsOf t=j:=by
  have:=Nat.div_add_mod j (P.cellsOf t);rw[CI] at this;omega
 rw[e3,hj] at g1;cases g1;refine g2.oneCell ?_;rcases (A0 _ _).mp hcell with hty | hca
 ·exact wt_cellish (hS.typed hty _ hmem) _ (Bl hmm)
 ·have:=Ap.1 hca _ hmem;exact Ap.1 this _ (Bl hmm)
theorem appIn_sound {P:Program} {C:Ctx} {c:Call} {x y p:PV} {X Y:Value} {H':List Row} (hR:RH P C) (hx:RV P C x X) (hy:RV P C y Y) (h:appIn P C.ro C.H c x y=some (p,H')) (ty0:TypeId):
  ∃ v C',(Builtin.append_ c.argTypes ty0 #[X,Y]).run P C.w=.ok v C'.w/\Iv P C C' H'/\RV P C' p v:=by
 unfold appIn at h;split at h
 ·rename_i T T2 hT hT2;split at h
  ·rename_i e ty t news hu hsrc;have hu2:=srcT_under hsrc;split at h
   ·rename_i hc;simp only[Aa,Aw,bne_iff_ne] at hc;obtain⟨⟨⟨⟨hk,rfl⟩,hz⟩,hby⟩,hcell⟩:=hc;obtain⟨i,d,hinfo,hd,hsz⟩:=Fz hk;obtain⟨us,hS⟩:=LL hR hy hsrc;split at h
    ·rename_i ii n len;split at h
     ·rename_i r hr;split at h
      ·rename_i hc2;simp only[Aa,Aw,Ab,Al] at hc2;obtain⟨⟨⟨⟨⟨⟨hro,hn⟩,hle5⟩,hrt⟩,hrs⟩,hfz⟩,hnl⟩:=hc2;cases h;have hlive:=live_of hr;cases hx with
       | sl hV hi hle hh =>
        obtain⟨q0,a,cap,rfl,hcap,hs⟩:=hh r hr hn;unfold EI at hs;rw[An (by simp[hnl])] at hs;obtain⟨b,hb,rfl,c0,e0,fr0,hh1,hh2,hh3⟩:=hs;rw[hn] at hh3;have hN:GZ P C r.s news us:=by rw[hrs];exact hS.rel3
        obtain⟨C',g1,g2⟩:=set_range (ty:=ty) hR hi hro hr hfz hb (k:=len) (by omega) hN (src_one hS hcell) (fun hty e he=>by rw[hrt];exact hS.typed hty e he);have hrun:=run_append_room' (P:=P) (n:=len) (cap:=cap) (m:=news.length) (Y:=Y) (a:=some ⟨b,0*r.s,none⟩) C.w hT hT2 hu hu2 hS.shape hinfo (by omega) ty0;have hf:=hS.first news.length rfl
        rw[hsz] at hf;rw[hf] at hrun;simp only[Result.andThen_ok,E3,CJ,AN,<- hsz] at hrun;rw[<- hrs,g1] at hrun;simp only[Result.andThen_ok] at hrun;refine⟨.slice (some ⟨b,0,none⟩) (len+news.length) cap,C',by rw[CJ];exact hrun,g2,?_⟩;generalize hr2:({ r with es:=r.es.take len++news++r.es.drop (len+news.length),bv:=r.bv&&ty }:Row)=r2 at g2;have hlen2:r2.es.length=n:=by rw[<- hr2];simp;omega
        have hrow:C'.row? ii=some r2:=by
         show rowAt C'.H ii=some r2
         rw[g2.H,DX hi (by rw[<- hr2];exact hlive)];simp
        refine .sl ⟨_,_,rfl⟩ (by rw[g2.H,Bv];exact hi) (fun r' hr' => ?_) fun r' hr' _ => ?_
        ·have:r'=r2:=Ah (hr'.symm.trans hrow);rw[this,hlen2];exact Ak _
        ·have:r'=r2:=Ah (hr'.symm.trans hrow);subst this;refine⟨by omega,_,_,rfl,by omega,?_⟩;unfold EI;rw[An (by rw[<- hr2];simp[hnl])];obtain⟨c2,fr2,k1,k2⟩:=g2.ext.shape b c0 e0 fr0 hh1;obtain⟨r3,z1,_,_,_,z2⟩:=g2.ext.rows ii r' hi hrow;have:r3=r:=Ah (z1.symm.trans hr);subst this;refine⟨b,(z2 (by rw[hlen2,hn])).2 b hb,by simp,c2,e0,fr2,k1,?_,by rw[hlen2];omega⟩;rw[k2,show r'.s=r3.s by rw[<- hr2]];exact hh2
      ·cases h
     ·cases h
    ·cases h
   ·cases h
  ·cases h
 ·cases h

def clrIn (P:Program) (ro:Nat) (H:List Row) (c:Call) (x:PV):Option (PV × List Row):=
 match c.argTypes[0]? with
 | some T =>
  match P.underlying T with
  | some (.slice e) =>
   match EL P e with
   | some z =>
    match x with
    | .sl i n k (len+1) =>
     match rowAt H i with
     | some r =>
      if decide (ro<=i)&&r.t==e&&clearOk P e z && !r.fz&&(r.es.length==n) && !r.nl then
       some (.val (.tuple #[]),H.set i { r with es:=r.es.take k++List.replicate (len+1) (zeroE P e z)++r.es.drop (k+(len+1)),bv:=r.bv&&wt P e (zeroE P e z) }) else none
     | none=>none
    | _=>none
   | none=>none
  | _=>none
 | none=>none
def inQ (P:Program) (ro:Nat) (H:List Row) (f:Operand->PV):Op->Option (PV × List Row)
 | .slice t x lo hi mx=>(sliceIn P H t (f x) (lo.map f) (hi.map f) (mx.map f)).map fun p=>(p,H)
 | .call c =>
  match c.callee with
  | .builtin .append=>match c.args.toList with | [x,y]=>appIn P ro H c (f x) (f y) | _=>none
  | .builtin .clear=>match c.args.toList with | [x]=>clrIn P ro H c (f x) | _=>none
  | _=>none
 | _=>none
theorem inf_set {H:List Row} {f:Operand->PV} {op:Op} {i n len:Nat} {r:Row} (h:∀ c x y,apOp op=some (c,x,y)->f x=.sl i n 0 len):InF H f op (H.set i r):=fun c x y e=>by
 refine⟨by simp,fun z hz hn => ?_⟩;have:=(hn _ _ _ _ (h c x y e)).1;unfold rowAt;rw[Ca (fun e=>this e.symm)]
theorem apOp_of {c:Call} {x y:Operand} (h1:c.callee=.builtin .append) (h2:c.args.toList=[x,y]):apOp (.call c)=some (c,x,y):=by
 unfold apOp;simp only[h1,h2]
def appG (P:Program) (T0:TypeId) (ro:Nat) (H:List Row) (c:Call) (x y:PV):Option (DT (PV × List Row)):=
 match c.argTypes[0]?,c.argTypes[1]? with
 | some T,some T2 =>
  bif T==T0 then
  match P.underlying T,Jj P T T2 H y with
  | some (.slice e),some (ty,t,[z]) =>
    match x with
    | .sl i n 0 len =>
     match rowAt H i with
     | some r=>some (.br ((known P e&&t==e&&(EL P e).any (fun z=>z.cells.size==P.cellsOf e)&&P.bytesOf e != 0&&(ty||Gx [z])) &&
       (decide (ro<=i)&&(r.t==e&&(r.s==P.cellsOf e&&(!r.fz && !r.nl))))&&((r.es.length==n)&&(decide (len<=n)&&decide ((n+1)*P.bytesOf e<=140737488355328))))
       (.leaf (.sl i (max n (len+1)) 0 (len+1),H.set i { r with es:=r.es.take len++z::r.es.drop (len+1),bv:=r.bv&&ty })) .no)
     | none=>none
    | _=>none
  | _,_=>none
  else none
 | _,_=>none
theorem appG_sound {P:Program} {T0:TypeId} {C:Ctx} {c:Call} {x y p:PV} {X Y:Value} {d:DT (PV × List Row)} {H':List Row} (hR:RH P C) (hx:RV P C x X) (hy:RV P C y Y) (h:appG P T0 C.ro C.H c x y=some d) (hd:d.run=some (p,H')) (ty0:TypeId):
  ∃ v C',(Builtin.append_ c.argTypes ty0 #[X,Y]).run P C.w=.ok v C'.w/\Iv P C C' H'/\RV P C' p v:=by
 unfold appG at h;split at h
 ·rename_i T T2 hT hT2;cases hTT:T==T0 with
  | false=>rw[hTT] at h;cases h
  | true =>
   rw[hTT,Am] at h;split at h
   ·rename_i e ty t z hu hsrc;split at h
    ·rename_i i n len;split at h
     ·rename_i r hr;cases h;simp only[DT.run,Cj] at hd;split at hd
      ·rename_i hc;cases hd;simp only[Aa,Ab,Aw,Al] at hc;obtain⟨⟨h1,hro,ht,hs,hfz,hnl⟩,hn,hle,hbig⟩:=hc;have hcond:(known P e&&t==e&&(EL P e).any (fun z=>z.cells.size==P.cellsOf e)&&P.bytesOf e != 0&&(ty||Gx [z]))=true:=by simpa [and_assoc] using h1
       by_cases hlt:len<n
       ·have hq:appIn P C.ro C.H c (.sl i n 0 len) y=some (.sl i (max n (len+1)) 0 (len+1),C.H.set i { r with es:=r.es.take len++z::r.es.drop (len+1),bv:=r.bv&&ty }):=by
         unfold appIn;simp only[hT,hT2,hu,hsrc,hcond,hr,BO,Ay,AC];rw[Ai (by simp[hro,hn,ht,hs,hfz,hnl];omega),show max n (len+1)=n by omega];simp
        exact appIn_sound hR hx hy hq ty0
       ·have hlen:n=len:=by omega
        subst hlen;have hq:Es P C.ro C.H c (.sl i n 0 n) y=some (.sl i (max n (n+1)) 0 (n+1),C.H.set i { r with es:=r.es.take n++z::r.es.drop (n+1),bv:=r.bv&&ty }):=by
         unfold Es;simp only[hT,hT2,hu,hsrc,hcond,hr,BO,Ay,AC];rw[Ai ⟨hro,hn,trivial,by simpa using hbig⟩,Ai (by simp[ht,hs,hfz]),show max n (n+1)=n+1 by omega];rw[<- hn,Be,AG (Nat.le_succ _)];simp[hnl]
        obtain⟨v,C',g1,g2,g3,_⟩:=FA hR hx hy hq ty0;exact⟨v,C',g1,g2,g3⟩
      ·cases hd
     ·cases h
    ·cases h
   ·cases h
 ·cases h
theorem appG_out {P:Program} {T0:TypeId} {ro:Nat} {H H':List Row} {c:Call} {x y p:PV} {d:DT (PV × List Row)} (h:appG P T0 ro H c x y=some d) (hd:d.run=some (p,H')):∃ i n len r,x=.sl i n 0 len/\H'=H.set i r:=by
 unfold appG at h;split at h
 ·rename_i T T2 hT hT2;cases hTT:T==T0 with
  | false=>rw[hTT] at h;cases h
  | true =>
   rw[hTT,Am] at h;split at h
   ·split at h
    ·split at h
     ·cases h;simp only[DT.run,Cj] at hd;split at hd
      ·cases hd;exact⟨_,_,_,_,rfl,rfl⟩
      ·cases hd
     ·cases h
    ·cases h
   ·cases h
 ·cases h
def CO.Jv (E:CO) (P:Program) (T0:TypeId):CO:={ E with Ec:=fun ro H f op =>
 match op with
 | .call c =>
  match c.callee with
  | .builtin .append=>match c.args.toList with | [x,y]=>(match appG P T0 ro H c (f x) (f y) with | some d=>some d | none=>E.Ec ro H f op) | _=>E.Ec ro H f op
  | _=>E.Ec ro H f op
 | _=>E.Ec ro H f op }
theorem Ck.Jv {P:Program} {E:CO} (hE:Ck P E.env) (T0:TypeId):Ck P (E.Jv P T0).env where
 G2:=hE.G2
 Gq:=hE.Gq
 Ff:=hE.Ff
 lo:=fun f fn b h1 h2=>FV.mono (E:=E.env) (E':=(E.Jv P T0).env) (fun _ _ _ _ _ _ _ h=>h) (hE.lo f fn b h1 h2)
 EP:=hE.EP
 F9:=hE.F9
 Ev:=hE.Ev
 Ec:=fun ro H f op p H' h=>by
  change Option.bind ((E.Jv P T0).Ec ro H f op) DT.run=some (p,H') at h
  unfold CO.Jv at h;dsimp only at h;split at h
  ·rename_i c;split at h
   ·rename_i hc;split at h
    ·rename_i x y hargs;split at h
     ·rename_i d hd;refine⟨?_,by
       obtain⟨i,n,len,r,h1,rfl⟩:=appG_out hd h;refine inf_set (n:=n) (len:=len) fun c' x' y' e => ?_
       rw[apOp_of hc hargs] at e;cases e;exact h1⟩
      intro C g o ho hro hH hR hv;subst hro;subst hH;obtain⟨dst,op',type,pos,after,guard⟩:=o;simp only at ho;subst ho;have hca:c.args = #[x,y]:=by apply Bs;simpa using hargs
      obtain⟨v,C',g1,g2,g3⟩:=appG_sound hR (hv x (by simp[Op.operands,Call.operands,hc,hca])) (hv y (by simp[Op.operands,Call.operands,hc,hca])) hd h type;refine⟨_,v,C',?_,.inl rfl,g2,g3⟩;simp only[execOp,resolve,hc,hca,Sem.run_bind,Sem.run_pure,Result.andThen_ok,invoke,builtin,BC,AZ,Bu,g1]
     ·exact hE.Ec ro H f _ p H' h
    ·exact hE.Ec ro H f _ p H' h
   ·exact hE.Ec ro H f _ p H' h
  ·exact hE.Ec ro H f _ p H' h
def appF (P:Program) (T0:TypeId) (ro:Nat) (H:List Row) (c:Call) (x y:PV):Option (DT (PV × List Row)):=
 match appG P T0 ro H c x y,x with
 | some (.br b (.leaf (.sl j N k l,H1)) .no),.sl i _ 0 _ =>
  match rowAt H1 i with
  | some r=>some (.br (b&&((Nat.beq j i&&Nat.beq k 0)&&(decide (ro<=i)&&(Dj i (H.take i)&&((H1.drop i).all (fun r=>r.lp.isNone)&&(r.bv&&(r.es.length==N)))))))
    (.leaf (.CQ false r.t (r.es.take l),H.take i++List.replicate (H.length-i) C6)) .no)
  | none=>none
 | _,_=>none
theorem appF_sound {P:Program} {T0:TypeId} {C:Ctx} {c:Call} {x y p:PV} {X Y:Value} {d:DT (PV × List Row)} {H':List Row} (hR:RH P C) (hx:RV P C x X) (hy:RV P C y Y) (h:appF P T0 C.ro C.H c x y=some d) (hd:d.run=some (p,H')) (ty0:TypeId):
  ∃ v C',(Builtin.append_ c.argTypes ty0 #[X,Y]).run P C.w=.ok v C'.w/\Iv P C C' H'/\RV P C' p v:=by
 unfold appF at h;split at h
 ·rename_i b j N k l H1 i n len hg;split at h
  ·rename_i r hr;cases h;simp only[DT.run,Cj] at hd;split at hd
   ·rename_i hc;cases hd;rw[Aa] at hc;obtain⟨hb,hc⟩:=hc;simp only[Aa,Ab,Aw] at hc;obtain⟨⟨hj,hk⟩,hro,hok,hlp,hbv,hN⟩:=hc;have hj:=Bm hj;have hk:=Bm hk;subst hj;subst hk;have hrun:(DT.br b (.leaf ((.sl j N 0 l,H1):PV × List Row)) .no).run=some (.sl j N 0 l,H1):=by rw[hb];rfl
    obtain⟨v,C1,g1,g2,g3⟩:=appG_sound hR hx hy hg hrun ty0;obtain⟨i2,n2,len2,r2,e1,e2⟩:=appG_out hg hrun;cases e1;have hH1:C1.H=C.H.set j r2:=by rw[g2.H,e2]
    have hlen:C1.H.length=C.H.length:=by rw[hH1];simp
    have htk:C1.H.take j=C.H.take j:=by rw[hH1,List.take_set_of_le (Ak _)]
    have hjl:j<C1.H.length:=by rw[g2.H];exact Ek hr
    have hlp1:(C1.H.drop j).all (fun r=>r.lp.isNone)=true:=by rw[g2.H];exact hlp
    have hx1:=MQ (C:=C1) (h:=j) (by omega) (by rw[g2.ext.ro];exact hro) hlp1;have hfz:frz C1.H j (.sl j N 0 l)=.CQ false r.t (r.es.take l):=by
     unfold frz;rw[Ai (Ak _),g2.H,hr];dsimp only;rw[Ai (by simp[hbv,hN]),AM]
    refine⟨v,(C1.cut j False C1.ro).DS (C1.H.length-j),g1,⟨?_,g2.ext.trans hx1,MP _ (g2.rh.cut (by omega) (by rw[g2.ext.ro];exact hro) (by rw[htk];exact hok))⟩,?_⟩
    ·show C1.H.take j++List.replicate (C1.H.length-j) C6=_
     rw[htk,hlen]
    ·have h1:=g3.frz g2.rh (ro:=C1.ro) (h:=j) (by omega) (by rw[hfz];rfl);rw[hfz] at h1;exact h1.mono (FY _ _ (by show C1.ro<=(C1.H.take j).length;rw[Az,g2.ext.ro];omega))
   ·cases hd
  ·cases h
 ·cases h
theorem appF_out {P:Program} {T0:TypeId} {ro:Nat} {H H':List Row} {c:Call} {x y p:PV} {d:DT (PV × List Row)} (h:appF P T0 ro H c x y=some d) (hd:d.run=some (p,H')):∃ i n len,x=.sl i n 0 len/\i<H.length/\H'=H.take i++List.replicate (H.length-i) C6:=by
 unfold appF at h;split at h
 ·rename_i b j N k l H1 i n len hg;split at h
  ·rename_i r hr;cases h;simp only[DT.run,Cj] at hd;split at hd
   ·rename_i hc;cases hd;rw[Aa] at hc;have hrun:(DT.br b (.leaf ((.sl j N k l,H1):PV × List Row)) .no).run=some (.sl j N k l,H1):=by rw[hc.1];rfl
    obtain⟨i2,n2,len2,r2,e1,e2⟩:=appG_out hg hrun;have:=Ek hr;rw[e2] at this;exact⟨i,n,len,rfl,by simpa using this,rfl⟩
   ·cases hd
  ·cases h
 ·cases h
def appN (P:Program) (ro:Nat) (H:List Row) (c:Call) (x y:PV):Option (DT (PV × List Row)):=
 match x with
 | .val (.slice none 0 0) =>
  match Es P ro H c (.val (.slice none 0 0)) y with
  | some (.sl j N k l,H1) =>
   match rowAt H1 j with
   | some r=>some (.br ((Nat.beq j H.length&&Nat.beq k 0)&&(Dj H.length H&&(r.bv&&(r.es.length==N)))) (.leaf (.CQ false r.t (r.es.take l),H)) .no)
   | none=>none
  | _=>none
 | _=>none
theorem appN_sound {P:Program} {C:Ctx} {c:Call} {x y p:PV} {X Y:Value} {d:DT (PV × List Row)} {H':List Row} (hR:RH P C) (hx:RV P C x X) (hy:RV P C y Y) (h:appN P C.ro C.H c x y=some d) (hd:d.run=some (p,H')) (ty0:TypeId):
  H'=C.H/\∃ v C',(Builtin.append_ c.argTypes ty0 #[X,Y]).run P C.w=.ok v C'.w/\Iv P C C' H'/\RV P C' p v:=by
 unfold appN at h;split at h
 ·split at h
  ·rename_i j N k l H1 hq;split at h
   ·rename_i r hr;cases h;simp only[DT.run,Cj] at hd;split at hd
    ·rename_i hc;cases hd;simp only[Aa,Aw] at hc;obtain⟨⟨hj,hk⟩,hok,hbv,hN⟩:=hc;have hj:=Bm hj;have hk:=Bm hk;subst hj;subst hk;obtain⟨v,C1,g1,g2,g3,_⟩:=FA hR hx hy hq ty0;have htk:C1.H.take C.H.length=C.H:=by
      rw[g2.H];rcases appendQ_out hq with rfl | ⟨q,rfl⟩ | ⟨i,n,len,q,e,_⟩
      ·exact Be
      ·simp
      ·cases e
     have hle:C.H.length<=C1.H.length:=by rw[g2.H];exact Nat.le_of_lt (Ek hr)
     have hfz:frz C1.H C.H.length (.sl C.H.length N 0 l)=.CQ false r.t (r.es.take l):=by
      unfold frz;rw[Ai (Ak _),g2.H,hr];dsimp only;rw[Ai (by simp[hbv,hN]),AM]
     refine⟨rfl,v,C1.cut C.H.length False C1.ro,g1,⟨htk,g2.ext.cut (Ak _) hle hR.ro,g2.rh.cut hle (by rw[g2.ext.ro];exact hR.ro) (by rw[htk];exact hok)⟩,?_⟩;have h1:=g3.frz g2.rh (ro:=C1.ro) (h:=C.H.length) hle (by rw[hfz];rfl);rw[hfz] at h1;exact h1
    ·cases hd
   ·cases h
  ·cases h
 ·cases h
theorem run_brL {α:Type} {b:Bool} {x r:α} (h:(DT.br b (.leaf x) .no).run=some r):x=r:=by
 cases b with
 | true=>exact Ah h
 | false=>cases h
def isTmp (a:Nat):Operand->Bool | .tmp t=>Nat.beq t a | _=>false
def CO.Jw (E:CO) (P:Program) (T0:TypeId) (a b:Nat):CO:={ E with Ec:=fun ro H f op =>
 match op with
 | .call c =>
  match c.callee with
  | .builtin .append=>match c.args.toList with | [x,y]=>(match isTmp a x&&isTmp b y with | true=>(match appF P T0 ro H c (f x) (f y) with | some d=>some d | none=>(match appN P ro H c (f x) (f y) with | some d=>some d | none=>E.Ec ro H f op)) | false=>E.Ec ro H f op) | _=>E.Ec ro H f op
  | _=>E.Ec ro H f op
 | _=>E.Ec ro H f op }
theorem Ck.Jw {P:Program} {E:CO} (hE:Ck P E.env) (T0:TypeId) (a b:Nat):Ck P (E.Jw P T0 a b).env where
 G2:=hE.G2
 Gq:=hE.Gq
 Ff:=hE.Ff
 lo:=fun f fn bb h1 h2=>FV.mono (E:=E.env) (E':=(E.Jw P T0 a b).env) (fun _ _ _ _ _ _ _ h=>h) (hE.lo f fn bb h1 h2)
 EP:=hE.EP
 F9:=hE.F9
 Ev:=hE.Ev
 Ec:=fun ro H f op p H' h=>by
  change Option.bind ((E.Jw P T0 a b).Ec ro H f op) DT.run=some (p,H') at h
  unfold CO.Jw at h;dsimp only at h;split at h
  ·rename_i c;split at h
   ·rename_i hc;split at h
    ·rename_i x y hargs;split at h
     rotate_left
     ·exact hE.Ec ro H f _ p H' h
     split at h
     ·rename_i d hd;refine⟨?_,by
       obtain⟨i,n,len,h1,hl,rfl⟩:=appF_out hd h;intro c' x' y' e;rw[apOp_of hc hargs] at e;cases e;refine⟨by simp;omega,fun z hz hn => ?_⟩;have hdead:rowAt (H.take i++List.replicate (H.length-i) C6) i=none:=by
        unfold rowAt;rw[Bj (by rw[Az];omega),Az,show i-min i H.length=0 by omega,Bx,Ai (by omega)];rfl
       have hzi:=(hn _ _ _ _ h1).2 hdead;unfold rowAt;rw[As (by rw[Az];omega),Av,Ai hzi]⟩
      intro C g o ho hro hH hR hv;subst hro;subst hH;obtain⟨dst,op',type,pos,after,guard⟩:=o;simp only at ho;subst ho;have hca:c.args = #[x,y]:=by apply Bs;simpa using hargs
      obtain⟨v,C',g1,g2,g3⟩:=appF_sound hR (hv x (by simp[Op.operands,Call.operands,hc,hca])) (hv y (by simp[Op.operands,Call.operands,hc,hca])) hd h type;refine⟨_,v,C',?_,.inl rfl,g2,g3⟩;simp only[execOp,resolve,hc,hca,Sem.run_bind,Sem.run_pure,Result.andThen_ok,invoke,builtin,BC,AZ,Bu,g1]
     ·split at h
      ·rename_i d hd;have key:∀ (C:Ctx) (g:Operand->Value) (o:Oper),o.op=.call c->C.ro=ro->C.H=H->RH P C->(∀ x ∈ (Op.call c).operands,RV P C (f x) (g x))->H'=C.H/\∃ n v C',(execOp g o).run P C.w=.ok n C'.w/\(n=.value v\/(n=.skip/\v=undef))/\Iv P C C' H'/\RV P C' p v:=by
        intro C g o ho hro hH hR hv;subst hro;subst hH;obtain⟨dst,op',type,pos,after,guard⟩:=o;simp only at ho;subst ho;have hca:c.args = #[x,y]:=by apply Bs;simpa using hargs
        obtain⟨e0,v,C',g1,g2,g3⟩:=appN_sound hR (hv x (by simp[Op.operands,Call.operands,hc,hca])) (hv y (by simp[Op.operands,Call.operands,hc,hca])) hd h type;refine⟨e0,_,v,C',?_,.inl rfl,g2,g3⟩;simp only[execOp,resolve,hc,hca,Sem.run_bind,Sem.run_pure,Result.andThen_ok,invoke,builtin,BC,AZ,Bu,g1]
       refine⟨fun C g o ho hro hH hR hv=>(key C g o ho hro hH hR hv).2,?_⟩;have hH':H'=H:=by
        unfold appN at hd;split at hd
        ·split at hd
         ·split at hd
          ·cases hd;exact (congrArg Prod.snd (run_brL h)).symm
          ·cases hd
         ·cases hd
        ·cases hd
       subst hH';exact .same
      ·exact hE.Ec ro H f _ p H' h
    ·exact hE.Ec ro H f _ p H' h
   ·exact hE.Ec ro H f _ p H' h
  ·exact hE.Ec ro H f _ p H' h
def rawQ (P:Program) (H:List Row) (f:Operand->PV) (T:TypeId) (len:Nat) (parts:Array (Nat × Operand)):Option (DT (PV × List Row)):=
 match Ih P T len (parts.toList.map fun x=>(x.1,f x.2)) with
 | some (e,es)=>some (.leaf (.sl H.length len 0 len,H++[Dz P e es]))
 | none=>none
theorem rawQ_sound {P:Program} {C:Ctx} {f:Operand->PV} {g:Operand->Value} {o:Oper} {T:TypeId} {len:Nat} {parts:Array (Nat × Operand)} {d:DT (PV × List Row)} {p:PV} {H':List Row} (ho:o.op=.buildSlice T len parts) (hR:RH P C) (hv:∀ x ∈ (Op.buildSlice T len parts).operands,RV P C (f x) (g x))
  (h:rawQ P C.H f T len parts=some d) (hd:d.run=some (p,H')):∃ v C',(execOp g o).run P C.w=.ok (.value v) C'.w/\Iv P C C' H'/\RV P C' p v:=by
 unfold rawQ at h;split at h
 ·rename_i e es hq;cases h;cases hd;have hx1:=EM hR (Dz P e es);have hR1:=GN hR (Dz P e es);have hlen:(C.more (Dz P e es)).H.length=C.H.length+1:=by simp[Ctx.more]
  have hrow:(C.more (Dz P e es)).row? C.H.length=some (Dz P e (es.map id)):=by
   show rowAt (C.H++[Dz P e es]) C.H.length=some (Dz P e (es.map id))
   unfold rowAt;rw[List.map_id];simp[Dz]
  obtain⟨v,C',g1,g2⟩:=build_sound (C:=C.more (Dz P e es)) ho hR1 (by omega) (hR.Gd (Ak _)) hR.ro id (fun _=>rfl) (fun x j p h=>⟨p,h,fun _ _ _ h=>h⟩) hrow (fun x hx=>(hv x hx).mono hx1) hq;exact⟨v,C',g1,⟨by rw[g2.H];rfl,hx1.trans g2.ext,g2.rh⟩,g2.rv⟩
 ·cases h
def CO.L7 (E:CO) (P:Program) (a:Nat):CO:={ E with Ec:=fun ro H f op =>
 match op with
 | .buildSlice T len parts=>match parts.toList with | [(_,x)]=>(match isTmp a x with | true=>(match rawQ P H f T len parts with | some d=>some d | none=>E.Ec ro H f op) | false=>E.Ec ro H f op) | _=>E.Ec ro H f op
 | _=>E.Ec ro H f op }
theorem Ck.L7 {P:Program} {E:CO} (hE:Ck P E.env) (a:Nat):Ck P (E.L7 P a).env where
 G2:=hE.G2
 Gq:=hE.Gq
 Ff:=hE.Ff
 lo:=fun f fn b h1 h2=>FV.mono (E:=E.env) (E':=(E.L7 P a).env) (fun _ _ _ _ _ _ _ h=>h) (hE.lo f fn b h1 h2)
 EP:=hE.EP
 F9:=hE.F9
 Ev:=hE.Ev
 Ec:=fun ro H f op p H' h=>by
  change Option.bind ((E.L7 P a).Ec ro H f op) DT.run=some (p,H') at h
  unfold CO.L7 at h;dsimp only at h;split at h
  ·rename_i T len parts;split at h
   ·split at h
    ·split at h
     ·rename_i d hd;refine⟨?_,.of_no rfl⟩;intro C g o ho hro hH hR hv;subst hro;subst hH;obtain⟨v,C',g1,g2,g3⟩:=rawQ_sound ho hR hv hd h;exact⟨_,v,C',g1,.inl rfl,g2,g3⟩
     ·exact hE.Ec ro H f _ p H' h
    ·exact hE.Ec ro H f _ p H' h
   ·exact hE.Ec ro H f _ p H' h
  ·exact hE.Ec ro H f _ p H' h
def cvQ (P:Program) (src dst:TypeId) (x:PV):Option (DT PV):=
 match P.underlying src,P.underlying dst,x with
 | some (.float _),some (.int k),.val (.float s b) =>
  some (.br (((s.decode b).toInt .zero).isSome&&(decide (k.min<=((s.decode b).toInt .zero).getD 0)&&decide (((s.decode b).toInt .zero).getD 0<=k.max))) (.leaf (.val (.int k (((s.decode b).toInt .zero).getD 0)))) .no)
 | _,_,_=>none
theorem cvQ_convV {P:Program} {src dst:TypeId} {x p:PV} {d:DT PV} (h:cvQ P src dst x=some d) (hd:d.run=some p):convV P src dst x=some p:=by
 unfold cvQ at h;split at h
 ·rename_i fk k s b h1 h2;cases h;simp only[DT.run,Cj] at hd;split at hd
  ·rename_i hc;cases hd;simp only[Aa,Ab,B4] at hc;obtain⟨⟨n,hn⟩,h3,h4⟩:=hc;rw[hn] at h3 h4;unfold convV;simp only[h1,h2,hn];exact Ai ⟨h3,h4⟩
  ·cases hd
 ·cases h
def CO.addCv (E:CO) (P:Program):CO:={ E with Ec:=fun ro H f op =>
 match op with
 | .convert s d x=>(match cvQ P s d (f x) with | some q=>some (q.map fun p=>(p,H)) | none=>E.Ec ro H f op)
 | _=>E.Ec ro H f op }
theorem Ck.addCv {P:Program} {E:CO} (hE:Ck P E.env):Ck P (E.addCv P).env where
 G2:=hE.G2
 Gq:=hE.Gq
 Ff:=hE.Ff
 lo:=fun f fn b h1 h2=>FV.mono (E:=E.env) (E':=(E.addCv P).env) (fun _ _ _ _ _ _ _ h=>h) (hE.lo f fn b h1 h2)
 EP:=hE.EP
 F9:=hE.F9
 Ev:=hE.Ev
 Ec:=fun ro H f op p H' h=>by
  change Option.bind ((E.addCv P).Ec ro H f op) DT.run=some (p,H') at h
  unfold CO.addCv at h;dsimp only at h;split at h
  ·rename_i s d x;split at h
   ·rename_i q hq;obtain⟨p0,h1,h2⟩:=DT.run_map h;cases h2;refine⟨?_,.of_no rfl⟩;intro C g o ho hro hH hR hv;subst hro;subst hH;obtain⟨dst,op',type,pos,after,guard⟩:=o;simp only at ho;subst ho;obtain⟨v,g1,rfl⟩:=convV_sound (hv x (by simp[Op.operands])) (cvQ_convV hq h1) C.w;exact⟨_,v,C,by simp only[execOp,Sem.run_bind,g1,Result.andThen_ok,Sem.run_pure],.inl rfl,⟨rfl,.refl C,hR⟩,.val⟩
   ·exact hE.Ec ro H f _ p H' h
  ·exact hE.Ec ro H f _ p H' h
end Go.Hx
namespace Go.Hx
open Go.MapKept
def CO.Jx (E:CO) (f:FuncId) (id:Nat):CO:={ E with soft:=fun g i=>bif g==f&&i==id then true else E.soft g i }
theorem Ck.Jx {P:Program} {E:CO} (hE:Ck P E.env) (f:FuncId) (id:Nat):Ck P (E.Jx f id).env where
 G2:=hE.G2
 Gq:=hE.Gq
 Ff:=hE.Ff
 lo:=fun g fn b h1 h2=>FV.mono (E:=E.env) (E':=(E.Jx f id).env) (fun _ _ _ _ _ _ _ h=>h) (hE.lo g fn b h1 h2)
 EP:=hE.EP
 Ec:=hE.Ec
 F9:=hE.F9
 Ev:=hE.Ev
end Go.Hx
namespace Go.Hx
inductive L1 where
 | i (n:Int) | b (b:Bool) | n (n:Nat) | l (f:Bool) (es:List PV) | s (s:ByteArray) | p (p:PV) | r (r:Row) | m (D:List (PV × PV))
inductive X1 where
 | any | int (k:IntKind) | bool | CQ (t:TypeId) | str | ptr (i n k j:Nat) | sl (i:Nat) | slo (i:Nat) | nil | pv | HE (i:Nat) | agg (cs:List X1) | fn (f:FuncId) (first cap:List X1) | mp (i:Nat)
abbrev C4:X1:=.int .i64
mutual
def X1.get:X1->PV->Option (List L1)
 | .any,.any=>some []
 | .int k,.val (.int k' n)=>if k==k' then some [.i n] else none
 | .bool,.val (.bool v)=>some [.b v]
 | .CQ t,.CQ f t' es=>if t==t' then some [.l f es] else none
 | .str,.val (.string s)=>some [.s s]
 | .ptr i n k j,.ptr i' n' k' j'=>if i==i'&&n==n'&&k==k'&&j==j' then some [] else none
 | .sl i,.sl i' n k l=>if i==i'&&k==0 then some [.n n,.n l] else none
 | .slo i,.sl i' n k l=>if i==i' then some [.n n,.n k,.n l] else none
 | .nil,.val (.slice none 0 0)=>some []
 | .pv,p=>some [.p p]
 | .HE i,.HE i'=>if i==i' then some [] else none
 | .agg cs,.agg ps=>X1.L8 cs ps
 | .mp i,.mp i'=>if i==i' then some [] else none
 | .fn f a b,.fn (.func f') ags bs=>if f==f' then (match X1.L8 a ags,X1.L8 b bs with | some x,some y=>some (x++y) | _,_=>none) else none
 | _,_=>none
def X1.L8:List X1->List PV->Option (List L1)
 | [],[]=>some []
 | c::cs,p::ps=>match X1.get c p,X1.L8 cs ps with | some x,some xs=>some (x++xs) | _,_=>none
 | _,_=>none
end
mutual
def X1.len:X1->Nat
 | .any=>0 | .int _=>1 | .bool=>1 | .CQ _=>1 | .str=>1 | .ptr _ _ _ _=>0 | .sl _=>2 | .slo _=>3 | .nil=>0 | .pv=>1 | .HE _=>0 | .mp _=>0 | .agg cs=>X1.lens cs | .fn _ a b=>X1.lens a+X1.lens b
def X1.lens:List X1->Nat
 | []=>0 | c::cs=>c.len+X1.lens cs
end
mutual
def X1.put:X1->List L1->PV
 | .any,_=>.any
 | .int k,[.i n]=>.val (.int k n)
 | .bool,[.b v]=>.val (.bool v)
 | .CQ t,[.l f es]=>.CQ f t es
 | .str,[.s s]=>.val (.string s)
 | .ptr i n k j,_=>.ptr i n k j
 | .sl i,[.n n,.n l]=>.sl i n 0 l
 | .slo i,[.n n,.n k,.n l]=>.sl i n k l
 | .nil,_=>.val (.slice none 0 0)
 | .pv,[.p p]=>p
 | .HE i,_=>.HE i
 | .mp i,_=>.mp i
 | .agg cs,xs=>.agg (X1.puts cs xs)
 | .fn f a b,xs=>.fn (.func f) (X1.puts a (xs.take (X1.lens a))) (X1.puts b (xs.drop (X1.lens a)))
 | _,_=>.any
def X1.puts:List X1->List L1->List PV
 | [],_=>[]
 | c::cs,xs=>X1.put c (xs.take c.len)::X1.puts cs (xs.drop c.len)
end
def X1.leafy:X1->Bool | .agg _=>false | .fn _ _ _=>false | _=>true
theorem X1.E5 {c:X1} {p:PV} {x:List L1} (hc:c.leafy=true) (h:c.get p=some x):p=c.put x/\x.length=c.len:=by
 unfold X1.get at h;split at h
 ·cases h;exact⟨rfl,rfl⟩
 ·split at h
  ·rename_i hk;cases h;rw[Aw] at hk;subst hk;exact⟨rfl,rfl⟩
  ·cases h
 ·cases h;exact⟨rfl,rfl⟩
 ·split at h
  ·rename_i hk;cases h;rw[Aw] at hk;subst hk;exact⟨rfl,rfl⟩
  ·cases h
 ·cases h;exact⟨rfl,rfl⟩
 ·split at h
  ·rename_i hk;cases h;simp only[Aa,Aw] at hk;obtain⟨⟨⟨rfl,rfl⟩,rfl⟩,rfl⟩:=hk;exact⟨rfl,rfl⟩
  ·cases h
 ·split at h
  ·rename_i hk;cases h;simp only[Aa,Aw] at hk;obtain⟨rfl,rfl⟩:=hk;exact⟨rfl,rfl⟩
  ·cases h
 ·split at h
  ·rename_i hk;cases h;rw[Aw] at hk;subst hk;exact⟨rfl,rfl⟩
  ·cases h
 ·cases h;exact⟨rfl,rfl⟩
 ·cases h;exact⟨rfl,rfl⟩
 ·split at h
  ·rename_i hk;cases h;rw[Aw] at hk;subst hk;exact⟨rfl,rfl⟩
  ·cases h
 ·cases hc
 ·split at h
  ·rename_i hk;cases h;rw[Aw] at hk;subst hk;exact⟨rfl,rfl⟩
  ·cases h
 ·cases hc
 ·cases h
mutual
theorem X1.Fh:∀ (c:X1) {p:PV} {x:List L1},c.get p=some x->p=c.put x/\x.length=c.len
 | .agg cs,p,x,h=>by
  cases p with
  | agg ps =>
   simp only[X1.get] at h;obtain⟨h1,h2⟩:=X1.GC cs h;exact⟨by simp only[X1.put];rw[<- h1],h2⟩
  | _=>simp[X1.get] at h
 | .fn f a b,p,x,h=>by
  cases p with
  | fn g ags bs =>
   cases g with
   | func k =>
    simp only[X1.get] at h;split at h
    ·rename_i hf;split at h
     ·rename_i x1 y1 hx hy;cases h;obtain⟨h1,h2⟩:=X1.GC a hx;obtain⟨h3,h4⟩:=X1.GC b hy;rw[Aw] at hf;subst hf;refine⟨?_,by simp only[X1.len,Ar,h2,h4]⟩;simp only[X1.put];rw[<- h2,CM,Cx,<- h1,<- h3]
     ·cases h
    ·cases h
   | _=>simp[X1.get] at h
  | _=>simp[X1.get] at h
 | .any,_,_,h=>X1.E5 rfl h
 | .int _,_,_,h=>X1.E5 rfl h
 | .bool,_,_,h=>X1.E5 rfl h
 | .CQ _,_,_,h=>X1.E5 rfl h
 | .str,_,_,h=>X1.E5 rfl h
 | .ptr _ _ _ _,_,_,h=>X1.E5 rfl h
 | .sl _,_,_,h=>X1.E5 rfl h
 | .slo _,_,_,h=>X1.E5 rfl h
 | .nil,_,_,h=>X1.E5 rfl h
 | .pv,_,_,h=>X1.E5 rfl h
 | .HE _,_,_,h=>X1.E5 rfl h
 | .mp _,_,_,h=>X1.E5 rfl h
theorem X1.GC:∀ (cs:List X1) {ps:List PV} {x:List L1},X1.L8 cs ps=some x->ps=X1.puts cs x/\x.length=X1.lens cs
 | [],ps,x,h=>by cases ps <;> simp[X1.L8] at h;subst h;exact⟨rfl,rfl⟩
 | c::cs,[],x,h=>by simp[X1.L8] at h
 | c::cs,p::ps,x,h=>by
  simp only[X1.L8] at h;split at h
  ·rename_i a b h1 h2;cases h;obtain⟨e1,e2⟩:=X1.Fh c h1;obtain⟨e3,e4⟩:=X1.GC cs h2;refine⟨?_,by simp only[X1.lens,Ar,e2,e4]⟩;simp only[X1.puts];rw[<- e2,CM,Cx,<- e1,<- e3]
  ·cases h
end
inductive Y1 where
 | one (t s:Nat) (h:X1) | many (t s:Nat) | raw | Gl (t s:Nat) (h:X1) | dead | map (K E:TypeId) | F6 (K E:TypeId) | itr (m:Nat) | its (m:Nat)
def Y1.get:Y1->Row->Option (List L1)
 | .one t s h,r=>if Jo r t s && !r.nl then (match r.es with | [e]=>h.get e | _=>none) else none
 | .many t s,r=>if Jo r t s then some [.l r.nl r.es] else none
 | .raw,r=>some [.r r]
 | .Gl t s h,r=>if Jo { r with bv:=true } t s && !r.nl && !r.bv then (match r.es with | [e]=>h.get e | _=>none) else none
 | .dead,r=>match r with | ⟨[],0,0,true,false,false,none,false⟩=>some [] | _=>none
 | .map K E,r=>match r with | ⟨[],0,0,true,false,false,some ⟨⟨0,[],⟨[]⟩,.skip,.skip⟩,.map K' E' D⟩,false⟩=>if K==K'&&E==E' then some [.m D] else none | _=>none
 | .F6 K E,r=>match r with | ⟨[],0,0,true,false,false,some ⟨⟨0,[],⟨[]⟩,.skip,.skip⟩,.F6 K' E' D⟩,false⟩=>if K==K'&&E==E' then some [.m D] else none | _=>none
 | .itr m,r=>match r with | ⟨[],0,0,true,false,false,some ⟨⟨0,[.mp m'],⟨[]⟩,.skip,.skip⟩,.iter (.fresh n)⟩,false⟩=>if m==m' then some [.n n] else none | _=>none
 | .its m,r=>match r with | ⟨[],0,0,true,false,false,some ⟨⟨0,[.mp m'],⟨[]⟩,.skip,.skip⟩,.iter .some⟩,false⟩=>if m==m' then some [] else none | _=>none
def Y1.len:Y1->Nat | .one _ _ h=>h.len | .many _ _=>1 | .raw=>1 | .Gl _ _ h=>h.len | .dead=>0 | .map _ _=>1 | .F6 _ _=>1 | .itr _=>1 | .its _=>0
def Y1.put:Y1->List L1->Row
 | .one t s h,xs=>{ es:=[h.put xs],s,t,bv:=true }
 | .many t s,[.l nl es]=>{ es,s,t,bv:=true,nl }
 | .raw,[.r r]=>r
 | .Gl t s h,xs=>{ es:=[h.put xs],s,t,bv:=false }
 | .dead,_=>C6
 | .map K E,[.m D]=>{ es:=[],s:=0,t:=0,bv:=true,live:=false,lp:=some ⟨⟨0,[],#[],.skip,.skip⟩,.map K E D⟩ }
 | .F6 K E,[.m D]=>{ es:=[],s:=0,t:=0,bv:=true,live:=false,lp:=some ⟨⟨0,[],#[],.skip,.skip⟩,.F6 K E D⟩ }
 | .itr m,[.n n]=>{ es:=[],s:=0,t:=0,bv:=true,live:=false,lp:=some ⟨⟨0,[.mp m],#[],.skip,.skip⟩,.iter (.fresh n)⟩ }
 | .its m,_=>{ es:=[],s:=0,t:=0,bv:=true,live:=false,lp:=some ⟨⟨0,[.mp m],#[],.skip,.skip⟩,.iter .some⟩ }
 | _,_=>default
theorem Y1.Fh {c:Y1} {p:Row} {x:List L1} (h:c.get p=some x):p=c.put x/\x.length=c.len:=by
 cases c with
 | one t s sh =>
  simp only[Y1.get] at h;split at h
  ·rename_i hb;split at h
   ·rename_i e he;simp only[Aa,Al] at hb;obtain⟨h1,h2⟩:=X1.Fh sh h;refine⟨?_,h2⟩;rw[LY hb.1,he,hb.2];simp only[Y1.put,<- h1]
   ·cases h
  ·cases h
 | many t s =>
  simp only[Y1.get] at h;split at h
  ·rename_i hb;cases h;exact⟨LY hb,rfl⟩
  ·cases h
 | raw=>simp only[Y1.get] at h;cases h;exact⟨rfl,rfl⟩
 | Gl t s sh =>
  simp only[Y1.get] at h;split at h
  ·rename_i hb;split at h
   ·rename_i e he;simp only[Aa,Al] at hb;obtain⟨h1,h2⟩:=X1.Fh sh h;refine⟨?_,h2⟩;have h3:=LY hb.1.1;have h4:p={ ({ p with bv:=true }:Row) with bv:=false }:=by
     cases p;simp only at hb;simp only[hb.2]
    rw[h4,h3];simp only[he,hb.1.2,Y1.put,<- h1]
   ·cases h
  ·cases h
 | dead =>
  simp only[Y1.get] at h;split at h
  ·cases h;exact⟨rfl,rfl⟩
  ·cases h
 | map K E =>
  simp only[Y1.get] at h;split at h
  ·split at h
   ·rename_i hk;simp only[Aa,Aw] at hk;obtain⟨rfl,rfl⟩:=hk;cases h;exact⟨rfl,rfl⟩
   ·cases h
  ·cases h
 | F6 K E =>
  simp only[Y1.get] at h;split at h
  ·split at h
   ·rename_i hk;simp only[Aa,Aw] at hk;obtain⟨rfl,rfl⟩:=hk;cases h;exact⟨rfl,rfl⟩
   ·cases h
  ·cases h
 | itr m =>
  simp only[Y1.get] at h;split at h
  ·split at h
   ·rename_i hk;rw[Aw] at hk;subst hk;cases h;exact⟨rfl,rfl⟩
   ·cases h
  ·cases h
 | its m =>
  simp only[Y1.get] at h;split at h
  ·split at h
   ·rename_i hk;rw[Aw] at hk;subst hk;cases h;exact⟨rfl,rfl⟩
   ·cases h
  ·cases h
def Y1.L8:List Y1->List Row->Option (List L1)
 | [],[]=>some []
 | c::cs,p::ps=>match c.get p,Y1.L8 cs ps with | some x,some xs=>some (x++xs) | _,_=>none
 | _,_=>none
def Y1.puts:List Y1->List L1->List Row
 | [],_=>[]
 | c::cs,xs=>Y1.put c (xs.take c.len)::Y1.puts cs (xs.drop c.len)
theorem Y1.GC:∀ {cs:List Y1} {ps:List Row} {x:List L1},Y1.L8 cs ps=some x->ps=Y1.puts cs x
 | [],[],x,h=>rfl
 | [],_::_,x,h=>by simp[Y1.L8] at h
 | _::_,[],x,h=>by simp[Y1.L8] at h
 | c::cs,p::ps,x,h=>by
  simp only[Y1.L8] at h;split at h
  ·rename_i a b h1 h2;cases h;obtain⟨e1,e2⟩:=Y1.Fh h1;simp only[Y1.puts];rw[<- e2,CM,Cx,<- e1,<- Y1.GC h2]
  ·cases h
def slG (shs:List (Nat × X1)):Nat->Nat->List PV->Option (List L1)
 | 0,_,[]=>some []
 | n+1,x,p::S=>match ((shs.lookup x).getD .any).get p,slG shs n (x+1) S with | some a,some b=>some (a++b) | _,_=>none
 | _,_,_=>none
def slP (shs:List (Nat × X1)):Nat->Nat->List L1->List PV
 | 0,_,_=>[]
 | n+1,x,xs=>((shs.lookup x).getD .any).put (xs.take ((shs.lookup x).getD .any).len)::slP shs n (x+1) (xs.drop ((shs.lookup x).getD .any).len)
theorem slG_P {shs:List (Nat × X1)}:∀ {n x:Nat} {S:List PV} {xs:List L1},slG shs n x S=some xs->S=slP shs n x xs
 | 0,_,[],_,_=>rfl
 | 0,_,_::_,_,h=>by simp[slG] at h
 | _+1,_,[],_,h=>by simp[slG] at h
 | n+1,x,p::S,xs,h=>by
  simp only[slG] at h;split at h
  ·rename_i a b h1 h2;cases h;obtain⟨e1,e2⟩:=X1.Fh _ h1;simp only[slP];rw[<- e2,CM,Cx,<- e1,<- slG_P h2]
  ·cases h
abbrev LS:=List L1 × List L1
structure S1 where
 n:Nat
 S:List (Nat × X1)
 H:List Y1
def S1.get (s:S1) (S:List PV) (H:List Row):Option LS:=match slG s.S s.n 0 S,Y1.L8 s.H H with | some a,some b=>some (a,b) | _,_=>none
def S1.put (s:S1) (x:LS):List PV × List Row:=(slP s.S s.n 0 x.1,Y1.puts s.H x.2)
theorem S1.Fh {s:S1}:∀ S H x,s.get S H=some x->S=(s.put x).1/\H=(s.put x).2:=by
 intro S H x h;unfold S1.get at h;split at h
 ·rename_i a b h1 h2;cases h;exact⟨slG_P h1,Y1.GC h2⟩
 ·cases h
def CO.Ks (E : CO) (k : FuncId) (i : Nat) (l : List Tmp) (c : Nat → List PV → List Row → Option (DT (PX × List PV × List Row))) : CO :=
  { E with live := fun f j => if f = k then (if j = i then some l else E.live f j) else E.live f j
           lo := fun f ro j S H => if f = k then (if j = i then (match c ro S H with | some d => some d | none => E.lo f ro j S H) else E.lo f ro j S H) else E.lo f ro j S H }
theorem Ck.Ks {P:Program} {E:CO} (hE:Ck P E.env) {k i:Nat} {l:List Tmp} {c:Nat->List PV->List Row->Option (DT (PX × List PV × List Row))} {fn:Func} {body b0:Code} (hf:P.funcs[k]? = some fn) (hb:fn.body=some body)
  (h0:(loops body).filter (fun b=>Ed b==i)=[b0]) (hc:D9 P k (.loop b0)->∀ ro S H d x S' H',c ro S H=some d->d.run=some (x,S',H')->Eu P (.loop b0) ro S H x S' H'):Ck P (E.Ks k i l c).env where
 EP:=hE.EP
 Ec:=hE.Ec
 F9:=hE.F9
 Ev:=hE.Ev
 G2:=hE.G2
 Gq:=hE.Gq
 Ff:=hE.Ff
 lo:=fun f fn' b' h1 h2=>by
  refine FV.of fun b hm hs ro S H x S' H' g => ?_
  change ((if f=k then (if Ed b=i then (match c ro S H with | some d=>some d | none=>E.lo f ro (Ed b) S H) else E.lo f ro (Ed b) S H) else E.lo f ro (Ed b) S H)).bind DT.run=some (x,S',H') at g
  have old:(E.lo f ro (Ed b) S H).bind DT.run=some (x,S',H')->Eu P (.loop b) ro S H x S' H':=fun g=>(FV.sub (P:=P) (E:=E.env) hs (hE.lo f fn' b' h1 h2)).1 ro S H x S' H' g
  split at g
  ·rename_i e;subst e;split at g
   ·rename_i e2;split at g
    ·rename_i d hd;rw[hf] at h1;cases h1;rw[hb] at h2;cases h2;have hb0:b=b0:=by
      have:b ∈ (loops body).filter (fun b=>Ed b==i):=Bf.2 ⟨hm,by simp[e2]⟩;rw[h0] at this;simpa using this
     subst hb0;exact hc ⟨fn,body,hf,hb,hs⟩ ro S H d x S' H' hd g
    ·exact old g
   ·exact old g
  ·exact old g
def CO.C8 (E:CO) (k i:Nat) (l:List Tmp) (sel:List Bool) (sh:S1) (pre:LS->Bool) (fin:LS->DT (PX × List PV × List Row)):CO:=E.Ks k i l (Jq sel sh.get pre fin)
theorem Ck.C8 {P:Program} {E:CO} (hE:Ck P E.env) {n:Nat} {k i:Nat} {fn:Func} {body b:Code} (hf:P.funcs[k]? = some fn) (hb:fn.body=some body) (h0:(loops body).filter (fun b=>Ed b==i)=[b])
  (l l':List Tmp) (sel:List Bool) (sh:S1) {pre:LS->Bool} (m:LS->Nat) {fin:LS->DT (PX × List PV × List Row)}
  (hstep:∀ s r,pre s=true->(fin s).run=some r->r.1 ≠ .normal/\(CR P E n k b l l' (sh.put s).1 (sh.put s).2=some r \/
   ∃ s',CR P E n k b l l' (sh.put s).1 (sh.put s).2=some (.normal,sh.put s')/\pre s'=true/\m s'<m s/\(fin s').run=some r)):
  Ck P (E.C8 k i l sel sh pre fin).env:=
 hE.Ks hf hb h0 fun hs ro S H d x S' H'=>loopW hE l l' sh.put S1.Fh m hstep hs ro S H d x S' H'
def CO.addV (E:CO) (k i:Nat) (l:List Tmp):CO:={ E with live:=fun f j=>if f=k then (if j=i then some l else E.live f j) else E.live f j }
theorem Ck.addV {P:Program} {E:CO} (hE:Ck P E.env) (k i:Nat) (l:List Tmp):Ck P (E.addV k i l).env where
 EP:=hE.EP
 Ec:=hE.Ec
 F9:=hE.F9
 Ev:=hE.Ev
 G2:=hE.G2
 Gq:=hE.Gq
 Ff:=hE.Ff
 lo:=fun f fn b h1 h2=>FV.mono (E:=E.env) (E':=(E.addV k i l).env) (fun _ _ _ _ _ _ _ g=>g) (hE.lo f fn b h1 h2)
def rfs:Code->List (Array Tmp × Code × Code)
 | .seq a b=>rfs a++rfs b
 | .cond _ x y=>rfs x++rfs y
 | .block _ b=>rfs b
 | .loop b=>rfs b
 | .scope b=>rfs b
 | .rangeFunc _ ps a b=>(ps,a,b)::(rfs a++rfs b)
 | _=>[]
noncomputable def rfb (fn:Func) (i:Nat):Array Tmp × Code × Code:=((rfs (DL fn)).filter fun x=>Ed x.2.1==i).headD (#[],.skip,.skip)
noncomputable def lrow (f:FuncId) (fn:Func) (i:Nat) (S:List PV) (st:LSt):Row:={ es:=[],s:=0,t:=0,bv:=true,live:=false,lp:=some ⟨⟨f,S,(rfb fn i).1,(rfb fn i).2.1,(rfb fn i).2.2⟩,st⟩ }
noncomputable def same {α:Type} (a b:α):Bool:=@decide (a=b) (Classical.propDecidable _)
theorem same_iff {α:Type} {a b:α}:same a b=true ↔ a=b:=by unfold same;exact @BZ _ (Classical.propDecidable _)
theorem loopWv {P:Program} {n:Nat} {f:FuncId} {b:Code} (l l':List Tmp) {σ:Type} {sel:List Bool} (emb:σ->List PV × List Row) {get:List PV->List Row->Option σ}
  (hget:∀ S H s,get S H=some s->S=(emb s).1/\H=(emb s).2) {pre:σ->Bool} (m:σ->Nat) {fin:σ->DT (PX × List PV × List Row)}
  (hstep:∀ s r,pre s=true->(fin s).run=some r->r.1 ≠ .normal/\∃ E:CO,Ck P E.env/\(CR P E n f b l l' (emb s).1 (emb s).2=some r \/
   ∃ s',CR P E n f b l l' (emb s).1 (emb s).2=some (.normal,emb s')/\pre s'=true/\m s'<m s/\(fin s').run=some r)):
  D9 P f (.loop b)->∀ (ro:Nat) (S:List PV) (H:List Row) (d:DT (PX × List PV × List Row)) (x:PX) (S':List PV) (H':List Row),Jq sel get pre fin ro S H=some d->d.run=some (x,S',H')->Eu P (.loop b) ro S H x S' H':=by
 intro hsub ro S H d x S' H' hc hd;cases ro with
 | succ ro=>cases hc
 | zero =>
 change (match get S (La sel H) with | some s=>some (DT.br (pre s) (fin s) DT.no) | none=>none)=some d at hc
 split at hc
 ·rename_i s hs;obtain rfl:=Ah hc;obtain⟨e1,e2⟩:=hget _ _ _ hs;have hp:pre s=true/\(fin s).run=some (x,S',H'):=by
   change (match pre s with | true=>(fin s).run | false=>DT.no.run)=_ at hd
   cases hq:pre s with
   | true=>rw[hq] at hd;exact⟨rfl,hd⟩
   | false=>rw[hq] at hd;cases hd
  obtain⟨hp,hr⟩:=hp;clear hc hd hs;have hbody:=hsub.sub (.loop .here);refine wpTo_nrmA sel ?_;rw[e2,e1];clear e1 e2;have hx:=(hstep s _ hp hr).1;refine Rnds.loop hx ?_;generalize hm:m s=k;induction k using Nat.strongRecOn generalizing s with
  | _ k ih =>
   obtain⟨E,hE,h⟩:=(hstep s _ hp hr).2;rcases h with h1 | ⟨s',h1,h2,h3,h4⟩
   ·exact .stop (Jp hE hbody h1)
   ·exact .go (Jp hE hbody h1) (ih (m s') (by omega) s' h2 h4 rfl)
 ·cases hc
theorem byModel_run {σ:Type} {sel:List Bool} {get:List PV->List Row->Option σ} {pre:σ->Bool} {fin:σ->DT (PX × List PV × List Row)} {ro:Nat} {S:List PV} {H:List Row} {d:DT (PX × List PV × List Row)} {r:PX × List PV × List Row}
  (hc:Jq sel get pre fin ro S H=some d) (hd:d.run=some r):ro=0/\∃ s,get S (La sel H)=some s/\pre s=true/\(fin s).run=some r:=by
 cases ro with
 | succ ro=>cases hc
 | zero =>
 change (match get S (La sel H) with | some s=>some (DT.br (pre s) (fin s) DT.no) | none=>none)=some d at hc
 split at hc
 ·rename_i s hs;obtain rfl:=Ah hc;refine⟨rfl,s,hs,?_⟩;change (match pre s with | true=>(fin s).run | false=>DT.no.run)=_ at hd
  cases hq:pre s with
  | true=>rw[hq] at hd;exact⟨rfl,hd⟩
  | false=>rw[hq] at hd;cases hd
 ·cases hc
end Go.Hx
