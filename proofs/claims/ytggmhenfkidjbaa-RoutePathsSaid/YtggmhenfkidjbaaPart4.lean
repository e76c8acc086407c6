import Derived.Test.YtggmhenfkidjbaaPart3
import Derived.MapKept
import Derived.WideKeyRuns
import Derived.Maps.RangeRun
noncomputable section
namespace Go.Hx
variable{P:Program}
inductive DT(α:Type) where
 |leaf (a:α)
 |no
 |br (b:Bool) (x y:DT α)
def DT.run{α:Type}:DT α->Option α
 |.leaf a=>some a
 |.no=>none
 |.br b x y=>bif b then x.run else y.run
def DT.go{α β:Type}(k:α->Option β):DT α->Option β
 |.leaf a=>k a
 |.no=>none
 |.br b x y=>bif b then x.go k else y.go k
theorem DT.GG{α β:Type}{k:α->Option β}{r:β}:∀{d:DT α},d.go k=some r->∃ a,d.run=some a/\k a=some r
 |.leaf a,h=>⟨a,rfl,h⟩
 |.no,h=>by cases h
 |.br b x y,h=>by
  cases b
  ·exact DT.GG (d:=y) h
  ·exact DT.GG (d:=x) h
structure CY where
 FI:FuncId->List PV->Option PV:=fun _ _=>none
 live:FuncId->Nat->Option (List Tmp):=fun _ _=>none
 lo:FuncId->Nat->Nat->List PV->List Row->Option (DT (PX×List PV×List Row)):=fun _ _ _ _ _=>none
 KC:FuncId->Bool:=fun _=>false
 Hc:Nat->FuncId->List PV->List Row->Option (DT (PV×List Row)):=fun _ _ _ _=>none
 KX:FuncId->Nat->List (Tmp×TypeId×Nat):=fun _ _=>[]
 pure:FuncId->Bool:=fun _=>false
 Yd:FuncId->List PV->Option (DT PV):=fun _ _=>none
 drop:FuncId->Nat->Option (Nat×Bool):=fun _ _=>none
 di:FuncId->Nat->List Nat:=fun _ _=>[]
 Fz:Nat->List Row->(Operand->PV)->Op->Option (DT (PV×List Row)):=fun _ _ _ _=>none
 chain:FuncId->Nat->Bool:=fun _ _=>false
 Ec:Nat->List Row->(Operand->PV)->Op->Option (DT (PV×List Row)):=fun _ _ _ _=>none
 pw:FuncId->Nat->Option Nat:=fun _ _=>none
 soft:FuncId->Nat->Bool:=fun _ _=>false
 GO:List Row->(Operand->PV)->Op->Option PV:=fun _ _ _=>none
def CY.env(E:CY):Env where
 FI f a:=match E.Yd f a with |some d=>d.run |none=>E.FI f a
 live:=E.live
 lo f ro i S H:=(E.lo f ro i S H).bind DT.run
 KC:=E.KC
 Hc ro k args H:=(E.Hc ro k args H).bind DT.run
 KX:=E.KX
 pure:=E.pure
 drop:=E.drop
 di:=E.di
 Fz ro H f op:=(E.Fz ro H f op).bind DT.run
 chain:=E.chain
 Ec ro H f op:=(E.Ec ro H f op).bind DT.run
 pw:=E.pw
 soft:=E.soft
 GO:=E.GO
section
variable {α:Type}
def DM(c:Bool)(k:Option α):Option α:=bif c then k else none
theorem Da{c:Bool}{k:Option α}{r:α}(h:DM c k=some r):c=true/\k=some r:=by
 cases c
 ·cases h
 ·exact⟨rfl,h⟩
def Tl{β:Type}(o:Option β)(k:β->Option α):Option α:=match o with |some p=>k p |none=>none
theorem FQ{β:Type}{o:Option β}{k:β->Option α}{r:α}(h:Tl o k=some r):∃ p,o=some p/\k p=some r:=by
 cases o with
 |none=>cases h
 |some p=>exact⟨p,rfl,h⟩
def uf(P:Program)(op:BinOp)(T:TypeId)(x0 y0:Operand)(x y:PV)(k:PV->Option α):Option α:=
 match x,y with
 |.val (.int ka a),.val (.int kb b)=>
  match op with
  |.quo=>DM (ka==kb && !decide (b=0)) (k (.val (.int ka (ka.wrap (a.tdiv b)))))
  |.rem=>DM (ka==kb && !decide (b=0)) (k (.val (.int ka (a.tmod b))))
  |.shl=>DM (!decide (b<0)) (k (.val (.int ka (ka.wrap (a*2 ^ min b.toNat ka.bits)))))
  |.shr=>DM (!decide (b<0)) (k (.val (.int ka (a.fdiv (2 ^ min b.toNat ka.bits)))))
  |op=>Tl (Nc P op T x0 y0 (.val (.int ka a)) (.val (.int kb b))) k
 |.val (.string a),.val (.string b)=>
  match op with
  |.add=>DM (!decide (((a.size+b.size:Nat):Int) > IntKind.i64.max)) (k (.val (.string (a++b))))
  |op=>Tl (fj op a b) k
 |.C9 _ _ es,.val (.slice none 0 0)=>
  match P.underlying T,op with
  |some (.slice _),.eql=>DM (decide (0<es.length)) (k (.val (.bool false)))
  |some (.slice _),.neq=>DM (decide (0<es.length)) (k (.val (.bool true)))
  |_,_=>none
 |x,y=>Tl (Nc P op T x0 y0 x y) k
theorem dx{op:BinOp}{T:TypeId}{x0 y0:Operand}{x y:PV}{k:PV->Option α}{r:α}(h:uf P op T x0 y0 x y k=some r):∃ p,Nc P op T x0 y0 x y=some p/\k p=some r:=by
 unfold uf at h;split at h
 ·rename_i ka a kb b;split at h
  ·obtain⟨h1,h2⟩:=Da h;simp only[Aa,Ay,Am,AQ]at h1;exact⟨_,by simp[Nc,h1.1,fi,h1.2],h2⟩
  ·obtain⟨h1,h2⟩:=Da h;simp only[Aa,Ay,Am,AQ]at h1;exact⟨_,by simp[Nc,h1.1,fi,h1.2],h2⟩
  ·obtain⟨h1,h2⟩:=Da h;simp only[Am,AQ]at h1;exact⟨_,by simp only[Nc];rw[Aq h1],h2⟩
  ·obtain⟨h1,h2⟩:=Da h;simp only[Am,AQ]at h1;exact⟨_,by simp only[Nc];rw[Aq h1],h2⟩
  ·exact FQ h
 ·rename_i a b;split at h
  ·obtain⟨h1,h2⟩:=Da h;simp only[Am,AQ]at h1;exact⟨_,by simp only[Nc,fj];rw[Aq h1],h2⟩
  ·obtain⟨p,h1,h2⟩:=FQ h;exact⟨p,by simpa [Nc] using h1,h2⟩
 ·split at h
  ·rename_i hu;obtain⟨h1,h2⟩:=Da h;exact⟨_,by simp only[Nc,hu];rw[Ak (AN h1)],h2⟩
  ·rename_i hu;obtain⟨h1,h2⟩:=Da h;exact⟨_,by simp only[Nc,hu];rw[Ak (AN h1)],h2⟩
  ·cases h
 ·exact FQ h
def YM(P:Program)(H:List Row)(op:BinOp)(T:TypeId)(x0 y0:Operand)(x y:PV)(k:PV->Option α):Option α:=
 match x,y with
 |.sl i n _ _,.val (.slice none 0 0)=>
  match rowAt H i,P.underlying T,op with
  |some r,some (.slice _),.eql=>DM (r.es.length==n) (bif r.nl then k (.val (.bool true)) else k (.val (.bool false)))
  |some r,some (.slice _),.neq=>DM (r.es.length==n) (bif r.nl then k (.val (.bool false)) else k (.val (.bool true)))
  |_,_,_=>none
 |x,y=>uf P op T x0 y0 x y k
theorem WN{H:List Row}{op:BinOp}{T:TypeId}{x0 y0:Operand}{x y:PV}{k:PV->Option α}{r:α}(h:YM P H op T x0 y0 x y k=some r):∃ p,TB P H op T x0 y0 x y=some p/\k p=some r:=by
 unfold YM at h;split at h
 ·split at h
  ·rename_i r0 _ hr hu;obtain⟨h1,h2⟩:=Da h;refine⟨.val (.bool r0.nl),by simp only[TB,hr,hu];rw[Ak (by simpa using h1)],?_⟩;cases hn:r0.nl <;> rw[hn]at h2 <;> exact h2
  ·rename_i r0 _ hr hu;obtain⟨h1,h2⟩:=Da h;refine⟨.val (.bool !r0.nl),by simp only[TB,hr,hu];rw[Ak (by simpa using h1)],?_⟩;cases hn:r0.nl <;> rw[hn]at h2 <;> exact h2
  ·cases h
 ·rename_i hne;obtain⟨p,h1,h2⟩:=dx h;refine⟨p,?_,h2⟩;unfold TB;split
  ·exact absurd rfl (hne _ _ _ _ rfl)
  ·exact h1
def gm(P:Program)(H:List Row)(op:BinOp)(T:TypeId)(x0 y0:Operand)(x y:PV)(k:PV->Option α):Option α:=
 match l5 P H op T x y with
 |some p=>k p
 |none=>YM P H op T x0 y0 x y k
theorem YN{H:List Row}{op:BinOp}{T:TypeId}{x0 y0:Operand}{x y:PV}{k:PV->Option α}{r:α}(h:gm P H op T x0 y0 x y k=some r):∃ p,cW P H op T x0 y0 x y=some p/\k p=some r:=by
 unfold gm at h;split at h
 ·rename_i q hq;exact⟨q,by unfold cW;rw[hq],h⟩
 ·rename_i hnone;obtain⟨p,h1,h2⟩:=WN h;exact⟨p,by unfold cW;rw[hnone];exact h1,h2⟩
def aJ(P:Program)(t:TypeId)(bv:Bool)(s:Nat)(e:PV)(T:TypeId)(j:Nat)(k:PV->Option α):Option α:=
 match known P T with
 |true=>
  match Dh P T with
  |true=>DM (decide (j+P.cellsOf T<=s)) (bif bv then k (.agg ((List.range (P.cellsOf T)).map fun x=>pick P t true e (j+x))) else k (.agg ((List.range (P.cellsOf T)).map fun x=>pick P t false e (j+x))))
  |false=>DM (decide (j<s)) (bif bv then k (pick P t true e j) else k (pick P t false e j))
 |false=>none
theorem Rv{t:TypeId}{bv:Bool}{s:Nat}{e:PV}{T:TypeId}{j:Nat}{k:PV->Option α}{r:α}(h:aJ P t bv s e T j k=some r):∃ p,Ym P t bv s e T j=some p/\k p=some r:=by
 unfold aJ at h;unfold Ym;split at h
 ·rename_i hk;rw[Ak hk];split at h
  ·rename_i ha;obtain⟨h1,h2⟩:=Da h;rw[Ak ha,Ak (by simpa using h1)];cases bv <;> exact⟨_,rfl,h2⟩
  ·rename_i ha;obtain⟨h1,h2⟩:=Da h;rw[Aq (by simp[ha]),Ak (by simpa using h1)];cases bv <;> exact⟨_,rfl,h2⟩
 ·cases h
def aK(P:Program)(H:List Row)(T:TypeId)(x:PV)(k:PV->Option α):Option α:=
 match x with
 |.ptr i n m j=>
  match rowAt H i with
  |some r=>DM (r.es.length==n) (aJ P r.t r.bv r.s (r.es.getD m .any) T j k)
  |none=>none
 |.EF t e j=>aJ P t true (P.cellsOf t) e T j k
 |.val v=>Tl (fm P T v) k
 |_=>none
theorem Rw{H:List Row}{T:TypeId}{x:PV}{k:PV->Option α}{r:α}(h:aK P H T x k=some r):∃ p,Tz P H T x=some p/\k p=some r:=by
 unfold aK at h;split at h
 ·split at h
  ·rename_i hr;obtain⟨h1,h2⟩:=Da h;obtain⟨p,h3,h4⟩:=Rv h2;exact⟨p,by simp only[Tz,hr];rw[Ak (by simpa using h1)];exact h3,h4⟩
  ·cases h
 ·exact Rv h
 ·exact FQ h
 ·cases h
def MJ(P:Program)(H:List Row)(T:TypeId)(i:Nat)(x:PV)(k:PV->Option α):Option α:=
 match P.underlying T with
 |some (.struct fs)=>
  match fs[i]? with
  |some fd=>DM (known P fd.type&&P.cellsOf fd.type != 0&&IV H x) (k (QW fd.offset x))
  |none=>none
 |_=>none
theorem P3{H:List Row}{T:TypeId}{i:Nat}{x:PV}{k:PV->Option α}{r:α}(h:MJ P H T i x k=some r):∃ p,Ik P H T i x=some p/\k p=some r:=by
 unfold MJ at h;split at h
 ·rename_i fs hu;split at h
  ·rename_i fd hf;obtain⟨h1,h2⟩:=Da h;exact⟨_,by simp only[Ik,hu,hf];rw[Ak h1],h2⟩
  ·cases h
 ·cases h
def yG(n:Nat)(z:Int)(k:Nat->Option α):Option α:=
 match n with
 |0=>none
 |m+1=>bif decide (z=(m:Int)) then k m else yG m z k
theorem Rx{z:Int}{k:Nat->Option α}{r:α}:∀{n:Nat},yG n z k=some r->∃ m,m<n/\z=(m:Int)/\k m=some r
 |0,h=>by cases h
 |n+1,h=>by
  unfold yG at h;cases hd:decide (z=(n:Int)) with
  |true=>rw[hd]at h;exact⟨n,by omega,by simpa using hd,h⟩
  |false=>rw[hd]at h;obtain⟨m,h1,h2,h3⟩:=Rx (n:=n) h;exact⟨m,by omega,h2,h3⟩
def MK(P:Program)(H:List Row)(T:TypeId)(x ix:PV)(k:PV->Option α):Option α:=
 match Yr ix,P.underlying T with
 |some z,some (.array len e)=>DM (known P e&&IV H x) (yG len z fun m=>k (QW (m*P.cellsOf e) x))
 |some z,some (.slice e)=>
  match x with
  |.sl i n m len=>
   match rowAt H i with
   |some r=>DM (known P e&&r.es.length==n&&r.s==P.cellsOf e) (DM (decide (0<=z)&&decide (z<len)) (k (.ptr i n (m+z.toNat) 0)))
   |none=>none
  |.C9 _ t es=>DM (known P e&&t==e) (DM (decide (0<=z)&&decide (z<es.length)) (k (.EF t (es.getD z.toNat .any) 0)))
  |_=>none
 |_,_=>none
theorem P4{H:List Row}{T:TypeId}{x ix:PV}{k:PV->Option α}{r:α}(h:MK P H T x ix k=some r):∃ p,Il P H T x ix=some p/\k p=some r:=by
 unfold MK at h;unfold Il;split at h
 ·rename_i z len e hz hu;obtain⟨h1,h2⟩:=Da h;obtain⟨m,g1,rfl,g3⟩:=Rx h2;refine⟨_,?_,g3⟩;simp only[hz,hu];rw[Ak h1,Ak ⟨by omega,by omega⟩];simp
 ·rename_i z e hz hu;simp only[hz,hu];split at h
  ·split at h
   ·rename_i hr;obtain⟨h1,h2⟩:=Da h;obtain⟨h3,h4⟩:=Da h2;simp only[Aa,Ab]at h3;simp only[hr];exact⟨_,by rw[Ak h1,Ak h3],h4⟩
   ·cases h
  ·obtain⟨h1,h2⟩:=Da h;obtain⟨h3,h4⟩:=Da h2;simp only[Aa,Ab]at h3;exact⟨_,by dsimp only;rw[Ak h1,Ak h3],h4⟩
  ·cases h
 ·cases h
def YO(P:Program)(T:TypeId)(x ix:PV)(k:PV->Option α):Option α:=
 match Yr ix,P.underlying T with
 |some z,some (.array len e)=>DM (x.isAgg&&known P e) (yG len z fun m=>Tl (V6 P e x.cells (m*P.cellsOf e)) k)
 |some z,some .string=>
  match x with
  |.val (.string s)=>DM (decide (0<=z)&&decide (z<s.size)) (k (.val (.int .u8 (s.data.getD z.toNat 0).toNat)))
  |_=>none
 |_,_=>none
theorem WO{T:TypeId}{x ix:PV}{k:PV->Option α}{r:α}(h:YO P T x ix k=some r):∃ p,QX P T x ix=some p/\k p=some r:=by
 unfold YO at h;unfold QX;split at h
 ·rename_i z len e hz hu;obtain⟨h1,h2⟩:=Da h;obtain⟨m,g1,rfl,g3⟩:=Rx h2;obtain⟨p,h3,h4⟩:=FQ g3;refine⟨p,?_,h4⟩;simp only[hz,hu];rw[Ak h1,Ak ⟨by omega,by omega⟩];simpa using h3
 ·rename_i z hz hu;simp only[hz,hu];split at h
  ·obtain⟨h3,h4⟩:=Da h;simp only[Aa,Ab]at h3;exact⟨_,by simp only[];rw[Ak h3],h4⟩
  ·cases h
 ·cases h
def YP(P:Program)(H:List Row)(T:TypeId)(x:PV)(lo hi mx:Option PV)(k:PV->Option α):Option α:=
 match P.underlying T,x,Ft lo,Ft hi,Ft mx with
 |some .string,.val (.string s),some l,some h,some none=>
  DM (decide (0<=l.getD 0)&&decide (l.getD 0<=h.getD s.size)&&decide (h.getD s.size<=s.size)) (k (.val (.string (s.extract (l.getD 0).toNat (h.getD s.size).toNat))))
 |some (.slice e),.C9 full t es,some l,some h,some none=>
  DM (known P e&&t==e) (DM (decide (0<=l.getD 0)&&decide (l.getD 0<=h.getD es.length)&&decide (h.getD es.length<=es.length))
   (k (.C9 (full&&h.isNone) t ((es.take (h.getD es.length).toNat).drop (l.getD 0).toNat))))
 |some (.slice e),.C9 _ t es,some l,some (some h),some (some m)=>
  DM (known P e&&t==e) (DM (decide (0<=l.getD 0)&&decide (l.getD 0<=h)&&decide (h<=m)&&decide (m<=es.length))
   (k (.C9 (h==m) t ((es.take h.toNat).drop (l.getD 0).toNat))))
 |some (.slice e),.sl i n m len,some none,some h,some none=>
  match rowAt H i with
  |some r=>DM (known P e&&r.es.length==n&&r.s==P.cellsOf e) (DM (decide (0<=h.getD len)&&decide (h.getD len<=len)) (k (.sl i n m (h.getD len).toNat)))
  |none=>none
 |some (.slice e),.sl i n m len,some (some l),some h,some none=>
  match rowAt H i with
  |some r=>DM (known P e&&r.es.length==n&&r.s==P.cellsOf e)
    (bif decide (0<=l)&&decide (l<len)&&decide (l<=h.getD len)&&decide (h.getD len<=len) then k (.sl i n (m+l.toNat) (h.getD len-l).toNat) else DM (decide (l=len)&&decide (h.getD len=len)) (k (.C9 false e [])))
  |none=>none
 |_,_,_,_,_=>none
theorem WQ{H:List Row}{T:TypeId}{x:PV}{lo hi mx:Option PV}{k:PV->Option α}{r:α}(h:YP P H T x lo hi mx k=some r):∃ p,Io P H T x lo hi mx=some p/\k p=some r:=by
 unfold YP at h;split at h
 ·rename_i h1 h2 h3 h4;obtain⟨g1,g2⟩:=Da h;simp only[Aa,Ab]at g1;exact⟨_,by simp only[Io,h1,h2,h3,h4];rw[Ak ⟨g1.1.1,g1.1.2,g1.2⟩],g2⟩
 ·rename_i h1 h2 h3 h4;obtain⟨g0,g⟩:=Da h;obtain⟨g1,g2⟩:=Da g;simp only[Aa,Ab]at g1;exact⟨_,by simp only[Io,h1,h2,h3,h4];rw[Ak g0,Ak ⟨g1.1.1,g1.1.2,g1.2⟩],g2⟩
 ·rename_i h1 h2 h3 h4;obtain⟨g0,g⟩:=Da h;obtain⟨g1,g2⟩:=Da g;simp only[Aa,Ab]at g1;exact⟨_,by simp only[Io,h1,h2,h3,h4];rw[Ak g0,Ak ⟨g1.1.1.1,g1.1.1.2,g1.1.2,g1.2⟩],g2⟩
 ·rename_i h1 h2 h3 h4;split at h
  ·rename_i hr;obtain⟨g0,g⟩:=Da h;obtain⟨g1,g2⟩:=Da g;simp only[Aa,Ab]at g1;exact⟨_,by simp only[Io,h1,h2,h3,h4,hr];rw[Ak g0,Ak ⟨g1.1,g1.2⟩],g2⟩
  ·cases h
 ·rename_i h1 h2 h3 h4;split at h
  ·rename_i hr;obtain⟨g0,g⟩:=Da h;cases hc:_&&_ with
   |true=>
    rw[hc,Aj]at g;simp only[Aa,Ab]at hc;exact⟨_,by simp only[Io,h1,h2,h3,h4,hr];rw[Ak g0,Ak ⟨hc.1.1.1,hc.1.1.2,hc.1.2,hc.2⟩],g⟩
   |false=>
    rw[hc,Ar]at g;obtain⟨g1,g2⟩:=Da g;simp only[Aa,Ab]at g1;exact⟨_,by simp only[Io,h1,h2,h3,h4,hr];rw[Ak g0,Aq (by rintro⟨a,b,c,d⟩;rw[Ac a,Ac b,Ac c,Ac d]at hc;cases hc),Ak ⟨g1.1,g1.2⟩],g2⟩
  ·cases h
 ·cases h
def YQ(P:Program)(H:List Row)(src dst:TypeId)(x:PV)(k:PV->Option α)(other:Option α):Option α:=
 match x with
 |.sl i n m len=>
  match rowAt H i,P.underlying src,P.underlying dst with
  |some r,some (.slice e),some .string=>DM (Mj P e&&r.t==e&&(r.es.length==n)&&r.bv) (k (.val (.string (V8 ((r.es.drop m).take len)))))
  |_,_,_=>none
 |x=>match Q0 P H src dst x with |some p=>k p |none=>other
theorem WR{H:List Row}{src dst:TypeId}{x:PV}{k:PV->Option α}{other:Option α}{r:α}(h:YQ P H src dst x k other=some r):
  (∃ p,Q0 P H src dst x=some p/\k p=some r)\/(Q0 P H src dst x=none/\other=some r):=by
 unfold YQ at h;split at h
 ·split at h
  ·rename_i hr hs hd;obtain⟨h1,h2⟩:=Da h;exact .inl ⟨_,by simp only[Q0,hr,hs,hd];rw[Ak h1],h2⟩
  ·cases h
 ·split at h
  ·rename_i hp;exact .inl ⟨_,hp,h⟩
  ·rename_i hp;exact .inr ⟨hp,h⟩
def sdK(H:List Row)(x:PV)(k:PV->Option α):Option α:=
 match x with
 |.val (.slice none 0 0)=>k (.val (.pointer none))
 |.sl i n m len=>
  match rowAt H i with
  |some r=>bif r.nl then DM (r.es.length==n) (k (.val (.pointer none))) else DM ((r.es.length==n)&&decide (0<len)) (k (.ptr i n m 0))
  |none=>none
 |_=>none
theorem gn{H:List Row}{x:PV}{k:PV->Option α}{r:α}(h:sdK H x k=some r):∃ p,xt H x=some p/\k p=some r:=by
 unfold sdK at h;split at h
 ·exact⟨_,rfl,h⟩
 ·split at h
  ·rename_i r0 hr;cases hn:r0.nl with
   |true=>
    rw[hn]at h;obtain⟨h1,h2⟩:=Da h;exact⟨_,by simp only[xt,hr,hn];rw[Ak (by simpa using h1)],h2⟩
   |false=>
    rw[hn]at h;obtain⟨h1,h2⟩:=Da h;exact⟨_,by simp only[xt,hr,hn];rw[Ak (by simpa using h1)],h2⟩
  ·cases h
 ·cases h
def YR(P:Program)(k:FuncId):Bool:=
 match P.funcs[k]? with
 |some fn=>(match fn.body with |some _=>false |none=>fn.name == "math.sqrt" && !(Extern.findNext fn).isSome)
 |none=>false
theorem WS{k:FuncId}(h:YR P k=true){x y:Nat}(hy:FloatKind.f64.format.sqrt x=some y):Q1 P k [.val (.float .f64 x)]=none/\Ng P k [.val (.float .f64 x)]=some (.val (.float .f64 y)):=by
 unfold YR at h;split at h
 ·rename_i fn hf;split at h
  ·cases h
  ·rename_i hb;simp only[Aa,Ay,Am]at h;have h0:(fn.name == "internal/abi.NoEscape")=false:=by rw[h.1];decide
   refine⟨by unfold Q1;simp only[hf,hb,h0],?_⟩;unfold Ng;simp only[hf,hb,h.1,h.2];rw[Aq (by decide),Aq (by decide)];unfold lZ;rw[Ak rfl];simp only[hy,AE]
 ·cases h
def dy(P:Program)(H:List Row)(f:Operand->PV)(op:Op)(k:PV->Option α)(other:Option α):Option α:=
 match op with
 |.load t a=>aK P H t (f a) k
 |.nilCheck x=>DM (av H (f x)) (k (f x))
 |.binOp op t x y _=>gm P H op t x y (f x) (f y) k
 |.slice t x lo hi mx=>match P.underlying t with |some (.array n e)=>(match l6 P n e (f x) (lo.map f) (hi.map f) (mx.map f) with |some p=>k p |none=>none) |_=>YP P H t (f x) (lo.map f) (hi.map f) (mx.map f) k
 |.fieldAddr t x i=>MJ P H t i (f x) k
 |.indexAddr t x ix=>MK P H t (f x) (f ix) k
 |.index t x ix=>YO P t (f x) (f ix) k
 |.convert s d x=>match aw P H s d (f x) with |some p=>k p |none=>YQ P H s d (f x) k other
 |.call ⟨.builtin .unsafeSliceData,ags,_⟩=>match ags.toList with | [x]=>sdK H (f x) k |_=>none
 |.call ⟨.value g,ags,tys⟩=>match f g,ags.toList.map f with
  |.fn (.func fk) [] [],[.val (.float .f64 x)]=>(match YR P fk with
   |true=>DM (FloatKind.f64.format.sqrt x).isSome (k (.val (.float .f64 ((FloatKind.f64.format.sqrt x).getD 0))))
   |false=>match GW P H f (.call ⟨.value g,ags,tys⟩) with |some p=>k p |none=>other)
  |_,_=>match GW P H f (.call ⟨.value g,ags,tys⟩) with |some p=>k p |none=>other
 |op=>match GW P H f op with |some p=>k p |none=>other
theorem LJ{H:List Row}{f:Operand->PV}{op:Op}{k:PV->Option α}{other:Option α}{r:α}(h:dy P H f op k other=some r):
  (∃ p,GW P H f op=some p/\k p=some r)\/(GW P H f op=none/\other=some r):=by
 unfold dy at h;split at h
 ·exact .inl (Rw h)
 ·obtain⟨h1,h2⟩:=Da h;exact .inl ⟨_,by simp[GW,h1],h2⟩
 ·exact .inl (YN h)
 ·split at h
  ·rename_i hu;split at h
   ·rename_i p hp;exact .inl ⟨p,by simp only[GW,hu];exact hp,h⟩
   ·cases h
  ·rename_i hu;obtain⟨p,h1,h2⟩:=WQ h;refine .inl ⟨p,?_,h2⟩;simp only[GW];exact h1
 ·exact .inl (P3 h)
 ·exact .inl (P4 h)
 ·exact .inl (WO h)
 ·split at h
  ·rename_i p hp;exact .inl ⟨p,by simp only[GW,hp],h⟩
  ·rename_i hp;have:=WR h;simpa only[GW,hp] using this
 ·split at h
  ·rename_i x hx;obtain⟨p,h1,h2⟩:=gn h;exact .inl ⟨p,by simp only[GW,az,hx];exact h1,h2⟩
  ·cases h
 ·rename_i g ags tys;have gen:(match GW P H f (.call ⟨.value g,ags,tys⟩) with |some p=>k p |none=>other)=some r->(∃ p,GW P H f (.call ⟨.value g,ags,tys⟩)=some p/\k p=some r)\/(GW P H f (.call ⟨.value g,ags,tys⟩)=none/\other=some r):=fun h=>by
   split at h
   ·rename_i hp;exact .inl ⟨_,hp,h⟩
   ·rename_i hp;exact .inr ⟨hp,h⟩
  split at h
  ·rename_i fk x hg ha;split at h
   ·rename_i hq;obtain⟨h1,h2⟩:=Da h;obtain⟨y,hy⟩:=B_.1 h1;rw[hy]at h2;refine .inl ⟨_,?_,h2⟩;obtain⟨q1,q2⟩:=WS hq hy;simp only[GW,az,hg,ha,q1,q2,Bx]
   ·exact gen h
  ·exact gen h
 ·split at h
  ·rename_i hp;exact .inl ⟨_,hp,h⟩
  ·rename_i hp;exact .inr ⟨hp,h⟩
def Ry(r:Row)(k:Row->Option α):Option α:=bif r.bv then k { r with bv:=true } else k { r with bv:=false }
theorem HV(r:Row)(k:Row->Option α):Ry r k=k r:=by
 unfold Ry;cases r with |mk es s t bv live nl lp=>cases bv <;> rfl
def ug(P:Program)(e:TypeId)(z:Value)(n:Nat)(k:Row->Option α):Option α:=
 match wt P e (.val z) with
 |true=>k { es:=List.replicate n (.val z),s:=P.cellsOf e,t:=e,bv:=true }
 |false=>Ry (DX P e (List.replicate n (.val z))) k
theorem mn(P:Program)(e:TypeId)(z:Value)(n:Nat)(k:Row->Option α):ug P e z n k=k (DX P e (List.replicate n (.val z))):=by
 unfold ug;split
 ·rename_i h;have:(List.replicate n (PV.val z)).all (wt P e)=true:=by
   rw[Ao];intro x hx;rw[(List.mem_replicate.1 hx).2];exact h
  unfold DX;rw[this]
 ·exact HV _ _
def dz(P:Program)(H:List Row)(f:Operand->PV)(op:Op)(k:PV->Row->Option α)(other:Option α):Option α:=
 match op with
 |.box T x=>DM (Uw (f x)&&(f x).cells.length==P.cellsOf T) (Ry (DX P T [f x]) fun r=>k (.ptr H.length 1 0 0) r)
 |.makeSlice T l c=>
  match P.underlying T,f l,f c with
  |some (.slice e),.val (.int _ n),.val (.int _ m)=>
   match E8 P e with
   |some z=>
    DM (Uw (.val z)&&known P e&&z.cells.size==P.cellsOf e&&decide (0<P.cellsOf e)&&decide (0<=n)&&decide (n<=m)&&decide (m<=2 ^ 40)&&decide (P.bytesOf e<=256))
     (ug P e z n.toNat fun r=>k (.sl H.length n.toNat 0 n.toNat) r)
   |none=>none
  |_,_,_=>none
 |op=>match KB P H f op with |some (p,r)=>Ry r fun r=>k p r |none=>other
theorem LK{H:List Row}{f:Operand->PV}{op:Op}{k:PV->Row->Option α}{other:Option α}{r:α}(h:dz P H f op k other=some r):
  (∃ p rw,KB P H f op=some (p,rw)/\k p rw=some r)\/(KB P H f op=none/\other=some r):=by
 unfold dz at h;split at h
 ·obtain⟨h1,h2⟩:=Da h;rw[HV]at h2;exact .inl ⟨_,_,by simp only[KB];rw[Ak h1],h2⟩
 ·split at h
  ·rename_i hu hl hc;split at h
   ·rename_i z hz;obtain⟨h1,h2⟩:=Da h;rw[mn]at h2;exact .inl ⟨_,_,by simp only[KB,hu,hl,hc,hz];rw[Ak h1],h2⟩
   ·cases h
  ·cases h
 ·split at h
  ·rename_i hp;rw[HV]at h;exact .inl ⟨_,_,hp,h⟩
  ·rename_i hp;exact .inr ⟨hp,h⟩
def Rz(P:Program)(ro:Nat)(H:List Row)(T:TypeId)(a x:PV)(k:List Row->Option α):Option α:=
 match a with
 |.ptr i n m j=>
  match rowAt H i with
  |some r=>
   DM (decide (ro<=i)&&Uw x&&x.cells.all GB&&r.es.length==n&&x.cells.length==P.cellsOf T&&known P T&&decide (j+x.cells.length<=r.s))
    (Tl (setCells P r m j x.cells) fun r2=>Ry r2 fun r3=>k (H.set i r3))
  |none=>none
 |_=>none
theorem Lc{ro:Nat}{H:List Row}{T:TypeId}{a x:PV}{k:List Row->Option α}{r:α}(h:Rz P ro H T a x k=some r):∃ H',HA P ro H T a x=some H'/\k H'=some r:=by
 unfold Rz at h;split at h
 ·split at h
  ·rename_i hr;obtain⟨h1,h2⟩:=Da h;obtain⟨r2,h3,h4⟩:=FQ h2;rw[HV]at h4;exact⟨_,by simp only[HA,hr];rw[Ak h1];simp only[h3],h4⟩
  ·cases h
 ·cases h
def uh(H:List Row)(y:PV)(k:Bool->TypeId->List PV->Option α):Option α:=
 match y with
 |.sl i n m len=>
  match rowAt H i with
  |some r=>DM (r.es.length==n) (k r.bv r.t ((r.es.drop m).take len))
  |none=>none
 |.C9 _ t es=>k true t es
 |_=>none
theorem dA{H:List Row}{y:PV}{k:Bool->TypeId->List PV->Option α}{r:α}(h:uh H y k=some r):∃ ty t news,Ks H y=some (ty,t,news)/\k ty t news=some r:=by
 unfold uh at h;split at h
 ·split at h
  ·rename_i hr;obtain⟨h1,h2⟩:=Da h;exact⟨_,_,_,by simp only[Ks,hr];rw[Ak (by simpa using h1)],h2⟩
  ·cases h
 ·exact⟨_,_,_,rfl,h⟩
 ·cases h
def yH(P:Program)(T:TypeId)(y:PV)(k:Bool->TypeId->List PV->Option α):Option α:=
 match P.underlying T,y with
 |some (.slice e),.val (.string s)=>DM (TF P e) (k true e (FA s))
 |_,_=>none
def gq(P:Program)(T T2:TypeId)(H:List Row)(y:PV)(k:Bool->TypeId->List PV->Option α):Option α:=
 match P.underlying T2 with
 |some (.slice e)=>match zsl y with |true=>k true e [] |false=>uh H y k
 |some .string=>yH P T y k
 |_=>none
theorem YS{T T2:TypeId}{H:List Row}{y:PV}{k:Bool->TypeId->List PV->Option α}{r:α}(h:gq P T T2 H y k=some r):∃ ty t news,JV P T T2 H y=some (ty,t,news)/\k ty t news=some r:=by
 unfold gq at h;unfold JV;split at h
 ·rename_i hu;simp only[hu];split at h
  ·rename_i hz;simp only[hz];exact⟨_,_,_,rfl,h⟩
  ·rename_i hz;simp only[hz];exact dA h
 ·rename_i hu;simp only[hu];unfold yH at h;split at h
  ·rename_i h1;obtain⟨h2,h3⟩:=Da h;exact⟨_,_,_,by simp only[UB,h1];rw[Ak h2],h3⟩
  ·cases h
 ·cases h
def NK(P:Program)(ro:Nat)(H:List Row)(c:Call)(x y:PV)(k:PV->List Row->Option α):Option α:=
 match c.argTypes[0]?,c.argTypes[1]? with
 |some T,some T2=>
  match P.underlying T with
  |some (.slice e)=>
   gq P T T2 H y fun ty t news=>
   DM (known P e&&t==e&&(E8 P e).any (fun z=>z.cells.size==P.cellsOf e)&&P.bytesOf e != 0&&(ty||GX news))
    (match x with
    |.sl i n 0 len=>
     match rowAt H i with
     |some r=>
      DM (decide (ro<=i)&&decide (r.es.length=n)&&decide (n=len)&&decide ((n+news.length)*P.bytesOf e<=140737488355328))
       (DM (r.t==e&&r.s==P.cellsOf e && !r.fz)
        (Ry { r with es:=r.es++news,bv:=r.bv&&ty,nl:=r.nl&&news.isEmpty } fun r2=>k (.sl i (n+news.length) 0 (n+news.length)) (H.set i r2)))
     |none=>none
    |.val (.slice none 0 0)=>
     DM (decide (news.length*P.bytesOf e<=140737488355328))
      (bif news.isEmpty then k x H else Ry { es:=news,s:=P.cellsOf e,t:=e,bv:=ty } fun r2=>k (.sl H.length news.length 0 news.length) (H++[r2]))
    |.C9 true t2 es=>
     DM (t2==e) (DM (decide ((es.length+news.length)*P.bytesOf e<=140737488355328))
      (bif news.isEmpty then k x H else Ry { es:=es++news,s:=P.cellsOf e,t:=e,bv:=ty } fun r2=>k (.sl H.length (es.length+news.length) 0 (es.length+news.length)) (H++[r2])))
    |_=>none)
  |_=>none
 |_,_=>none
theorem JY{ro:Nat}{H:List Row}{c:Call}{x y:PV}{k:PV->List Row->Option α}{r:α}(h:NK P ro H c x y k=some r):∃ p H',ES P ro H c x y=some (p,H')/\k p H'=some r:=by
 unfold NK at h;unfold ES;split at h
 ·rename_i T T2 h1 h2;split at h
  ·rename_i e hu;obtain⟨ty,t,news,hs,h⟩:=YS h;obtain⟨hc,h⟩:=Da h;simp only[h1,h2,hu,hs];rw[Ak hc];split at h
   ·split at h
    ·rename_i hr;obtain⟨g1,h⟩:=Da h;obtain⟨g2,h⟩:=Da h;simp only[Aa,Ab]at g1;rw[HV]at h;simp only[hr];exact⟨_,_,by rw[Ak ⟨g1.1.1.1,g1.1.1.2,g1.1.2,g1.2⟩,Ak g2],h⟩
    ·cases h
   ·obtain⟨g1,h⟩:=Da h;rw[Ak (by simpa using g1)];cases hn:news.isEmpty with
    |true=>rw[hn]at h;exact⟨_,_,by simp,h⟩
    |false=>rw[hn]at h;simp only[Ar,HV]at h;exact⟨_,_,rfl,h⟩
   ·obtain⟨g0,h⟩:=Da h;obtain⟨g1,h⟩:=Da h;dsimp only;rw[Ak g0,Ak (by simpa using g1)];cases hn:news.isEmpty with
    |true=>rw[hn]at h;exact⟨_,_,rfl,h⟩
    |false=>rw[hn]at h;simp only[Ar,HV]at h;exact⟨_,_,rfl,h⟩
   ·cases h
  ·cases h
 ·cases h
def gr(P:Program)(ro:Nat)(H:List Row)(f:Operand->PV)(op:Op)(k:PV->List Row->Option α):Option α:=
 match op with
 |.call c=>
  match c.callee with
  |.builtin .clear=>
   match c.args.toList,c.argTypes[0]? with
   | [x],some T=>
    match P.underlying T with
    |some (.slice e)=>
     match E8 P e with
     |some z=>
      match f x with
      |.sl i n m len=>
       match rowAt H i with
       |some r=>DM (decide (ro<=i)&&r.t==e&&QA P e z && !r.fz&&(r.es.length==n)) (bif r.nl then k (.val (.tuple #[])) H else Ry (Q9 P e z r m len) fun r2=>k (.val (.tuple #[])) (H.set i r2))
       |none=>none
      |.val (.slice none 0 0)=>k (.val (.tuple #[])) H
      |_=>none
     |none=>none
    |_=>none
   |_,_=>none
  |.builtin .unsafeString=>
   match c.args.toList,c.argTypes[0]? with
   | [x,y],some T=>
    match P.underlying T with
    |some (.pointer e)=>
     match f x,f y with
     |.ptr i n 0 0,.val (.int .i64 m)=>
      match rowAt H i with
      |some r=>DM (decide (ro<=i)&&Mj P e&&r.t==e&&r.bv&&(r.es.length==n)&&decide (0<m)&&decide (m<=n)&&decide (m<=9223372036854775807))
        (Ry { r with fz:=true } fun r2=>k (.val (.string (V8 ((r.es.drop 0).take m.toNat)))) (H.set i r2))
      |none=>none
     |.val (.pointer none),.val (.int .i64 0)=>k (.val (.string .empty)) H
     |_,_=>none
    |_=>none
   |_,_=>none
  |_=>none
 |_=>none
theorem YT{ro:Nat}{H:List Row}{f:Operand->PV}{op:Op}{k:PV->List Row->Option α}{r:α}(h:gr P ro H f op k=some r):∃ p H',Mn P ro H f op=some (p,H')/\k p H'=some r:=by
 unfold gr at h;split at h
 ·rename_i c;split at h
  ·rename_i hc;split at h
   ·rename_i x T ha hT;split at h
    ·rename_i e hu;split at h
     ·rename_i z hz;split at h
      ·rename_i i n m len hx;split at h
       ·rename_i rw hr;obtain⟨h1,h2⟩:=Da h;refine⟨_,if rw.nl then H else H.set i (Q9 P e z rw m len),by simp only[Mn,hc,ha,Ra,hT,hu,hz,hx,hr];rw[Ak h1],?_⟩;cases hn:rw.nl with
        |true=>rw[hn]at h2;exact h2
        |false=>rw[hn]at h2;simp only[Ar]at h2;rw[HV]at h2;exact h2
       ·cases h
      ·rename_i hx;exact⟨_,_,by simp only[Mn,hc,ha,Ra,hT,hu,hz,hx],h⟩
      ·cases h
     ·cases h
    ·cases h
   ·cases h
  ·rename_i hc;split at h
   ·rename_i x y T ha hT;split at h
    ·rename_i e hu;split at h
     ·rename_i i n m hx hy;split at h
      ·rename_i rw hr;obtain⟨h1,h2⟩:=Da h;rw[HV]at h2;exact⟨_,_,by simp only[Mn,hc,ha,yw,hT,hu,hx,hy,hr];rw[Ak h1],h2⟩
      ·cases h
     ·rename_i hx hy;exact⟨_,_,by simp only[Mn,hc,ha,yw,hT,hu,hx,hy],h⟩
     ·cases h
    ·cases h
   ·cases h
  ·cases h
 ·cases h
end
abbrev LW(α:Type):=Nat->FuncId->Code->List PV->List Row->(PX->List PV->List Row->Option α)->Option α
section
variable {α:Type}
def QC(P:Program)(S:List PV)(H:List Row):List ResultVar->(List PV->Option α)->Option α
 | [],k=>k []
 |.tmp t::rs,k=>QC P S H rs fun ps=>k (S.getD t (.val undef)::ps)
 |.cell a t::rs,k=>DM (IV H (S.getD a (.val undef))) (aK P H t (S.getD a (.val undef)) fun p=>QC P S H rs fun ps=>k (p::ps))
theorem JZ{P:Program}{S:List PV}{H:List Row}:∀{rs:List ResultVar} {k:List PV->Option α} {r:α},QC P S H rs k=some r->∃ ps,JW P S H rs=some ps/\k ps=some r
 | [],k,r,h=>⟨[],rfl,h⟩
 |.tmp t::rs,k,r,h=>by
  obtain⟨ps,h1,h2⟩:=JZ (rs:=rs) h;exact⟨_,by simp only[JW,Ow,h1],h2⟩
 |.cell a t::rs,k,r,h=>by
  obtain⟨g1,g2⟩:=Da h;obtain⟨p,g3,g4⟩:=Rw g2;obtain⟨ps,h1,h2⟩:=JZ (rs:=rs) g4;exact⟨_,by simp only[JW,Ow,h1];rw[Ak g1];simp only[g3],h2⟩
def ui(P:Program)(fn:Func)(S:List PV)(H:List Row)(k:PV->Option α):Option α:=
 QC P S H fn.results.toList fun ps=>match ps with | [p]=>k p |ps=>k (.El ps)
theorem dC{fn:Func}{S:List PV}{H:List Row}{k:PV->Option α}{r:α}(h:ui P fn S H k=some r):∃ p,dj P fn S H=some p/\k p=some r:=by
 obtain⟨ps,h1,h2⟩:=JZ h;unfold dj;rw[h1];split at h2
 ·exact⟨_,rfl,h2⟩
 ·rename_i hne;refine⟨.El ps,?_,h2⟩;split
  ·rename_i q hq;cases hq;exact absurd rfl (hne _)
  ·rename_i hq;cases hq;rfl
  ·rename_i hq;cases hq
def Ld(P:Program)(ex:LW α)(ro:Nat)(f:FuncId)(args:List PV)(H:List Row)(k:PV->List Row->Option α):Option α:=
 match P.funcs[f]? with
 |some fn=>
  match fn.body with
  |some b=>
   match fn.name == "runtime.NumGoroutine" with
   |true=>none
   |false=>
    ex ro f b (args++List.replicate (fn.ntmps-args.length) (.val undef)) H fun x S' H'=>
     match x with
     |.exit _=>none
     |_=>ui P fn S' H' fun p=>k p H'
  |none=>none
 |none=>none
def Le(P:Program)(E:CY)(ex:LW α)(ro:Nat)(f:FuncId)(args:List PV)(H:List Row)(k:PV->List Row->Option α):Option α:=
 match E.Hc ro f args H with
 |some d=>d.go fun r=>k r.1 r.2
 |none=>Ld P ex ro f args H k
def aL(H:List Row)(h:Nat)(p:PV)(k:PV->Option α):Option α:=
 match p with
 |.sl i n m len=>
  bif decide (h<=i) then
   match rowAt H i with
   |some r=>bif r.bv then DM (r.es.length==n) (k (.C9 false r.t ((r.es.drop m).take len))) else k (.sl i n m len)
   |none=>k (.sl i n m len)
  else k (.sl i n m len)
 |p=>k (frz H h p)
theorem RA{H:List Row}{h:Nat}{p:PV}{k:PV->Option α}{r:α}(g:aL H h p k=some r):k (frz H h p)=some r:=by
 unfold aL at g;split at g
 ·rename_i i n m len;rw[frz];by_cases hh:h<=i
  ·rw[Ak hh];rw[Ac hh,Aj]at g;cases hr:rowAt H i with
   |none=>rw[hr]at g;exact g
   |some r0=>
    rw[hr]at g;dsimp only at g ⊢;cases hb:r0.bv with
    |true=>
     rw[hb,Aj]at g;obtain⟨g1,g2⟩:=Da g;rw[g1];exact g2
    |false=>rw[hb]at g;exact g
  ·rw[Aq hh];rw[Ai hh,Ar]at g;exact g
 ·exact g
def YU(H:List Row)(h:Nat):List PV->(List PV->Option α)->Option α
 | [],k=>k []
 |p::ps,k=>aL H h p fun q=>YU H h ps fun qs=>k (q::qs)
theorem Pv{H:List Row}{h:Nat}:∀{ps:List PV} {k:List PV->Option α} {r:α},YU H h ps k=some r->k (Hp H h ps)=some r
 | [],k,r,g=>by rw[Hp];exact g
 |p::ps,k,r,g=>by rw[Hp];exact Pv (ps:=ps) (RA g)
def YV(H:List Row)(h:Nat)(p:PV)(k:PV->Option α):Option α:=
 match p with
 |.agg cs=>YU H h cs fun ds=>k (.agg ds)
 |p=>aL H h p k
theorem Jt{H:List Row}{h:Nat}{p:PV}{k:PV->Option α}{r:α}(g:YV H h p k=some r):k (frz H h p)=some r:=by
 unfold YV at g;split at g
 ·rw[frz];exact Pv g
 ·exact RA g
def Mr(H:List Row)(h:Nat):List PV->(List PV->Option α)->Option α
 | [],k=>k []
 |p::ps,k=>YV H h p fun q=>Mr H h ps fun qs=>k (q::qs)
theorem Fl{H:List Row}{h:Nat}:∀{ps:List PV} {k:List PV->Option α} {r:α},Mr H h ps k=some r->k (Hp H h ps)=some r
 | [],k,r,g=>by rw[Hp];exact g
 |p::ps,k,r,g=>by rw[Hp];exact Fl (ps:=ps) (Jt g)
def YW(r:PV)(ags args:List PV)(k:PV->Option α):Option α:=
 DM (E5 0 ags&&mlt 0 r&&(plain r||E5 0 args)) (k r)
def YX(P:Program)(E:CY)(ex:LW α)(ro:Nat)(f:FuncId)(args:List PV)(H:List Row)(k:PV->List Row->Option α):Option α:=
 Mr H 0 args fun ags=>
 match E.Yd f ags with
 |some d=>d.go fun r=>YW r ags args fun p=>k p H
 |none=>
 match E.FI f ags with
 |some r=>YW r ags args fun p=>k p H
 |none=>Le P E ex ro f args H fun p H'=>
   bif E.KC f then k p H' else YV H' H.length p fun q=>DM (mlt H.length q&&DF H.length (H'.take H.length)) (k q (H'.take H.length))
def gu(P:Program)(E:CY)(ex:LW α)(f:FuncId)(args:List PV)(H:List Row)(k:PV->Option α):Option α:=
 DM (E5 H.length args&&DF H.length H)
  (Mr H 0 args fun ags=>
  match E.Yd f ags with
  |some d=>d.go fun r=>YW r ags args k
  |none=>
  match E.FI f ags with
  |some r=>YW r ags args k
  |none=>Le P E ex H.length f args H fun p H'=>YV H' H.length p fun q=>DM (mlt H.length q) (k q))
def Ref(Hj:LW α)(ex:Ex):Prop:=∀ ro f c S H (k:PX->List PV->List Row->Option α) r,Hj ro f c S H k=some r->∃ x S' H',ex ro f c S H=some (x,S',H')/\k x S' H'=some r
theorem Fj{Hj:LW α}{ex:Ex}(hr:Ref Hj ex){ro:Nat}{f:FuncId}{args:List PV}{H:List Row}{k:PV->List Row->Option α}{r:α}(h:Ld P Hj ro f args H k=some r):
  ∃ p H',Pg P ex ro f args H=some (p,H')/\k p H'=some r:=by
 unfold Ld at h;split at h
 ·rename_i fn hfn;split at h
  ·rename_i b hb;split at h
   ·cases h
   ·rename_i hn;obtain⟨x,S',H',h1,h2⟩:=hr _ _ _ _ _ _ _ h;have:x≠.exit (match x with |.exit i=>i |_=>0)/\ui P fn S' H' (fun p=>k p H')=some r:=by
     cases x with
     |exit i=>cases h2
     |normal=>exact⟨by simp,h2⟩
     |ret=>exact⟨by simp,h2⟩
    obtain⟨p,h3,h4⟩:=dC this.2;refine⟨p,H',?_,h4⟩;unfold Pg;simp only[hfn,hb];rw[Aq (by simp[hn]),h1];cases x with
    |exit i=>cases h2
    |normal=>simp only[h3,AE]
    |ret=>simp only[h3,AE]
  ·cases h
 ·cases h
theorem Gm{E:CY}{Hj:LW α}{ex:Ex}(hr:Ref Hj ex){ro:Nat}{f:FuncId}{args:List PV}{H:List Row}{k:PV->List Row->Option α}{r:α}(h:Le P E Hj ro f args H k=some r):
  ∃ p H',Iu P E.env ex ro f args H=some (p,H')/\k p H'=some r:=by
 unfold Le at h;unfold Iu CY.env;dsimp only;split at h
 ·rename_i d hd;obtain⟨a,h1,h2⟩:=DT.GG h;rw[hd];simp only[Bl,h1];exact⟨_,_,rfl,h2⟩
 ·rename_i hd;rw[hd];exact Fj hr h
theorem Ib{E:CY}{f:FuncId}{args:List PV}{H:List Row}{p:PV}{k:PV->Option α}{r:α}(ho:E.env.FI f (Hp H 0 args)=some p)(h:YW p (Hp H 0 args) args k=some r):GR E.env f args H=some p/\k p=some r:=by
 obtain⟨h1,h2⟩:=Da h;refine⟨?_,h2⟩;unfold GR;rw[ho];dsimp only;rw[Ak h1]
theorem UO{E:CY}{f:FuncId}{a:List PV}{p:PV}(hd:E.Yd f a=none)(h:E.FI f a=some p):E.env.FI f a=some p:=by
 show(match E.Yd f a with |some d=>d.run |none=>E.FI f a)=_
 rw[hd];exact h
theorem QD{E:CY}{f:FuncId}{a:List PV}{p:PV}{d:DT PV}(hd:E.Yd f a=some d)(h:d.run=some p):E.env.FI f a=some p:=by
 show(match E.Yd f a with |some d=>d.run |none=>E.FI f a)=_
 rw[hd];exact h
theorem RC{E:CY}{f:FuncId}{a:List PV}(hd:E.Yd f a=none)(h:E.FI f a=none):E.env.FI f a=none:=by
 show(match E.Yd f a with |some d=>d.run |none=>E.FI f a)=_
 rw[hd];exact h
theorem WT{E:CY}{Hj:LW α}{ex:Ex}(hr:Ref Hj ex){ro:Nat}{f:FuncId}{args:List PV}{H:List Row}{k:PV->List Row->Option α}{r:α}(h:YX P E Hj ro f args H k=some r):
  ∃ p H',Rb P E.env ex ro f args H=some (p,H')/\k p H'=some r:=by
 unfold YX at h;replace h:=Fl h
 unfold Rb;split at h
 ·rename_i d hd;obtain⟨p,g1,g2⟩:=DT.GG h;obtain⟨h1,h2⟩:=Ib (QD hd g1) g2;rw[h1];exact⟨_,_,rfl,h2⟩
 rename_i hd;split at h
 ·rename_i p hp;obtain⟨h1,h2⟩:=Ib (UO hd hp) h;rw[h1];exact⟨_,_,rfl,h2⟩
 ·rename_i hn;have:GR E.env f args H=none:=by
   unfold GR;rw[RC hd hn]
  rw[this];obtain⟨p,H',h1,h2⟩:=Gm hr h;simp only[h1];show ∃ q H2,(if E.KC f=true then some (p,H') else some (settle H.length p H'))=some (q,H2)/\_
  cases hk:E.KC f with
  |true=>rw[hk]at h2;exact⟨_,_,rfl,h2⟩
  |false=>
   rw[hk,Ar]at h2;obtain⟨g1,g2⟩:=Da (Jt h2);refine⟨_,_,by rw[Aq (by simp)];simp only[settle];rw[Ak g1],g2⟩
theorem WU{E:CY}{Hj:LW α}{ex:Ex}(hr:Ref Hj ex){f:FuncId}{args:List PV}{H:List Row}{k:PV->Option α}{r:α}(h:gu P E Hj f args H k=some r):
  ∃ p,Wo P E.env ex f args H=some p/\k p=some r:=by
 obtain⟨h0,h⟩:=Da h;replace h:=Fl h
 unfold Wo;rw[Ak h0];split at h
 ·rename_i d hd;obtain⟨p,g1,g2⟩:=DT.GG h;obtain⟨h1,h2⟩:=Ib (QD hd g1) g2;rw[h1];exact⟨_,rfl,h2⟩
 rename_i hd;split at h
 ·rename_i p hp;obtain⟨h1,h2⟩:=Ib (UO hd hp) h;rw[h1];exact⟨_,rfl,h2⟩
 ·rename_i hn;have:GR E.env f args H=none:=by
   unfold GR;rw[RC hd hn]
  rw[this];obtain⟨p,H',h1,h2⟩:=Gm hr h;obtain⟨g1,g2⟩:=Da (Jt h2);simp only[h1];exact⟨_,by rw[Ak g1],g2⟩
def YY(ex:LW α)(ro i:Nat)(args:List PV)(H:List Row)(k:PV->List Row->Option α):Option α:=
 match I9 H i with
 |some ⟨kk,.ready⟩=>
  DM (decide (ro<=i)&&args.length==kk.ps.size)
   (ex ro kk.f kk.HP (Rd kk.S0 kk.ps.toList args) H fun x S1 H1=>
    match x with
    |.normal=>
     match I9 H1 i,IY H1 i .busy with
     |some ⟨_,.ready⟩,some H2=>
      ex ro kk.f kk.body S1 H2 fun x _ H3=>
       match x with
       |.normal=>Tl (IY H3 i .ready) fun H4=>k (.val (.bool true)) H4
       |.exit id=>Tl (IY H3 i (.done (.exit id))) fun H4=>k (.val (.bool false)) H4
       |.ret=>Tl (IY H3 i (.done .ret)) fun H4=>k (.val (.bool false)) H4
     |_,_=>none
    |_=>none)
 |_=>none
theorem WV{Hj:LW α}{ex:Ex}(hr:Ref Hj ex){ro i:Nat}{args:List PV}{H:List Row}{k:PV->List Row->Option α}{r:α}(h:YY Hj ro i args H k=some r):
  ∃ b H',Re ex ro i args H=some (b,H')/\k (.val (.bool b)) H'=some r:=by
 unfold YY at h;unfold Re;split at h
 ·rename_i kk hk;rw[hk];obtain⟨h1,h2⟩:=Da h;dsimp only;rw[Ak h1];obtain⟨x,S1,H1,h3,h4⟩:=hr _ _ _ _ _ _ _ h2;rw[h3];split at h4
  ·dsimp only;split at h4
   ·rename_i H2 hl hs;rw[hl,hs];obtain⟨x,S3,H3,h5,h6⟩:=hr _ _ _ _ _ _ _ h4;dsimp only;rw[h5];cases x with
    |normal=>
     obtain⟨H4,h7,h8⟩:=FQ h6;simp only[MF,h7,AE];exact⟨_,_,rfl,h8⟩
    |exit id=>
     obtain⟨H4,h7,h8⟩:=FQ h6;simp only[MF,h7,AE];exact⟨_,_,rfl,h8⟩
    |ret=>
     obtain⟨H4,h7,h8⟩:=FQ h6;simp only[MF,h7,AE];exact⟨_,_,rfl,h8⟩
   ·cases h4
  ·cases h4
 ·cases h
def gy(S:List PV)(i:Nat)(H:List Row)(k:PX->List PV->List Row->Option α):Option α:=
 match I9 H i,IY H i .over with
 |some ⟨_,.ready⟩,some H'=>k .normal S H'
 |some ⟨_,.done .ret⟩,some H'=>k .ret S H'
 |some ⟨_,.done (.exit id)⟩,some H'=>k (.exit id) S H'
 |_,_=>none
theorem YZ{S:List PV}{i:Nat}{H:List Row}{k:PX->List PV->List Row->Option α}{r:α}(h:gy S i H k=some r):∃ x S' H',Wp S i H=some (x,S',H')/\k x S' H'=some r:=by
 unfold gy at h;unfold Wp;split at h
 ·rename_i h1 h2;rw[h1,h2];exact⟨_,_,_,rfl,h⟩
 ·rename_i h1 h2;rw[h1,h2];exact⟨_,_,_,rfl,h⟩
 ·rename_i h1 h2;rw[h1,h2];exact⟨_,_,_,rfl,h⟩
 ·cases h
def UP(P:Program)(E:CY)(ro:Nat)(H:List Row)(f:Operand->PV)(op:Op)(k:PV->List Row->Option α):Option α:=
 match E.Fz ro H f op with
 |some d=>d.go fun r=>k r.1 r.2
 |none=>gr P ro H f op k
theorem Pw{E:CY}{ro:Nat}{H:List Row}{f:Operand->PV}{op:Op}{k:PV->List Row->Option α}{r:α}(h:UP P E ro H f op k=some r):∃ p H',TJ P E.env ro H f op=some (p,H')/\k p H'=some r:=by
 unfold UP at h;unfold TJ;split at h
 ·rename_i d hd;obtain⟨x,h1,h2⟩:=DT.GG h;refine⟨x.1,x.2,?_,h2⟩;show(match (E.Fz ro H f op).bind DT.run with |some r=>some r |none=>Mn P ro H f op)=_
  rw[hd];simp only[Bl,h1]
 ·rename_i hd;obtain⟨p,H',h1,h2⟩:=YT h;refine⟨p,H',?_,h2⟩;show(match (E.Fz ro H f op).bind DT.run with |some r=>some r |none=>Mn P ro H f op)=_
  rw[hd];exact h1
theorem Oz{E:CY}{ro:Nat}{H:List Row}{f:Operand->PV}{op:Op}:Rf E.env.Ec ro H f op=(Rf E.Ec ro H f op).bind DT.run:=by
 unfold Rf;split
 ·rfl
 ·rfl
 ·rfl
 ·split <;> rfl
 ·rfl
def WW(P:Program)(E:CY)(ex:LW α)(ro:Nat)(S:List PV)(H:List Row)(o:Oper)(k:PV->List Row->Option α):Option α:=
 match Rf E.Ec ro H (ev S) o.op with
 |some d=>d.go fun r=>k r.1 r.2
 |none=>
 dy P H (ev S) o.op (fun p=>k p H) (dz P H (ev S) o.op (fun p r=>k p (H++[r]))
  (match o.op with
   |.store T a x=>Rz P ro H T (ev S a) (ev S x) fun H'=>k (.val undef) H'
   |.call c=>
    match c.callee with
    |.builtin .append=>match c.args.toList with | [x,y]=>NK P ro H c (ev S x) (ev S y) k |_=>none
    |.value g=>match ev S g with |.fn (.func f) first cap=>YX P E ex ro f (first++c.args.toList.map (ev S)++cap) H k |.Ih i=>YY ex ro i (c.args.toList.map (ev S)) H k |_=>none
    |_=>UP P E ro H (ev S) o.op k
   |_=>UP P E ro H (ev S) o.op k))
theorem MM{E:CY}{Hj:LW α}{ex:Ex}(hr:Ref Hj ex){ro:Nat}{S:List PV}{H:List Row}{o:Oper}{k:PV->List Row->Option α}{r:α}(h:WW P E Hj ro S H o k=some r):
  ∃ p H',Mo P E.env ex ro S H o=some (p,H')/\k p H'=some r:=by
 unfold WW at h;unfold Mo;split at h
 ·rename_i d hr0;obtain⟨r0,h1,h2⟩:=DT.GG h;have hr0':Rf E.env.Ec ro H (ev S) o.op=some r0:=by rw[Oz,hr0];exact h1
  rw[hr0'];exact⟨r0.1,r0.2,rfl,h2⟩
 rename_i hr0;have hr0':Rf E.env.Ec ro H (ev S) o.op=none:=by rw[Oz,hr0];rfl
 rw[hr0'];dsimp only;rcases LJ h with ⟨p,h1,h2⟩ |⟨h1,h⟩
 ·exact⟨p,H,by rw[h1],h2⟩
 ·rw[h1];rcases LK h with ⟨p,rw',h3,h4⟩ |⟨h3,h⟩
  ·exact⟨p,_,by rw[h3],h4⟩
  ·rw[h3];dsimp only;split at h
   ·rename_i hop;simp only[hop];obtain⟨H',h5,h6⟩:=Lc h;exact⟨_,_,by rw[h5];rfl,h6⟩
   ·rename_i c hop;simp only[hop];split at h
    ·rename_i hc;simp only[hc];split at h
     ·rename_i x y ha;simp only[ha];exact JY h
     ·cases h
    ·rename_i g hc;simp only[hc];split at h
     ·rename_i f first cap hg
      simp only[hg];exact WT hr h
     ·rename_i i hg;simp only[hg];obtain⟨b,H',h5,h6⟩:=WV hr h;exact⟨_,_,by rw[h5];rfl,h6⟩
     ·cases h
    ·obtain⟨p,H',h5,h6⟩:=Pw h;refine⟨p,H',?_,h6⟩;split
     ·rename_i hc;exact absurd hc (by assumption)
     ·rename_i hc;exact((by assumption:∀ f,c.callee=.value f->False) _ hc).elim
     ·rw[<- hop];exact h5
   ·obtain⟨p,H',h5,h6⟩:=Pw h;refine⟨p,H',?_,h6⟩;split
    ·rename_i hc;exact((by assumption:∀ T a x,o.op=.store T a x->False) _ _ _ hc).elim
    ·rename_i hc;exact((by assumption:∀ c,o.op=.call c->False) _ hc).elim
    ·exact h5
def RD(P:Program)(E:CY)(ex:LW α)(S:List PV)(H:List Row)(o:Oper)(k:PV->List Row->Option α):Option α:=
 dy P H (ev S) o.op (fun p=>k p H) (dz P H (ev S) o.op (fun p r=>k p (H++[r]))
  (match o.op with
   |.call c=>
    match c.callee with
    |.value g=>match ev S g with |.fn (.func f) first cap=>gu P E ex f (first++c.args.toList.map (ev S)++cap) H fun p=>k p H |_=>none
    |_=>none
   |_=>none))
theorem Lg{E:CY}{Hj:LW α}{ex:Ex}(hr:Ref Hj ex){S:List PV}{H:List Row}{o:Oper}{k:PV->List Row->Option α}{r:α}(h:RD P E Hj S H o k=some r):
  ∃ p H',HK P E.env ex S H o=some (p,H')/\k p H'=some r:=by
 unfold RD at h;unfold HK;rcases LJ h with ⟨p,h1,h2⟩ |⟨h1,h⟩
 ·exact⟨p,H,by rw[h1],h2⟩
 ·rw[h1];rcases LK h with ⟨p,rw',h3,h4⟩ |⟨h3,h⟩
  ·exact⟨p,_,by rw[h3],h4⟩
  ·rw[h3];dsimp only;split at h
   ·rename_i c hop;simp only[hop];split at h
    ·rename_i g hc;simp only[hc];split at h
     ·rename_i f first cap hg
      simp only[hg];obtain⟨p,h5,h6⟩:=WU hr h;exact⟨p,H,by rw[h5];rfl,h6⟩
     ·cases h
    ·cases h
   ·cases h
def UQ(ops:Array Oper)(S:List PV)(o:Oper)(k:Bool->List PV->Option α):Option α:=
 match o.guard with
 |none=>k true S
 |some (j,want)=>
  match (ops[j]?).bind (·.dst) with
  |none=>k false S
  |some d=>
   match S[d]? with
   |none=>k false S
   |some (.val (.bool t))=>bif t then k want (S.set d (.val (.bool true))) else k (!want) (S.set d (.val (.bool false)))
   |some (.val _)=>k false S
   |some _=>none
theorem Px{ops:Array Oper}{S:List PV}{o:Oper}{k:Bool->List PV->Option α}{r:α}(h:UQ ops S o k=some r):∃ b S1,EG ops S o=some (b,S1)/\k b S1=some r:=by
 unfold UQ at h;unfold EG;split at h
 ·rename_i hg;rw[hg];exact⟨_,_,rfl,h⟩
 ·rename_i j want hg;rw[hg];dsimp only;split at h
  ·rename_i hd;rw[hd];exact⟨_,_,rfl,h⟩
  ·rename_i d hd;rw[hd];dsimp only;split at h
   ·rename_i hs;rw[hs];exact⟨_,_,rfl,h⟩
   ·rename_i t hs;rw[hs];cases t
    ·exact⟨_,_,rfl,h⟩
    ·exact⟨_,_,rfl,h⟩
   ·rename_i v hv hs;rw[hs];refine⟨false,S,?_,h⟩;cases v <;> first |rfl |exact absurd rfl (hv _)
   ·cases h
def dE(step:List PV->List Row->Oper->(PV->List Row->Option α)->Option α)(ops:Array Oper):List Oper->List PV->List Row->(List PV->List Row->Option α)->Option α
 | [],S,H,k=>k S H
 |o::os,S,H,k=>UQ ops S o fun w S1=>
  match w with
  |true=>step S1 H o fun p H1=>dE step ops os (D6 S1 o.dst p) H1 k
  |false=>dE step ops os (D6 S1 o.dst (.val undef)) H k
theorem Ju{Y0:List PV->List Row->Oper->(PV->List Row->Option α)->Option α}{st:List PV->List Row->Oper->Option (PV×List Row)}
  (hst:∀ S H o k r,Y0 S H o k=some r->∃ p H',st S H o=some (p,H')/\k p H'=some r) {ops:Array Oper}:
  ∀{os:List Oper} {S:List PV} {H:List Row} {k:List PV->List Row->Option α} {r:α},dE Y0 ops os S H k=some r->∃ S' H',LR st ops os S H=some (S',H')/\k S' H'=some r
 | [],S,H,k,r,h=>⟨S,H,rfl,h⟩
 |o::os,S,H,k,r,h=>by
  obtain⟨w,S1,h1,h2⟩:=Px h;simp only[LR,h1];cases w with
  |true=>
   obtain⟨p,H1,h3,h4⟩:=hst _ _ _ _ _ h2;simp only[h3];exact Ju hst (os:=os) h4
  |false=>exact Ju hst (os:=os) h2
def Y2(P:Program)(E:CY)(ex:LW α)(K:List Nat)(S:List PV)(H:List Row)(o:Oper)(k:PV->List Row->Option α):Option α:=
 match K with
 | []=>RD P E ex S H o k
 |x::K=>dy P (kill (x::K) H) (ev S) o.op (fun p=>k p H) (dz P H (ev S) o.op (fun p r=>k p (H++[r])) none)
theorem WX{E:CY}{Hj:LW α}{ex:Ex}(hr:Ref Hj ex){K:List Nat}{S:List PV}{H:List Row}{o:Oper}{k:PV->List Row->Option α}{r:α}(h:Y2 P E Hj K S H o k=some r):
  ∃ p H',Mp P E.env ex K S H o=some (p,H')/\k p H'=some r:=by
 cases K with
 |nil=>exact Lg hr h
 |cons x K=>
  unfold Y2 at h;unfold Mp;rcases LJ h with ⟨p,h1,h2⟩ |⟨h1,h⟩
  ·exact⟨p,H,by simp only[h1],h2⟩
  ·rcases LK h with ⟨p,rw',h3,h4⟩ |⟨h3,h⟩
   ·exact⟨p,_,by simp only[h1,h3];rfl,h4⟩
   ·cases h
def UR(P:Program)(E:CY)(ex:LW α)(W R K:List Nat)(S:List PV)(H:List Row)(o:Oper)(k:PV->List Row->Option α):Option α:=
 Y2 P E ex K S (Ei R H) o fun p H1=>
  match H1.drop H.length with
  | []=>k p H
  | [r]=>DM (W.contains H.length && !R.contains H.length) (k p (H++[r]))
  |_=>none
theorem NL{E:CY}{Hj:LW α}{ex:Ex}(hr:Ref Hj ex){W R K:List Nat}{S:List PV}{H:List Row}{o:Oper}{k:PV->List Row->Option α}{r:α}(h:UR P E Hj W R K S H o k=some r):
  ∃ p H',KY P E.env ex W R K S H o=some (p,H')/\k p H'=some r:=by
 obtain⟨p,H1,h1,h2⟩:=WX hr h;unfold KY;rw[h1];dsimp only;split at h2
 ·rename_i hd;rw[hd];exact⟨_,_,rfl,h2⟩
 ·rename_i hd;rw[hd];obtain⟨h3,h4⟩:=Da h2;dsimp only;rw[Ak h3];exact⟨_,_,rfl,h4⟩
 ·cases h2
def US(P:Program)(E:CY)(ex:LW α)(ro:Nat)(W R K G:List Nat)(S:List PV)(H:List Row)(o:Oper)(k:PV->List Row->Option α):Option α:=
 match o.op with
 |.store T a x=>
  match ev S a with
  |.ptr i n q j=>DM (W.contains i && !R.contains i) (Rz P ro H T (.ptr i n q j) (ev S x) fun H'=>k (.val undef) H')
  |_=>none
 |_=>
  match GY S o.op with
  |some (f,args)=>
   match TK E.pure f args with
   | []=>UR P E ex W R K S H o k
   |K=>
    DM (K.all (fun x=>W.contains x && !R.contains x)&&args.all (Q8 H.length)&&decide (ro<=H.length)&&DF 0 (EN K H))
     (Le P E ex ro f args (EN K H) fun p H'=>DM (plain p&&DF 0 (EN K (H'.take H.length))&&Wq K H H') (k p (Is K H H')))
  |none=>
   match Ph S o.op with
   |some (c,i,x,y)=>DM (W.contains i && !R.contains i&&G.contains i&&Nu R y) (NK P ro H c x y k)
   |none=>UR P E ex W R K S H o k
theorem WY{E:CY}{Hj:LW α}{ex:Ex}(hr:Ref Hj ex){ro:Nat}{W R K G:List Nat}{S:List PV}{H:List Row}{o:Oper}{k:PV->List Row->Option α}{r:α}(h:US P E Hj ro W R K G S H o k=some r):
  ∃ p H',Wr P E.env ex ro W R K G S H o=some (p,H')/\k p H'=some r:=by
 unfold US at h;unfold Wr;split at h
 ·rename_i hop;simp only[hop];split at h
  ·rename_i ha;simp only[ha];obtain⟨h1,h2⟩:=Da h;rw[Ak h1];obtain⟨H',h3,h4⟩:=Lc h2;exact⟨_,_,by rw[h3];rfl,h4⟩
  ·cases h
 ·rename_i hno;have key:(∃ p H',(match GY S o.op with
    |some (f,args)=>
     match TK E.pure f args with
     | []=>KY P E.env ex W R K S H o
     |K=>
      if K.all (fun x=>W.contains x && !R.contains x)&&args.all (Q8 H.length)&&decide (ro<=H.length)&&DF 0 (EN K H) then
       match Iu P E.env ex ro f args (EN K H) with
       |some (p,H')=>if plain p&&DF 0 (EN K (H'.take H.length))&&Wq K H H' then some (p,Is K H H') else none
       |none=>none
      else none
    |none=>
     match Ph S o.op with
     |some (c,i,x,y)=>if W.contains i && !R.contains i&&G.contains i&&Nu R y then ES P ro H c x y else none
     |none=>KY P E.env ex W R K S H o)=some (p,H')/\k p H'=some r):=by
   split at h
   ·rename_i f args hw
    try rw[hw]
    try dsimp only
    split at h
    ·rename_i hp
     try rw[hp]
     exact NL hr h
    ·rename_i hne;obtain⟨h1,h2⟩:=Da h;obtain⟨p,H',h3,h4⟩:=Gm hr h2;obtain⟨h5,h6⟩:=Da h4;rw[Ak h1,h3];dsimp only;rw[Ak h5];exact⟨_,_,rfl,h6⟩
   ·rename_i hw
    try rw[hw]
    try dsimp only
    split at h
    ·rename_i hg
     try rw[hg]
     try dsimp only
     obtain⟨h1,h2⟩:=Da h;rw[Ak h1];exact JY h2
    ·rename_i hg
     try rw[hg]
     exact NL hr h
  obtain⟨p,H',h1,h2⟩:=key;refine⟨p,H',?_,h2⟩;split
  ·rename_i hop;exact absurd hop (hno _ _ _)
  ·exact h1
def gz(P:Program)(E:CY)(ex:LW α)(ro:Nat)(K:List Nat)(f:FuncId)(args:List PV)(H:List Row)(k:PV->List Row->Option α):Option α:=
 Mr H 0 args fun ags=>
 match E.Yd f ags with
 |some d=>d.go fun r=>YW r ags args fun p=>k p H
 |none=>
 match E.FI f ags with
 |some r=>YW r ags args fun p=>k p H
 |none=>Le P E ex ro f args H fun p H'=>DM (GQ (Jm K 0 (H'.take H.length)) (Jm K 0 H)) (k p H')
theorem WZ{E:CY}{Hj:LW α}{ex:Ex}(hr:Ref Hj ex){ro:Nat}{K:List Nat}{f:FuncId}{args:List PV}{H:List Row}{k:PV->List Row->Option α}{r:α}(h:gz P E Hj ro K f args H k=some r):
  ∃ p H',(match GR E.env f args H with |some r=>some (r,H) |none=>match Iu P E.env ex ro f args H with |some (p,H')=>if GQ (Jm K 0 (H'.take H.length)) (Jm K 0 H) then some (p,H') else none |none=>none)=some (p,H')/\k p H'=some r:=by
 replace h:=Fl h
 split at h
 ·rename_i d hd;obtain⟨p,g1,g2⟩:=DT.GG h;obtain⟨h1,h2⟩:=Ib (QD hd g1) g2;rw[h1];exact⟨_,_,rfl,h2⟩
 rename_i hd;split at h
 ·rename_i p hp;obtain⟨h1,h2⟩:=Ib (UO hd hp) h;rw[h1];exact⟨_,_,rfl,h2⟩
 ·rename_i hn;have:GR E.env f args H=none:=by
   unfold GR;rw[RC hd hn]
  rw[this];obtain⟨p,H',h1,h2⟩:=Gm hr h;obtain⟨g1,g2⟩:=Da h2;dsimp only;rw[h1];dsimp only;rw[Ak g1];exact⟨_,_,rfl,g2⟩
def Y3(P:Program)(E:CY)(ex:LW α)(ro h0:Nat)(K:List Nat)(S:List PV)(H:List Row)(o:Oper)(k:PV->List Row->Option α):Option α:=
 match stOp o.op with
 |some (T,a,x)=>
  match ev S a with
  |.ptr i n q j=>DM (xu h0 K i) (Rz P ro H T (.ptr i n q j) (ev S x) fun H'=>k (.val undef) H')
  |_=>none
 |none=>
  match GY S o.op with
  |some (f,args)=>
   match E.KC f with
   |true=>gz P E ex ro K f args H k
   |false=>
   DM (args.all (ub (FB args) H.length)&&decide (ro<=H.length)&&DF 0 (EN (FB args) H))
    (Le P E ex ro f args (EN (FB args) H) fun p H'=>DM (plain p&&DF 0 (EN (FB args) (H'.take H.length))&&YB (FB args) H H') (k p (Is (FB args) H H')))
  |none=>
   dz P H (ev S) o.op (fun p r=>k p (H++[r]))
    (match UG o.op with
    |some (c,x,y)=>DM (yA h0 K (ev S x)) (match Rf E.Ec ro H (ev S) o.op with |some d=>d.go fun r=>DM (YC h0 (ev S x) r.2) (k r.1 r.2) |none=>NK P ro H c (ev S x) (ev S y) k)
    |none=>
     match E.Fz ro H (ev S) o.op with
     |some d=>d.go fun r=>match Nat.beq r.2.length H.length with |true=>k r.1 r.2 |false=>none
     |none=>none)
theorem W0{E:CY}{Hj:LW α}{ex:Ex}(hr:Ref Hj ex){ro h0:Nat}{K:List Nat}{S:List PV}{H:List Row}{o:Oper}{k:PV->List Row->Option α}{r:α}(h:Y3 P E Hj ro h0 K S H o k=some r):
  ∃ p H',Kt P E.env ex ro h0 K S H o=some (p,H')/\k p H'=some r:=by
 unfold Y3 at h;unfold Kt;split at h
 ·rename_i T a x hst;simp only[hst];split at h
  ·rename_i ha;simp only[ha];obtain⟨h1,h2⟩:=Da h;rw[Ak h1];obtain⟨H',h3,h4⟩:=Lc h2;exact⟨_,_,by rw[h3];rfl,h4⟩
  ·cases h
 ·rename_i hst;simp only[hst];split at h
  ·rename_i f args hw;simp only[hw];have hke:E.env.KC f=E.KC f:=rfl;rw[hke];split at h
   ·rename_i hk;rw[hk];exact WZ hr h
   rename_i hk;rw[hk];dsimp only;obtain⟨h1,h2⟩:=Da h;obtain⟨p,H',h3,h4⟩:=Gm hr h2;obtain⟨h5,h6⟩:=Da h4;rw[Ak h1,h3];dsimp only;rw[Ak h5];exact⟨_,_,rfl,h6⟩
  ·rename_i hw;simp only[hw];rcases LK h with ⟨p,rw',h3,h4⟩ |⟨h3,h⟩
   ·exact⟨p,_,by rw[h3],h4⟩
   ·rw[h3];dsimp only;split at h
    ·rename_i c x y hap;simp only[hap];obtain⟨h1,h2⟩:=Da h;rw[Ak h1,Oz];split at h2
     ·rename_i d hd;obtain⟨x,g1,g2⟩:=DT.GG h2;obtain⟨g3,g4⟩:=Da g2;exact⟨x.1,x.2,by rw[hd];simp only[Bl,g1];rw[Ak g3],g4⟩
     ·rename_i hd;rw[hd];exact JY h2
    ·rename_i hap;simp only[hap];split at h
     ·rename_i d hd;obtain⟨x,h1,h2⟩:=DT.GG h;have ho:E.env.Fz ro H (ev S) o.op=some x:=by
       show(E.Fz ro H (ev S) o.op).bind DT.run=some x
       rw[hd];exact h1
      rw[ho];split at h2
      ·rename_i hb;dsimp only;rw[Ak (Bp hb)];exact⟨_,_,rfl,h2⟩
      ·cases h2
     ·cases h
def QE(sf:Bool)(F:List Bool)(P:Program)(E:CY)(ex:LW α)(ro h0:Nat)(W:List (List Nat))(m:List Nat)(n j:Nat)(S:List PV)(H:List Row)(o:Oper)(k:PV->List Row->Option α):Option α:=
 dy P (kill (Gg W m n j) (H.take h0)) (ev S) o.op (fun p=>k p H) (match chainB o.op with
  |true=>(match F.getD j false&&He o.op with
   |true=>(match Wt P (ev S) o.op with |some p=>k p H |none=>none)
   |false=>(match sf&&GZ o.op with |true=>(match E.GO H (ev S) o.op with |some p=>k p H |none=>none) |false=>Y3 P E ex ro h0 (W.getD j []) S H o k))
  |false=>none)
theorem UT{sf:Bool}{F:List Bool}{E:CY}{Hj:LW α}{ex:Ex}(hr:Ref Hj ex){ro h0:Nat}{W:List (List Nat)}{m:List Nat}{n j:Nat}{S:List PV}{H:List Row}{o:Oper}{k:PV->List Row->Option α}{r:α}(h:QE sf F P E Hj ro h0 W m n j S H o k=some r):
  ∃ p H',KZ sf F P E.env ex ro h0 W m n j S H o=some (p,H')/\k p H'=some r:=by
 unfold QE at h;unfold KZ;rcases LJ h with ⟨p,h1,h2⟩ |⟨h1,h⟩
 ·exact⟨p,H,by rw[h1],h2⟩
 ·rw[h1];dsimp only;split at h
  ·rename_i hb;rw[Ak hb];split at h
   ·rename_i hf;rw[Ak hf];split at h
    ·rename_i p hp;rw[hp];exact⟨p,H,rfl,h⟩
    ·cases h
   rename_i hf;rw[Aq (by rw[hf];simp)];split at h
   ·rename_i hs;rw[Ak hs];split at h
    ·rename_i p hp;have hp':E.env.GO H (ev S) o.op=some p:=hp;rw[hp'];exact⟨p,H,rfl,h⟩
    ·cases h
   ·rename_i hs;rw[Aq (by rw[hs];simp)];exact W0 hr h
  ·cases h
def aM(P:Program)(E:CY)(ex:LW α)(ro:Nat)(W G:List (List Nat))(m:List Nat)(n j:Nat):List PV->List Row->Oper->(PV->List Row->Option α)->Option α:=
 US P E ex ro (W.getD j []) (Gg W m n j) (Gg G m n j) (G.getD j [])
def gA(P:Program)(E:CY)(ex:LW α)(S:List PV)(H:List Row)(o:Oper)(k:PV->List Row->Option α):Option α:=
 RD P E ex S H o fun p H1=>match Nat.beq H1.length H.length with |true=>k p H |false=>none
theorem W1{E:CY}{Hj:LW α}{ex:Ex}(hr:Ref Hj ex){S:List PV}{H:List Row}{o:Oper}{k:PV->List Row->Option α}{r:α}(h:gA P E Hj S H o k=some r):
  ∃ p H',Ww P E.env ex S H o=some (p,H')/\k p H'=some r:=by
 obtain⟨p,H1,h1,h2⟩:=Lg hr h;unfold Ww;rw[h1];dsimp only;split at h2
 ·rename_i hb;rw[Ak (Bp hb)];exact⟨_,_,rfl,h2⟩
 ·cases h2
def QF(P:Program)(E:CY)(ex:LW α)(ro pv j:Nat)(S:List PV)(H:List Row)(o:Oper)(k:PV->List Row->Option α):Option α:=
 match Nat.beq j pv with
 |true=>WW P E ex ro S H o k
 |false=>gA P E ex S H o k
theorem UU{E:CY}{Hj:LW α}{ex:Ex}(hr:Ref Hj ex){ro pv j:Nat}{S:List PV}{H:List Row}{o:Oper}{k:PV->List Row->Option α}{r:α}(h:QF P E Hj ro pv j S H o k=some r):
  ∃ p H',K5 P E.env ex ro pv j S H o=some (p,H')/\k p H'=some r:=by
 unfold QF at h;unfold K5;split at h
 ·rename_i hb;rw[Ak (Bp hb)];exact MM hr h
 ·rename_i hb;rw[Aq (Nat.ne_of_beq_eq_false hb)];exact W1 hr h
def TS(step:Nat->List PV->List Row->Oper->(PV->List Row->Option α)->Option α)(ops:Array Oper):Nat->List Oper->List PV->List Row->(List PV->List Row->Option α)->Option α
 |_,[],S,H,k=>k S H
 |j,o::os,S,H,k=>UQ ops S o fun w S1=>
  match w with
  |true=>step j S1 H o fun p H1=>TS step ops (j+1) os (D6 S1 o.dst p) H1 k
  |false=>TS step ops (j+1) os (D6 S1 o.dst (.val undef)) H k
theorem Iy{Y0:Nat->List PV->List Row->Oper->(PV->List Row->Option α)->Option α}{st:Nat->List PV->List Row->Oper->Option (PV×List Row)}
  (hst:∀ j S H o k r,Y0 j S H o k=some r->∃ p H',st j S H o=some (p,H')/\k p H'=some r) {ops:Array Oper}:
  ∀{os:List Oper} {j:Nat} {S:List PV} {H:List Row} {k:List PV->List Row->Option α} {r:α},TS Y0 ops j os S H k=some r->∃ S' H',K4 st ops j os S H=some (S',H')/\k S' H'=some r
 | [],j,S,H,k,r,h=>⟨S,H,rfl,h⟩
 |o::os,j,S,H,k,r,h=>by
  obtain⟨w,S1,h1,h2⟩:=Px h;simp only[K4,h1];cases w with
  |true=>
   obtain⟨p,H1,h3,h4⟩:=hst _ _ _ _ _ _ h2;simp only[h3];exact Iy hst (os:=os) h4
  |false=>exact Iy hst (os:=os) h2
def aN(body:List PV->List Row->(PX->List PV->List Row->Option α)->Option α)(live:Option (List Tmp))(ro:Nat):Nat->List PV->List Row->(PX->List PV->List Row->Option α)->Option α
 |0,_,_,_=>none
 |m+1,S,H,k=>
  body (Fh live S) H fun x S1 H1=>
   match x with
   |.normal=>bif E5 H.length (Fh live S1)&&decide (H.length<=H1.length)&&DF H.length (H1.take H.length)&&decide (ro<=H.length) then aN body live ro m (Iv H.length (Fh live S1)) (H1.take H.length) k
    else aN body live ro m (Fh live S1) H1 k
   |.exit i=>k (.exit i) S1 H1
   |.ret=>k .ret S1 H1
theorem MN{bK:List PV->List Row->(PX->List PV->List Row->Option α)->Option α}{b:List PV->List Row->Option (PX×List PV×List Row)}
  (hb:∀ S H k r,bK S H k=some r->∃ x S' H',b S H=some (x,S',H')/\k x S' H'=some r) {live:Option (List Tmp)} {ro:Nat}:
  ∀{m:Nat} {S:List PV} {H:List Row} {k:PX->List PV->List Row->Option α} {r:α},aN bK live ro m S H k=some r->∃ x S' H',Ny b live ro m S H=some (x,S',H')/\k x S' H'=some r
 |0,_,_,_,_,h=>by cases h
 |m+1,S,H,k,r,h=>by
  obtain⟨x,S1,H1,h1,h2⟩:=hb _ _ _ _ h;simp only[Ny,h1];cases x with
  |normal=>
   dsimp only at h2 ⊢;split
   ·rename_i g1;rw[g1]at h2;exact MN hb (m:=m) h2
   ·rename_i g1;rw[Bool.not_eq_true]at g1;rw[g1]at h2;exact MN hb (m:=m) h2
  |exit i=>exact⟨_,_,_,rfl,h2⟩
  |ret=>exact⟨_,_,_,rfl,h2⟩
def mo(H:List Row)(h:Nat):PV->Bool
 |.sl i n _ _=>match decide (h<=i) with |true=>(match rowAt H i with |some r=>!r.bv||(r.es.length==n) |none=>true) |false=>true
 |_=>true
def W2(H:List Row)(h:Nat):PV->PV
 |.sl i n k len=>
  match decide (h<=i) with
  |true=>
   match rowAt H i with
   |some r=>match r.bv with |true=>.C9 false r.t ((r.es.drop k).take len) |false=>frz H h (.sl i n k len)
   |none=>frz H h (.sl i n k len)
  |false=>frz H h (.sl i n k len)
 |p=>frz H h p
theorem QG{H:List Row}{h:Nat}{p:PV}(ha:mo H h p=true):W2 H h p=frz H h p:=by
 unfold W2;split
 ·rename_i i n k len;split
  ·rename_i hi;split
   ·rename_i r hr;split
    ·rename_i hb;unfold mo at ha;simp only[hi,hr,hb,BX,Bt,Ay]at ha;have hi':=AN hi;unfold frz;rw[Ak hi',hr];dsimp only;rw[Ak (by simp[hb,ha])]
    ·rfl
   ·rfl
  ·rfl
 ·rfl
def TT(H:List Row)(h:Nat):PV->Bool
 |.sl i n k len=>match decide (h<=i) with |true=>(match rowAt H i with |some r=>(match r.bv with |true=>(r.es.length==n) |false=>((r.es.drop k).take len).all fun e=>e.cells.all (mo H h)) |none=>true) |false=>true
 |.ptr i _ k _=>match decide (h<=i) with |true=>(match rowAt H i with |some r=>r.bv||((r.es.getD k .any).cells.all (mo H h)) |none=>true) |false=>true
 |_=>true
def Py(H:List Row)(h:Nat)(e:PV):PV:=.agg (e.cells.map (W2 H h))
def gC(P:Program)(H:List Row)(h:Nat):PV->PV
 |.sl i n k len=>
  match decide (h<=i) with
  |true=>
   match rowAt H i with
   |some r=>
    match r.bv with
    |true=>.C9 false r.t ((r.es.drop k).take len)
    |false=>
     match r.es.length==n&&((r.es.drop k).take len).all (fun e=>(e.cells.all fun c=>mlt h (W2 H h c))&&wt P r.t (Py H h e)) with
     |true=>.C9 false r.t (((r.es.drop k).take len).map (Py H h))
     |false=>YD P H h (.sl i n k len)
   |none=>YD P H h (.sl i n k len)
  |false=>YD P H h (.sl i n k len)
 |.ptr i n k j=>
  match decide (h<=i) with
  |true=>
   match rowAt H i with
   |some r=>
    match r.bv with
    |true=>YD P H h (.ptr i n k j)
    |false=>
     match r.es.length==n&&decide (k<n)&&((r.es.getD k .any).cells.all fun c=>mlt h (W2 H h c))&&wt P r.t (Py H h (r.es.getD k .any)) with
     |true=>.EF r.t (Py H h (r.es.getD k .any)) j
     |false=>.any
   |none=>.any
  |false=>.ptr i n k j
 |p=>YD P H h p
theorem Hk{α:Type}{f g:α->Bool}:∀{l:List α},(∀ x∈l,f x=g x)->l.all f=l.all g
 | [],_=>rfl
 |x::l,h=>by
  rw[Cc,Cc,h x (AJ ..),Hk fun y hy=>h y (AU _ hy)]
theorem aO{H:List Row}{h:Nat}{p:PV}(ha:TT H h p=true):gC P H h p=YD P H h p:=by
 unfold gC;split
 ·rename_i i n k len;split
  ·rename_i hi;split
   ·rename_i r hr;split
    ·rename_i hb;unfold TT at ha;simp only[hi,hr,hb,Ay]at ha;have hi':=AN hi;have hf:frz H h (.sl i n k len)=.C9 false r.t ((r.es.drop k).take len):=by
      unfold frz;rw[Ak hi',hr];dsimp only;rw[Ak (by simp[hb,ha])]
     have hf2:IN P H h (.sl i n k len)=.C9 false r.t ((r.es.drop k).take len):=by
      unfold IN;simp only[hi,hr,hb,BX,Cf,hf]
     show _=(match mlt h (IN P H h (.sl i n k len)) with |true=>IN P H h (.sl i n k len) |false=>.any)
     rw[hf2];rfl
    ·rename_i hb;split
     ·rename_i hc;unfold TT at ha;simp only[hi,hr,hb,Ao]at ha;have e1:∀ e∈(r.es.drop k).take len,Py H h e=MG H h e:=fun e he=>by
       unfold Py MG;congr 1
       exact Bm fun c hc=>QG (ha e he c hc)
      have e2:((r.es.drop k).take len).all (fun e=>(e.cells.all fun c=>mlt h (W2 H h c))&&wt P r.t (Py H h e))=((r.es.drop k).take len).all (fun e=>(e.cells.all fun c=>mlt h (frz H h c))&&wt P r.t (MG H h e)):=
       Hk fun e he=>by rw[e1 e he,Hk fun c hc=>by rw[QG (ha e he c hc)]]
      rw[e2]at hc;have hf2:IN P H h (.sl i n k len)=.C9 false r.t (((r.es.drop k).take len).map (MG H h)):=by
       unfold IN;simp only[hi,hr,hb,BS,BY,hc]
      show _=(match mlt h (IN P H h (.sl i n k len)) with |true=>IN P H h (.sl i n k len) |false=>.any)
      rw[hf2,Bm e1];rfl
     ·rfl
   ·rfl
  ·rfl
 ·rename_i i n k j;unfold YD;split
  ·rename_i hi;split
   ·rename_i r hr;split
    ·rename_i hb;simp only[hi,hr,hb]
    ·rename_i hb;unfold TT at ha;simp only[hi,hr,hb,Bt,Ao]at ha;have e1:(r.es.getD k .any).cells.map (W2 H h)=(r.es.getD k .any).cells.map (frz H h):=Bm fun c hc=>QG (ha c hc)
     have e2:((r.es.getD k .any).cells.all fun c=>mlt h (W2 H h c))=((r.es.getD k .any).cells.all fun c=>mlt h (frz H h c)):=Hk fun c hc=>by rw[QG (ha c hc)]
     simp only[hi,hr,hb,Py,MG,e1,e2,Cf,BS,BY];split <;> rename_i hq <;> simp only[hq]
   ·rename_i hr;simp only[hi,hr]
  ·rename_i hi;simp only[hi]
 ·rfl
def UW(P:Program)(H:List Row)(h:Nat)(e:PV):PV:=.agg (e.cells.map (gC P H h))
def UX(P:Program)(H:List Row)(h:Nat)(r:Row):Row:=
 match r.live with
 |false=>r
 |true=>match r.bv with |true=>r |false=>{ r with es:=r.es.map (UW P H h),bv:=(r.es.map (UW P H h)).all (wt P r.t) }
def uj(H:List Row)(h:Nat)(r:Row):Bool:=!r.live||r.bv||r.es.all fun e=>e.cells.all (TT H h)
theorem dF{H:List Row}{h:Nat}{r:Row}(ha:uj H h r=true):UX P H h r=F3 P H h r:=by
 unfold UX F3;cases hl:r.live with
 |false=>rfl
 |true=>
  cases hb:r.bv with
  |true=>rfl
  |false=>
   unfold uj at ha;simp only[hl,hb,BX,Bt,Ao]at ha;have he:r.es.map (UW P H h)=r.es.map (TN P H h):=Bm fun e hm=>by
    unfold UW TN;congr 1
    exact Bm fun c hc=>aO (ha e hm c hc)
   dsimp only;rw[he]
def aQ(P:Program)(ro h:Nat)(S:List PV)(H:List Row):List PV×List Row:=
 match Nat.beq ro 0&&decide (h<=H.length)&&fV h (H.take h)&&(H.drop h).all (fun r=>r.lp.isNone) with
 |true=>(S.map (gC P H h),(H.take h).map (UX P H h)++List.replicate (H.length-h) Dt)
 |false=>(S,H)
def Y4(h:Nat)(S:List PV)(H:List Row):Bool:=S.all (TT H h)&&(H.take h).all (uj H h)
theorem gD{ro h:Nat}{S:List PV}{H:List Row}(ha:Y4 h S H=true):aQ P ro h S H=Ku P ro (some (h,true)) S H:=by
 simp only[Y4,Aa,Ao]at ha;have e1:S.map (gC P H h)=S.map (YD P H h):=Bm fun p hp=>aO (ha.1 p hp)
 have e2:(H.take h).map (UX P H h)=(H.take h).map (F3 P H h):=Bm fun r hr=>dF (ha.2 r hr)
 unfold aQ Ku;dsimp only;rw[e1,e2];cases(Nat.beq ro 0&&decide (h<=H.length)&&fV h (H.take h)&&(H.drop h).all (fun r=>r.lp.isNone)) <;> rfl
def gF(P:Program)(ro:Nat)(o:Option (Nat×Bool))(S:List PV)(H:List Row)(k:List PV->List Row->Option α):Option α:=
 match o with
 |some (h,true)=>DM (Y4 h S H) (k (aQ P ro h S H).1 (aQ P ro h S H).2)
 |o=>k (Ku P ro o S H).1 (Ku P ro o S H).2
theorem Y5{ro:Nat}{o:Option (Nat×Bool)}{S:List PV}{H:List Row}{k:List PV->List Row->Option α}{r:α}(h:gF P ro o S H k=some r):k (Ku P ro o S H).1 (Ku P ro o S H).2=some r:=by
 unfold gF at h;split at h
 ·obtain⟨h1,h2⟩:=Da h;rw[gD h1]at h2;exact h2
 ·exact h
def uk(S:List PV)(c:Operand)(b:Bool):List PV:=match c with |.tmp d=>S.set d (.val (.bool b)) |_=>S
theorem TU{S:List PV}{c:Operand}{b:Bool}(h:ev S c=.val (.bool b)):uk S c b=S:=by
 cases c with
 |tmp d=>
  show S.set d (.val (.bool b))=S
  have h':S.getD d (.val undef)=.val (.bool b):=h;apply Bf
  intro i;rw[Ax];split
  ·rename_i e;subst e;split
   ·rename_i hl;rw[<- h'];simp[List.getD,List.getElem?_eq_getElem hl]
   ·rename_i hl;exact(AG (by omega)).symm
  ·rfl
 |_=>rfl
def Fb(P:Program)(E:CY):Nat->LW α
 |0=>fun _ _ _ _ _ _=>none
 |n+1=>fun ro f c S H k=>
  match c with
  |.skip=>k .normal S H
  |.label _=>k .normal S H
  |.region id ops draw=>
   gF P ro (fW H.length (E.drop f id)) (forget (E.di f id) S) H fun S H=>
    match draw with
    |true=>
     match GF P ops.toList with
     |true=>
      match E.chain f id with
      |true=>
       match Nw P (E.soft f id) (DO ops.toList []) ops.toList with
       |true=>TS (QE (E.soft f id) (Mq (E.soft f id) (DO ops.toList []) ops.toList) P E (Fb P E n) ro H.length (HC P H S ops.toList H.length) (DO ops.toList []) ops.size) ops 0 ops.toList S H fun S' H'=>k .normal S' H'
       |false=>none
      |false=>
      match Rg (E.pw f id) ops.toList S with
      |some pv=>
       match Nx (DO ops.toList []) ops.size pv with
       |true=>TS (QF P E (Fb P E n) ro pv) ops 0 ops.toList S H fun S' H'=>k .normal S' H'
       |false=>none
      |none=>
       match mixed (Es E.pure H S ops.toList H.length) with
       |true=>TS (aM P E (Fb P E n) ro ((Es E.pure H S ops.toList H.length).map fun x=>x.2.1) ((Es E.pure H S ops.toList H.length).map fun x=>x.2.2) (DO ops.toList []) ops.size) ops 0 ops.toList S H fun S' H'=>k .normal S' H'
       |false=>dE (RD P E (Fb P E n)) ops ops.toList S H fun S' H'=>k .normal S' H'
     |false=>none
    |false=>dE (WW P E (Fb P E n) ro) ops ops.toList S H fun S' H'=>k .normal S' H'
  |.seq a b=>Fb P E n ro f a S H fun x S1 H1=>
   match x with
   |.normal=>Fb P E n ro f b S1 H1 k
   |.exit i=>k (.exit i) S1 H1
   |.ret=>k .ret S1 H1
  |.cond c x y=>
   match ev S c with
   |.val (.bool t)=>bif t then Fb P E n ro f x (uk S c true) H k else Fb P E n ro f y (uk S c false) H k
   |_=>none
  |.block id b=>Fb P E n ro f b S H fun x S1 H1=>
   match x with
   |.exit i=>bif decide (i=id) then k .normal S1 H1 else k (.exit i) S1 H1
   |.normal=>k .normal S1 H1
   |.ret=>k .ret S1 H1
  |.loop b=>
   match GS ro (E.KX f (Ew b)) S H with
   |(S0,H0)=>
    match E.lo f ro (Ew b) (Fh (E.live f (Ew b)) S0) H0 with
    |some d=>d.go fun r=>k r.1 r.2.1 r.2.2
    |none=>aN (Fb P E n ro f b) (E.live f (Ew b)) ro n S0 H0 k
  |.scope b=>Fb P E n ro f b S H k
  |.exit id=>k (.exit id) S H
  |.ret=>k .ret S H
  |.rangeFunc g ps HP body=>
   match Fh (E.live f (Ew HP)) S with
   |S0=>
    match ev S0 g with
    |.fn (.func kf) first cap=>Le P E (Fb P E n) ro kf (first++[.Ih H.length]++cap) (H++[EX f S0 ps HP body]) fun _ H2=>gy S0 H.length H2 k
    |_=>none
  |_=>none
theorem Fc{P:Program}{E:CY}:∀ n,Ref (α:=α) (Fb P E n) (exec P E.env n)
 |0=>fun _ _ _ _ _ _ _ h=>by cases h
 |n+1=>fun ro f c S H k r h=>by
  have ih:=Fc (P:=P) (E:=E) n;cases c <;> simp only[Fb,reduceCtorEq]at h
  case skip=>exact⟨_,_,_,rfl,h⟩
  case label=>exact⟨_,_,_,rfl,h⟩
  case region id ops draw=>
   have h:=Y5 h;have hdr0:E.env.drop f id=E.drop f id:=rfl;have hfg0:E.env.di f id=E.di f id:=rfl;simp only[exec,hdr0,hfg0];generalize Ku P ro (fW H.length (E.drop f id)) (forget (E.di f id) S) H=SH at h ⊢;obtain⟨S,H⟩:=SH;dsimp only at h ⊢;split at h
   ·rename_i hdr;split at h
    ·rename_i hok;have hch0:E.env.chain f id=E.chain f id:=rfl;rw[Ak rfl,Ak hok,hch0];split at h
     ·rename_i hch;rw[Ak hch];split at h
      ·rename_i hco;obtain⟨S',H',h1,h2⟩:=Iy (Y0:=QE (E.soft f id) (Mq (E.soft f id) (DO ops.toList []) ops.toList) P E (Fb P E n) ro H.length (HC P H S ops.toList H.length) (DO ops.toList []) ops.size) (st:=KZ (E.soft f id) (Mq (E.soft f id) (DO ops.toList []) ops.toList) P E.env (exec P E.env n) ro H.length (HC P H S ops.toList H.length) (DO ops.toList []) ops.size) (fun j S1 H1 o k r h=>UT ih h) h;exact⟨_,_,_,by rw[show E.env.soft f id=E.soft f id from rfl,Ak hco,h1];rfl,h2⟩
      ·cases h
     rename_i hch;rw[Aq (by rw[hch];simp)];split at h
     ·rename_i pv hpn;split at h
      ·rename_i hpo;obtain⟨S',H',h1,h2⟩:=Iy (Y0:=QF P E (Fb P E n) ro pv) (st:=K5 P E.env (exec P E.env n) ro pv) (fun j S1 H1 o k r h=>UU ih h) h;exact⟨_,_,_,by simp only[show Rg (E.env.pw f id) ops.toList S=_ from hpn];rw[Ak hpo,h1];rfl,h2⟩
      ·cases h
     ·rename_i hpn;split at h
      ·rename_i hm;obtain⟨S',H',h1,h2⟩:=Iy (Y0:=aM P E (Fb P E n) ro ((Es E.pure H S ops.toList H.length).map (fun x:Bool×List Nat×List Nat=>x.2.1)) ((Es E.pure H S ops.toList H.length).map (fun x:Bool×List Nat×List Nat=>x.2.2)) (DO ops.toList []) ops.size) (st:=UH P E.env (exec P E.env n) ro ((Es E.env.pure H S ops.toList H.length).map (fun x:Bool×List Nat×List Nat=>x.2.1)) ((Es E.env.pure H S ops.toList H.length).map (fun x:Bool×List Nat×List Nat=>x.2.2)) (DO ops.toList []) ops.size) (fun j S1 H1 o k r (h:US P E (Fb P E n) ro _ _ _ _ S1 H1 o k=some r)=>WY ih h) h;exact⟨_,_,_,by simp only[show Rg (E.env.pw f id) ops.toList S=_ from hpn];rw[Ak (show mixed (Es E.env.pure H S ops.toList H.length)=true from hm),h1];rfl,h2⟩
      ·rename_i hm;obtain⟨S',H',h1,h2⟩:=Ju (st:=HK P E.env (exec P E.env n)) (fun S H o k r h=>Lg ih h) h;exact⟨_,_,_,by simp only[show Rg (E.env.pw f id) ops.toList S=_ from hpn];rw[Aq (show ¬mixed (Es E.env.pure H S ops.toList H.length)=true from by rw[show mixed (Es E.env.pure H S ops.toList H.length)=false from hm];simp),h1];rfl,h2⟩
    ·cases h
   ·rename_i hdr;obtain⟨S',H',h1,h2⟩:=Ju (st:=Mo P E.env (exec P E.env n) ro) (fun S H o k r h=>MM ih h) h;exact⟨_,_,_,by rw[Aq (by simp),h1];rfl,h2⟩
  case seq a b=>
   obtain⟨x,S1,H1,h1,h2⟩:=ih _ _ _ _ _ _ _ h;simp only[exec,h1];cases x with
   |normal=>exact ih _ _ _ _ _ _ _ h2
   |exit i=>exact⟨_,_,_,rfl,h2⟩
   |ret=>exact⟨_,_,_,rfl,h2⟩
  case cond c x y=>
   split at h
   ·rename_i t ht;simp only[exec,ht];cases t
    ·simp only[Ar,TU ht]at h;exact ih _ _ _ _ _ _ _ h
    ·simp only[Aj,TU ht]at h;exact ih _ _ _ _ _ _ _ h
   ·cases h
  case block id b=>
   obtain⟨x,S1,H1,h1,h2⟩:=ih _ _ _ _ _ _ _ h;simp only[exec,h1];cases x with
   |normal=>exact⟨_,_,_,rfl,h2⟩
   |ret=>exact⟨_,_,_,rfl,h2⟩
   |exit i=>
    dsimp only at h2 ⊢;by_cases hi:i=id
    ·rw[Ak hi];simp only[hi,CT,Aj]at h2;exact⟨_,_,_,rfl,h2⟩
    ·rw[Aq hi];simp only[hi,decide_false,Ar]at h2;exact⟨_,_,_,rfl,h2⟩
  case loop b=>
   simp only[exec];show ∃ x S' H',(match (E.lo f ro (Ew b) (Fh (E.live f (Ew b)) (GS ro (E.KX f (Ew b)) S H).1) (GS ro (E.KX f (Ew b)) S H).2).bind DT.run with |some r=>some r |none=>Ny (exec P E.env n ro f b) (E.live f (Ew b)) ro n (GS ro (E.KX f (Ew b)) S H).1 (GS ro (E.KX f (Ew b)) S H).2)=some (x,S',H')/\_
   generalize GS ro (E.KX f (Ew b)) S H=SH at h ⊢;obtain⟨S0,H0⟩:=SH;dsimp only at h ⊢;split at h
   ·rename_i d hd;obtain⟨a,h1,h2⟩:=DT.GG h;rw[hd];simp only[Bl,h1];exact⟨_,_,_,rfl,h2⟩
   ·rename_i hd;rw[hd];exact MN (fun S H k r h=>ih _ _ _ _ _ _ _ h) h
  case scope b=>exact ih _ _ _ _ _ _ _ h
  case exit id=>exact⟨_,_,_,rfl,h⟩
  case ret=>exact⟨_,_,_,rfl,h⟩
  case rangeFunc g ps HP body=>
   split at h
   ·rename_i kf first cap hg
    simp only[exec];rw[show E.env.live=E.live from rfl,hg];obtain⟨p,H2,h1,h2⟩:=Gm ih h;simp only[h1];exact YZ h2
   ·cases h
end
def DD(P:Program)(E:CY)(n:Nat)(f:FuncId)(args:List PV):Option PV:=
 DM (E5 0 args) (Ld P (Fb P E n) 0 f args [] fun p H'=>YV H' 0 p fun q=>DM (mlt 0 q) (some q))
def OA(P:Program)(E:CY)(n:Nat)(ro:Nat)(f:FuncId)(args:List PV)(H:List Row):Option (PV×List Row):=
 Ld P (Fb P E n) ro f args H fun p H'=>some (p,H')
theorem RE{E:CY}(hE:CG P E.env){n ro:Nat}{f:FuncId}{args:List PV}{H H':List Row}{p:PV}(h:OA P E n ro f args H=some (p,H')):Dd P f/\Fa P ro f args H p H':=by
 obtain⟨q,H1,h1,h2⟩:=Fj (Fc n) h;cases h2;refine⟨?_,fun C hH hro hR Vs hv=>?_⟩
 ·intro Vs w;unfold Pg at h1;split at h1
  ·rename_i fn hfn;split at h1
   ·rename_i b hb;split at h1
    ·cases h1
    ·rename_i hn;simp[callFunc,hfn,hb];simpa using hn
   ·cases h1
  ·cases h1
 ·subst hH;exact(Fi hE (Hh hE n) hR hro hv h1).2
theorem FT{ex:Ex}{ro:Nat}{f:FuncId}{args:List PV}{H H':List Row}{p:PV}(h1:Pg P ex ro f args H=some (p,H')):Dd P f:=by
 intro Vs w;unfold Pg at h1;split at h1
 ·rename_i fn hfn;split at h1
  ·rename_i b hb;split at h1
   ·cases h1
   ·rename_i hn;simp[callFunc,hfn,hb];simpa using hn
  ·cases h1
 ·cases h1
theorem Cy{E:CY}(hE:CG P E.env){n:Nat}{f:FuncId}{args:List PV}{p:PV}(h:DD P E n f args=some p):Dd P f/\Dr P f args p:=by
 obtain⟨hm,h⟩:=Da h;obtain⟨q,H2,hI,h2⟩:=Fj (Fc n) h;obtain⟨hq,h2⟩:=Da (Jt h2);cases h2;refine⟨FT hI,fun C hR Vs hv=>?_⟩;have hRc:RH P (C.cut 0 True 0):=hR.cut (AT _) (Al _) (by simp[DF]);have hvc:Cs P (C.cut 0 True 0) args Vs:=⟨hv.1,fun j c v h1 h2=>(hv.2 j c v h1 h2).cut (AT _) (Dv hm h1)⟩;have g2:=(Fi hE (Hh hE n) (C:=C.cut 0 True 0) hRc rfl hvc hI).2;refine g2.mono ?_
 rintro e w' ⟨V,C',rfl,rfl,hc⟩
 refine⟨V,rfl,H7 hc.ext,?_⟩;have hH2:=hc.H;subst hH2;have h1:=hc.rv.frz (ro:=C'.ro) hc.rh (AT _) hq;have hx2:Ext (C.cut 0 True 0) (C'.cut 0 False C'.ro):=hc.ext.cut (AT _) (AT _) (AT _);exact RV.back (Ci:=C'.cut 0 False C'.ro) (AT _) hx2 h1 hq
def Tc:PV->PV
 |.val (.agg a)=>.agg (a.toList.map .val)
 |p=>p
theorem RV.Tc{C:Ctx}{p:PV}{V:Value}(h:RV P C p V):RV P C (Tc p) V:=by
 unfold Hx.Tc;split
 ·cases h;refine .agg (by simp) fun j c v h1 h2=>?_
  simp only[An,Af]at h1;obtain⟨x,hx,rfl⟩:=h1;have:x=v:=Ah (hx.symm.trans (by rw[AL];exact h2));subst this;exact .val
 ·exact h
theorem Cs.Tc{C:Ctx}{ps:List PV}{Vs:Array Value}(h:Cs P C ps Vs):Cs P C (ps.map Hx.Tc) Vs:=by
 refine⟨by simpa using h.1,fun j c v h1 h2=>?_⟩;simp only[An,Af]at h1;obtain⟨x,hx,rfl⟩:=h1;exact(h.2 j x v hx h2).Tc
def CY.EJ(E:CY)(k:FuncId)(c:List PV->Option PV):CY:={ E with FI:=fun f a=>if f=k then c (a.map Tc) else E.FI f a }
def CY.RF(E:CY)(k:FuncId)(c:Nat->List PV->List Row->Option (DT (PV×List Row))):CY:={ E with Hc:=fun ro f a H=>if f=k then c ro a H else E.Hc ro f a H }
def CY.F4(E:CY)(k:FuncId)(i:Nat)(l:List (Tmp×TypeId×Nat)):CY:={ E with KX:=fun f j=>if f=k then (if j=i then l else E.KX f j) else E.KX f j }
def CY.FX(E:CY)(k:FuncId):CY:={ E with KC:=fun f=>if f=k then true else E.KC f }
def CY.GH(E:CY)(k:FuncId)(i h:Nat):CY:={ E with drop:=fun f j=>if f=k then (if j=i then some (h,false) else E.drop f j) else E.drop f j }
def CY.Iz(E:CY)(k:FuncId)(i:Nat)(ks:List Nat):CY:={ E with di:=fun f j=>if f=k then (if j=i then ks else E.di f j) else E.di f j }
def CY.FF(E:CY)(k:FuncId)(i h:Nat):CY:={ E with drop:=fun f j=>if f=k then (if j=i then some (h,true) else E.drop f j) else E.drop f j }
theorem Gv.mono{P:Program}{E E':Env}{f:FuncId}(h:∀ ro i S H x S' H',E'.lo f ro i S H=some (x,S',H')->E.lo f ro i S H=some (x,S',H')):∀{c:Code},Gv P E f c->Gv P E' f c
 |.seq a b,hc=>⟨Gv.mono h (c:=a) hc.1,Gv.mono h (c:=b) hc.2⟩
 |.cond _ x y,hc=>⟨Gv.mono h (c:=x) hc.1,Gv.mono h (c:=y) hc.2⟩
 |.block _ b,hc=>Gv.mono h (c:=b) hc
 |.scope b,hc=>Gv.mono h (c:=b) hc
 |.loop b,hc=>⟨fun ro S H x S' H' g=>hc.1 ro S H x S' H' (h _ _ _ _ _ _ _ g),Gv.mono h (c:=b) hc.2⟩
 |.rangeFunc _ _ a b,hc=>⟨Gv.mono h (c:=a) hc.1,Gv.mono h (c:=b) hc.2⟩
 |.skip,_ |.label _,_ |.region _ _ _,_ |.exit _,_ |.ret,_ |.goto _,_ |.refuse _,_=>trivial
theorem FK:CG P ({}:CY).env where
 Fz:=fun _ _ _ _ _ _ h=>by cases h
 Ec:=fun _ _ _ _ _ _ h=>by cases h
 GO:=fun _ _ _ _ h=>by cases h
 EY:=fun _ _ _ _ _ _ _ _ h=>by cases h
 H9:=fun _ _ _ h=>by cases h
 Hc:=fun _ _ _ _ _ _ h=>by cases h
 FI:=fun _ _ _ h=>by cases h
 lo:=fun k fn b _ _=>by
  have:∀ c:Code,Gv P ({}:CY).env k c:=by
   intro c;induction c with
   |seq a b iha ihb=>exact⟨iha,ihb⟩
   |cond c x y ihx ihy=>exact⟨ihx,ihy⟩
   |block i b ih=>exact ih
   |scope b ih=>exact ih
   |loop b ih=>exact⟨fun _ _ _ _ _ _ h=>(by cases h),ih⟩
   |rangeFunc g ps a b iha ihb=>exact⟨iha,ihb⟩
   |_=>trivial
  exact this b
theorem W3{E:CY}{k:FuncId}{c:List PV->Option PV}{f:FuncId}{a:List PV}{r:PV}(h:(E.EJ k c).env.FI f a=some r):(f=k/\c (a.map Tc)=some r)\/E.env.FI f a=some r:=by
 change (match E.Yd f a with |some d=>d.run |none=>if f=k then c (a.map Tc) else E.FI f a)=some r at h
 split at h
 ·rename_i d hd;exact .inr (QD hd h)
 ·rename_i hd;split at h
  ·rename_i e;exact .inl ⟨e,h⟩
  ·exact .inr (UO hd h)
theorem CG.EJ{E:CY}(hE:CG P E.env){k:FuncId}{c:List PV->Option PV}(hc:∀ args r,c args=some r->Dd P k/\Dr P k args r):CG P (E.EJ k c).env where
 Fz:=hE.Fz
 Ec:=hE.Ec
 GO:=hE.GO
 EY:=hE.EY
 H9:=fun f a r h=>by
  rcases W3 h with ⟨e,g⟩ |h
  ·subst e;exact(hc _ _ g).1
  ·exact hE.H9 f a r h
 Hc:=hE.Hc
 FI:=fun f a r h=>by
  rcases W3 h with ⟨e,g⟩ |h
  ·subst e;exact fun C hR Vs hv=>(hc _ _ g).2 C hR Vs hv.Tc
  ·exact hE.FI f a r h
 lo:=fun f fn b h1 h2=>Gv.mono (E:=E.env) (E':=(E.EJ k c).env) (fun _ _ _ _ _ _ _ h=>h) (hE.lo f fn b h1 h2)
def CY.DE(E:CY)(k:FuncId)(c:List PV->Option (DT PV)):CY:={ E with Yd:=fun f a=>if f=k then (match c (a.map Tc) with |some d=>some d |none=>E.Yd f a) else E.Yd f a }
theorem W4{E:CY}{k:FuncId}{c:List PV->Option (DT PV)}{f:FuncId}{a:List PV}{r:PV}(h:(E.DE k c).env.FI f a=some r):(f=k/\∃ d,c (a.map Tc)=some d/\d.run=some r)\/E.env.FI f a=some r:=by
 change (match (if f=k then (match c (a.map Tc) with |some d=>some d |none=>E.Yd f a) else E.Yd f a) with |some d=>d.run |none=>E.FI f a)=some r at h
 by_cases e:f=k
 ·rw[Ak e]at h;cases hc:c (a.map Tc) with
  |some d=>rw[hc]at h;exact .inl ⟨e,d,rfl,h⟩
  |none=>rw[hc]at h;exact .inr h
 ·rw[Aq e]at h;exact .inr h
theorem CG.DE{E:CY}(hE:CG P E.env){k:FuncId}{c:List PV->Option (DT PV)}(hent:Dd P k)(hc:∀ args d r,c args=some d->d.run=some r->Dr P k args r):CG P (E.DE k c).env where
 Fz:=hE.Fz
 Ec:=hE.Ec
 GO:=hE.GO
 EY:=hE.EY
 H9:=fun f a r h=>by
  rcases W4 h with ⟨e,_⟩ |h
  ·subst e;exact hent
  ·exact hE.H9 f a r h
 Hc:=hE.Hc
 FI:=fun f a r h=>by
  rcases W4 h with ⟨e,d,h1,h2⟩ |h
  ·subst e;exact fun C hR Vs hv=>hc _ _ _ h1 h2 C hR Vs hv.Tc
  ·exact hE.FI f a r h
 lo:=fun f fn b h1 h2=>Gv.mono (E:=E.env) (E':=(E.DE k c).env) (fun _ _ _ _ _ _ _ h=>h) (hE.lo f fn b h1 h2)
theorem CG.RF{E:CY}(hE:CG P E.env){k:FuncId}{c:Nat->List PV->List Row->Option (DT (PV×List Row))}(hent:Dd P k)
  (hc:∀ ro args H d p H',c ro args H=some d->d.run=some (p,H')->Fa P ro k args H p H'):CG P (E.RF k c).env where
 Fz:=hE.Fz
 Ec:=hE.Ec
 GO:=hE.GO
 EY:=hE.EY
 H9:=hE.H9
 Hc:=fun ro f a H p H' h=>by
  change (if f=k then c ro a H else E.Hc ro f a H).bind DT.run=some (p,H') at h
  split at h
  ·rename_i e;subst e;obtain⟨d,h1,h2⟩:=AH.1 h;exact⟨hent,hc _ _ _ _ _ _ h1 h2⟩
  ·exact hE.Hc ro f a H p H' h
 FI:=hE.FI
 lo:=fun f fn b h1 h2=>Gv.mono (E:=E.env) (E':=(E.RF k c).env) (fun _ _ _ _ _ _ _ h=>h) (hE.lo f fn b h1 h2)
def loops:Code->List Code
 |.seq a b=>loops a++loops b
 |.cond _ x y=>loops x++loops y
 |.block _ b=>loops b
 |.scope b=>loops b
 |.loop b=>b::loops b
 |.rangeFunc _ _ a b=>loops a++loops b
 |_=>[]
theorem Gv.of{P:Program}{E:Env}{f:FuncId}:∀{c:Code},(∀ b,b∈loops c->GV (.loop b) c->∀ ro S H x S' H',E.lo f ro (Ew b) S H=some (x,S',H')->ET P (.loop b) ro S H x S' H')->Gv P E f c
 |.seq a b,h=>⟨Gv.of (c:=a) fun b hb hs=>h b (by simp[loops,hb]) (.seq1 hs),Gv.of (c:=b) fun b hb hs=>h b (by simp[loops,hb]) (.V0 hs)⟩
 |.cond _ a b,h=>⟨Gv.of (c:=a) fun b hb hs=>h b (by simp[loops,hb]) (.V1 hs),Gv.of (c:=b) fun b hb hs=>h b (by simp[loops,hb]) (.V2 hs)⟩
 |.block _ b,h=>Gv.of (c:=b) fun b hb hs=>h b (by simpa [loops] using hb) (.block hs)
 |.scope b,h=>Gv.of (c:=b) fun b hb hs=>h b (by simpa [loops] using hb) (.scope hs)
 |.loop b,h=>⟨h b (by simp[loops]) .here,Gv.of (c:=b) fun b hb hs=>h b (by simp[loops,hb]) (.loop hs)⟩
 |.rangeFunc _ _ a b,h=>⟨Gv.of (c:=a) fun b hb hs=>h b (by simp[loops,hb]) (.Ol hs),Gv.of (c:=b) fun b hb hs=>h b (by simp[loops,hb]) (.Om hs)⟩
 |.skip,_ |.label _,_ |.region _ _ _,_ |.exit _,_ |.ret,_ |.goto _,_ |.refuse _,_=>trivial
theorem CG.F4{E:CY}(hE:CG P E.env)(k:FuncId)(i:Nat)(l:List (Tmp×TypeId×Nat)):CG P (E.F4 k i l).env where
 Fz:=hE.Fz
 Ec:=hE.Ec
 GO:=hE.GO
 EY:=hE.EY
 H9:=hE.H9
 Hc:=hE.Hc
 FI:=hE.FI
 lo:=fun f fn b h1 h2=>Gv.mono (E:=E.env) (E':=(E.F4 k i l).env) (fun _ _ _ _ _ _ _ h=>h) (hE.lo f fn b h1 h2)
theorem CG.FX{E:CY}(hE:CG P E.env)(k:FuncId):CG P (E.FX k).env where
 Fz:=hE.Fz
 Ec:=hE.Ec
 GO:=hE.GO
 EY:=hE.EY
 H9:=hE.H9
 Hc:=hE.Hc
 FI:=hE.FI
 lo:=fun f fn b h1 h2=>Gv.mono (E:=E.env) (E':=(E.FX k).env) (fun _ _ _ _ _ _ _ h=>h) (hE.lo f fn b h1 h2)
theorem CG.GH{E:CY}(hE:CG P E.env)(k:FuncId)(i h:Nat):CG P (E.GH k i h).env where
 Fz:=hE.Fz
 Ec:=hE.Ec
 GO:=hE.GO
 EY:=hE.EY
 H9:=hE.H9
 Hc:=hE.Hc
 FI:=hE.FI
 lo:=fun f fn b h1 h2=>Gv.mono (E:=E.env) (E':=(E.GH k i h).env) (fun _ _ _ _ _ _ _ h=>h) (hE.lo f fn b h1 h2)
def CY.Ee(E:CY)(k:FuncId)(i:Nat):CY:={ E with chain:=fun f j=>if f=k then (if j=i then true else E.chain f j) else E.chain f j }
theorem CG.Ee{E:CY}(hE:CG P E.env)(k:FuncId)(i:Nat):CG P (E.Ee k i).env where
 Fz:=hE.Fz
 Ec:=hE.Ec
 GO:=hE.GO
 EY:=hE.EY
 H9:=hE.H9
 Hc:=hE.Hc
 FI:=hE.FI
 lo:=fun f fn b h1 h2=>Gv.mono (E:=E.env) (E':=(E.Ee k i).env) (fun _ _ _ _ _ _ _ h=>h) (hE.lo f fn b h1 h2)
theorem CG.FF{E:CY}(hE:CG P E.env)(k:FuncId)(i h:Nat):CG P (E.FF k i h).env where
 Fz:=hE.Fz
 Ec:=hE.Ec
 GO:=hE.GO
 EY:=hE.EY
 H9:=hE.H9
 Hc:=hE.Hc
 FI:=hE.FI
 lo:=fun f fn b h1 h2=>Gv.mono (E:=E.env) (E':=(E.FF k i h).env) (fun _ _ _ _ _ _ _ h=>h) (hE.lo f fn b h1 h2)
theorem CG.Iz{E:CY}(hE:CG P E.env)(k:FuncId)(i:Nat)(ks:List Nat):CG P (E.Iz k i ks).env where
 Fz:=hE.Fz
 Ec:=hE.Ec
 GO:=hE.GO
 EY:=hE.EY
 H9:=hE.H9
 Hc:=hE.Hc
 FI:=hE.FI
 lo:=fun f fn b h1 h2=>Gv.mono (E:=E.env) (E':=(E.Iz k i ks).env) (fun _ _ _ _ _ _ _ h=>h) (hE.lo f fn b h1 h2)
def DT.map{α β:Type}(g:α->β):DT α->DT β
 |.leaf a=>.leaf (g a)
 |.no=>.no
 |.br b x y=>.br b (x.map g) (y.map g)
theorem DT.run_map{α β:Type}{g:α->β}{r:β}:∀{d:DT α},(d.map g).run=some r->∃ a,d.run=some a/\g a=r
 |.leaf a,h=>⟨a,rfl,Ah h⟩
 |.no,h=>by cases h
 |.br b x y,h=>by
  cases b
  ·exact DT.run_map (d:=y) h
  ·exact DT.run_map (d:=x) h
inductive Lf where
 |i (n:Int) |b (b:Bool) |n (n:Nat) |l (f:Bool) (es:List PV) |t (s:ByteArray)
inductive CS where
 |int (k:IntKind) |bool |C9 (t:TypeId) |str
def CS.get:CS->PV->Option Lf
 |.int k,.val (.int k' n)=>if k==k' then some (.i n) else none
 |.bool,.val (.bool v)=>some (.b v)
 |.C9 t,.C9 f t' es=>if t==t' then some (.l f es) else none
 |.str,.val (.string s)=>some (.t s)
 |_,_=>none
def pE:List CS->List PV->Option (List Lf)
 | [],[]=>some []
 |c::cs,p::ps=>match c.get p,pE cs ps with |some x,some xs=>some (x::xs) |_,_=>none
 |_,_=>none
inductive Sh where
 |any |cell (c:CS) |agg (cs:List CS) |ptr (i n k j:Nat) |sl (i:Nat) |nil
def Sh.get:Sh->PV->Option (List Lf)
 |.any,.any=>some []
 |.cell c,p=>(c.get p).map fun x=>[x]
 |.agg cs,.agg ps=>pE cs ps
 |.ptr i n k j,.ptr i' n' k' j'=>if i==i'&&n==n'&&k==k'&&j==j' then some [] else none
 |.sl i,.sl i' n k l=>if i==i'&&k==0 then some [.n n,.n l] else none
 |.nil,.val (.slice none 0 0)=>some []
 |_,_=>none
inductive RS where
 |one (t s:Nat) (h:Sh) |many (t s:Nat) |dead
def J0(r:Row)(t s:Nat):Bool:=r.t==t&&r.s==s&&r.bv&&r.live&&r.lp.isNone && !r.fz
def RS.get:RS->Row->Option (List Lf)
 |.one t s h,r=>if J0 r t s && !r.nl then (match r.es with | [e]=>h.get e |_=>none) else none
 |.many t s,r=>if J0 r t s then some [.l r.nl r.es] else none
 |.dead,_=>none
theorem MO{r:Row}{t s:Nat}(h:J0 r t s=true):r={ es:=r.es,s,t,bv:=true,nl:=r.nl }:=by
 simp only[J0,Aa,Ay,Ba,Am]at h;obtain⟨⟨⟨⟨⟨h1,h2⟩,h3⟩,h4⟩,h5⟩,h6⟩:=h;cases r;simp_all
def GU(shs:List (Nat×Sh)):Nat->Nat->List PV->Option (List Lf)
 |0,_,[]=>some []
 |n+1,x,p::S=>
  match ((shs.lookup x).getD .any).get p,GU shs n (x+1) S with
  |some a,some b=>some (a++b)
  |_,_=>none
 |_,_,_=>none
def yI:List RS->List Row->Option (List Lf)
 | [],[]=>some []
 |s::ss,r::H=>match s.get r,yI ss H with |some a,some b=>some (a++b) |_,_=>none
 |_,_=>none
structure St where
 n:Nat
 S:List (Nat×Sh)
 H:List RS
def St.get(s:St)(S:List PV)(H:List Row):Option (List Lf×List Lf):=
 match GU s.S s.n 0 S,yI s.H H with |some a,some b=>some (a,b) |_,_=>none
def tm(n:Nat)(l:List (Nat×PV)):List PV:=(List.range n).map fun x=>(l.lookup x).getD .any
abbrev r1(t s:Nat)(e:PV):Row:={ es:=[e],s,t,bv:=true }
abbrev rN(t s:Nat)(nl:Bool)(es:List PV):Row:={ es,s,t,bv:=true,nl }
def Ja(r:Row):Row:=match r.live with |true=>{ r with es:=r.es.map Tc } |false=>r
def afa(H:List Row):List Row:=H.map Ja
theorem OB(p:PV):(Tc p).cells=p.cells:=by
 unfold Tc;split
 ·rfl
 ·rfl
theorem W5(r:Row):(Ja r).live=r.live:=by unfold Ja;split <;> simp_all
theorem Y6(r:Row):Oq r (Ja r):=by unfold Ja;split <;> simp[Oq]
theorem RB.Tc{C:Ctx}{b:Nat}{r:Row}(h:RB P C b r):RB P C b (Ja r):=by
 unfold Ja;split
 ·obtain⟨c,fr,cv,m1,m2,m3,m4⟩:=h.mem;refine⟨h.sz,⟨c,fr,cv,m1,m2,by simpa using m3,fun k e j p hk hj=>?_⟩,fun e he=>?_,fun hb e he=>?_⟩
  ·simp only[An,Af]at hk;obtain⟨e0,hk0,rfl⟩:=hk;rw[OB]at hj;exact m4 k e0 j p hk0 hj
  ·simp only[AX]at he;obtain⟨e0,he0,rfl⟩:=he;rw[OB];exact h.len e0 he0
  ·simp only[AX]at he;obtain⟨e0,he0,rfl⟩:=he;have:=h.typed hb e0 he0;simp only[wt,OB]at this ⊢;exact this
 ·exact h
theorem Ext.yJ{C C1 C':Ctx}(h:VT C C1)(hro:C.ro=0)(hx:Ext C1 C'):Ext C C':=by
 have own:∀ b,C1.own b->C.own b:=by
  rintro b ⟨i,hi,hb⟩
  exact⟨i,by rw[<- h.ro];exact hi,by rw[<- h.ρ];exact hb⟩
 have own':∀ b,C.own b->C1.own b:=by
  rintro b ⟨i,hi,hb⟩
  exact⟨i,by rw[h.ro];exact hi,by rw[h.ρ];exact hb⟩
 refine⟨by rw[hx.os,h.w],by rw[hx.tape,h.w],by rw[hx.output,h.w],by rw[<- h.w];exact hx.size,fun b hb ho=>by rw[<- h.w]at hb ⊢;exact hx.block b hb fun hh=>ho (own b hh),fun b c e fr hb=>hx.shape b c e fr (by rw[h.w];exact hb),by rw[<- h.len];exact hx.len,
  fun i r' hi hr=>?_,fun b hb=>?_,fun b hb=>?_,by rw[hx.fo,h.fo],by rw[hx.ro,h.ro],fun i hi=>(by rw[hro]at hi;cases hi),fun i r info h1 h2 h3=>?_,fun b rec hb=>hx.loop b rec (by rw[h.w];exact hb)⟩
 ·obtain⟨r1,a1,a2,a3,a4,a5⟩:=hx.rows i r' (by rw[h.len];exact hi) hr;obtain⟨r,b1,c1,c2,c3,c4⟩:=h.row i r1 a1;exact⟨r,b1,c1.trans a2,c4.trans a3,by omega,fun e=>⟨c3.trans (a5 (by omega)).1,fun b hb=>(a5 (by omega)).2 b (by rw[h.ρ];exact hb)⟩⟩
 ·rcases hx.fresh b hb with ⟨i,hi⟩ |hs
  ·exact .inl ⟨i,by rw[<- h.ρ];exact hi⟩
  ·exact .inr (by rw[<- h.w];exact hs)
 ·rcases hx.D8 b hb with ho |hs
  ·exact .inl (own b ho)
  ·exact .inr (by rw[<- h.w];exact hs)
 ·obtain⟨g1,g2⟩:=hx.lp i r info (h.lp i r h1 h3) h2 h3;exact⟨g1,fun b hb=>g2 b (by rw[h.ρ];exact hb)⟩
def adn(s:St)(f:List Lf->List Lf->Option (DT (PX×List PV×List Row)))(ro:Nat)(S:List PV)(H:List Row):Option (DT (PX×List PV×List Row)):=
 match ro with
 |0=>match s.get S (afa H) with |some x=>f x.1 x.2 |none=>none
 |_+1=>none
theorem TV{P:Program}{b:Code}{ro:Nat}{x:PX}{S':List PV}{H':List Row}(hx:x≠.normal):∀(n:Nat) (Sf:Nat->List PV) (Hf:Nat->List Row),(∀ k,k<n->ET P b ro (Sf k) (Hf k) .normal (Sf (k+1)) (Hf (k+1)))->ET P b ro (Sf n) (Hf n) x S' H' ->
  ∀(r:Option Nat) (C:Ctx) (a:Act),C.H=Hf 0->C.ro=ro->RH P C->FV P C (Sf 0) a.tmps->FE r C.w->∀ Q:Exit->Act->World->Prop,
   (∀(a':Act) (C':Ctx),LU C.w a C'.w a'->C'.H=H'->Ext C C'->RH P C'->FV P C' S' a'.tmps->Q (uc x) a' C'.w)->Code.roundsIn (Fr r) 0 P b Q (n+1) a C.w
 |0,Sf,Hf,_,hl=>by
  intro r C a hH hro hR hs hro2 Q hQ;rw[roundsIn_succ];refine hl r C a hH hro hR hs hro2 _ fun a' C' hd hH' hxt hR' hs'=>?_
  have hq:=hQ a' C' hd hH' hxt hR' hs';cases x with
  |normal=>exact absurd rfl hx
  |exit id=>exact hq
  |ret=>exact hq
 |n+1,Sf,Hf,h,hl=>by
  intro r C a hH hro hR hs hro2 Q hQ;rw[roundsIn_succ];refine h 0 (by omega) r C a hH hro hR hs hro2 _ fun a' C' hd hH' hxt hR' hs'=>?_
  show Code.roundsIn (Fr r) 0 P b Q (n+1) a' C'.w
  exact TV hx n (fun k=>Sf (k+1)) (fun k=>Hf (k+1)) (fun k hk=>h (k+1) (by omega)) hl r C' a' hH' (by rw[hxt.ro];exact hro) hR' hs' (hro2.mono hxt) Q fun a2 C2 hd2 hH2 hx2 hR2 hs2=>hQ a2 C2 (hd.trans hxt.size hR' hx2 hd2) hH2 (hxt.trans hx2) hR2 hs2
theorem mq{b:Code}{ro:Nat}{x:PX}{S':List PV}{H':List Row}(hx:x≠.normal)(n:Nat)(Sf:Nat->List PV)(Hf:Nat->List Row)(h:∀ k,k<n->ET P b ro (Sf k) (Hf k) .normal (Sf (k+1)) (Hf (k+1)))(hl:ET P b ro (Sf n) (Hf n) x S' H'):
  ET P (.loop b) ro (Sf 0) (Hf 0) x S' H':=
 fun r C a hH hro hR hs hro2 Q hQ=>wpIn_loop_rounds (n+1) (TV hx n Sf Hf h hl r C a hH hro hR hs hro2 Q hQ)
theorem mr{b:Code}{ro:Nat}{x:PX}{S S1 S':List PV}{H H1 H':List Row}(h:ET P b ro S H .normal S1 H1)(k:∃ n,∃ Sf:Nat->List PV,∃ Hf:Nat->List Row,Sf 0=S1/\Hf 0=H1/\(∀ k,k<n->ET P b ro (Sf k) (Hf k) .normal (Sf (k+1)) (Hf (k+1)))/\ET P b ro (Sf n) (Hf n) x S' H'):
  ∃ n,∃ Sf:Nat->List PV,∃ Hf:Nat->List Row,Sf 0=S/\Hf 0=H/\(∀ k,k<n->ET P b ro (Sf k) (Hf k) .normal (Sf (k+1)) (Hf (k+1)))/\ET P b ro (Sf n) (Hf n) x S' H':=by
 obtain⟨n,Sf,Hf,e1,e2,g1,g2⟩:=k;refine⟨n+1,fun k=>match k with |0=>S |k+1=>Sf k,fun k=>match k with |0=>H |k+1=>Hf k,rfl,rfl,fun k hk=>?_,g2⟩
 match k with
 |0=>show ET P b ro S H .normal (Sf 0) (Hf 0);rw[e1,e2];exact h
 |k+1=>exact g1 k (by omega)
inductive Y7(P:Program)(b:Code)(ro:Nat)(x:PX)(S':List PV)(H':List Row):List PV->List Row->Prop
 |stop {S:List PV} {H:List Row} (h:ET P b ro S H x S' H'):Y7 P b ro x S' H' S H
 |go {S S1:List PV} {H H1:List Row} (h:ET P b ro S H .normal S1 H1) (k:Y7 P b ro x S' H' S1 H1):Y7 P b ro x S' H' S H
theorem Y7.loop{b:Code}{ro:Nat}{x:PX}{S S':List PV}{H H':List Row}(hx:x≠.normal)(h:Y7 P b ro x S' H' S H):ET P (.loop b) ro S H x S' H':=by
 have:∃ n,∃ Sf:Nat->List PV,∃ Hf:Nat->List Row,Sf 0=S/\Hf 0=H/\(∀ k,k<n->ET P b ro (Sf k) (Hf k) .normal (Sf (k+1)) (Hf (k+1)))/\ET P b ro (Sf n) (Hf n) x S' H':=by
  induction h with
  |stop h=>exact⟨0,fun _=>_,fun _=>_,rfl,rfl,fun k hk=>by omega,h⟩
  |go h _ ih=>exact mr h ih
 obtain⟨n,Sf,Hf,rfl,rfl,g1,g2⟩:=this;exact mq hx n Sf Hf g1 g2
theorem Pz{C:Ctx}(hR:RH P C){S:List PV}{t:Array Value}{h ro:Nat}(hh:h<=C.H.length)(hs:FV P C S t):FV P (C.cut h False ro) (Iv h (Hp C.H h S)) t:=by
 refine⟨by simp[Iv,Hq];exact hs.1,fun i p v h1 h2=>?_⟩;simp only[Iv,An,Af]at h1;obtain⟨q,hq,rfl⟩:=h1;rw[KT]at hq;obtain⟨q0,hq0,rfl⟩:=Af.1 hq;split
 ·rename_i hm;exact(hs.2 i q0 v hq0 h2).frz hR hh hm
 ·exact .any
def Db(P:Program)(E:CY)(n:Nat)(f:FuncId)(b:Code)(l l':List Tmp)(S:List PV)(H:List Row):Option (PX×List PV×List Row):=
 Fb P E n 0 f b S H fun x S1 H1=>
  DM (decide (H.length<=H1.length)&&DF H.length (H1.take H.length))
   (match x with
   |.normal=>Mr H1 H.length (Fh (some l) S1) fun S2=>some (.normal,Iv H.length S2,H1.take H.length)
   |.exit i=>Mr H1 H.length (Fh (some l') S1) fun S2=>some (.exit i,Iv H.length S2,H1.take H.length)
   |.ret=>Mr H1 H.length (Fh (some l') S1) fun S2=>some (.ret,Iv H.length S2,H1.take H.length))
theorem J1{E:CY}(hE:CG P E.env){n:Nat}{f:FuncId}{b:Code}{l l':List Tmp}{S S':List PV}{H H':List Row}{x:PX}(hb:EB P f b)(h:Db P E n f b l l' S H=some (x,S',H')):ET P b 0 S H x S' H':=by
 obtain⟨x1,S1,H1,h1,h2⟩:=Fc n _ _ _ _ _ _ _ h;obtain⟨h3,h4⟩:=Da h2;simp only[Aa,Ab]at h3;have hw:=Hh hE n _ _ _ _ _ _ _ _ h1 hb;have key:∀ L:List Tmp,S'=Iv H.length (Hp H1 H.length (Fh (some L) S1))->H'=H1.take H.length->ET P b 0 S H x1 S' H':=by
  rintro L rfl rfl
  intro r C a hH hro hR hs hro2 Q hQ;refine hw r C a hH hro hR hs hro2 Q fun a' C' hd hH' hxt hR' hs'=>?_
  subst hH;subst hH';exact hQ a' (C'.cut C.H.length False C'.ro) hd rfl (hxt.cut (Al _) h3.1 hR.ro) (hR'.cut h3.1 (by rw[hxt.ro];exact hR.ro) h3.2) (Pz hR' h3.1 (EI (some L) hs'))
 cases x1 with
 |normal=>cases Fl h4;exact key l rfl rfl
 |exit i=>cases Fl h4;exact key l' rfl rfl
 |ret=>cases Fl h4;exact key l' rfl rfl
def DY(fn:Func):Code:=fn.body.getD .skip
def Dg(fn:Func)(i:Nat):Code:=((loops (DY fn)).filter fun b=>Ew b==i).headD .skip
theorem DN{α:Type}{b:Bool}{a r:α}(h:(DT.br b (.leaf a) .no).run=some r):b=true/\a=r:=by
 cases b
 ·cases h
 ·exact⟨rfl,Ah h⟩
abbrev i64:Sh:=.cell (.int .i64)
def Ms(b:Bool)(r:Row):Row:=match b with |true=>Ja r |false=>r
def LX(sel:List Bool)(H:List Row):List Row:=H.zipIdx.map fun x=>Ms (sel.getD x.2 false) x.1
theorem RG(sel:List Bool)(H:List Row)(i:Nat):(LX sel H)[i]? = H[i]?.map (Ms (sel.getD i false)):=by
 simp only[LX,An,BB,AM,Ce];congr 1
theorem RI(b:Bool)(r:Row):(Ms b r).live=r.live:=by cases b <;> simp[Ms,W5]
theorem TW(b:Bool)(r:Row):Oq r (Ms b r):=by
 cases b
 ·exact⟨rfl,rfl,rfl,rfl⟩
 ·exact Y6 r
theorem RJ{b:Bool}{r:Row}(h:r.live=false):Ms b r=r:=by
 cases b
 ·rfl
 ·show Ja r=r
  unfold Ja;rw[h]
theorem RK{C:Ctx}(sel:List Bool)(i:Nat):({ C with H:=LX sel C.H }:Ctx).row? i=(C.row? i).map (Ms (sel.getD i false)):=by
 show rowAt (LX sel C.H) i=(rowAt C.H i).map _
 unfold rowAt;rw[RG];cases C.H[i]? with
 |none=>rfl
 |some r=>
  show(if (Ms _ r).live=true then some (Ms _ r) else none)=Option.map _ (if r.live=true then some r else none)
  rw[RI];by_cases hl:r.live=true
  ·rw[Ak hl,Ak hl];rfl
  ·rw[Aq hl,Aq hl];rfl
theorem NM(sel:List Bool)(C:Ctx):VT C { C with H:=LX sel C.H }:=by
 refine⟨rfl,rfl,rfl,rfl,by simp[LX],fun i r' hr=>?_,fun i r hr=>?_,fun i r hr hl=>?_,fun i r hr hl=>?_⟩
 ·rw[RK]at hr;obtain⟨r,a,rfl⟩:=Af.1 hr;exact⟨r,a,TW _ r⟩
 ·exact⟨_,by rw[RK,hr];rfl,TW _ r⟩
 ·show(LX sel C.H)[i]? = _
  rw[RG,hr,AE,RJ hl]
 ·have hr':(LX sel C.H)[i]? = some r:=hr;rw[RG]at hr';obtain⟨q,a,b⟩:=Af.1 hr';have:q.live=false:=by rw[<- RI (sel.getD i false),b];exact hl
  rw[RJ this]at b;rw[a];exact congrArg some b
theorem OC{c:Code}(sel:List Bool){S S':List PV}{H H':List Row}{x:PX}(h:ET P c 0 S (LX sel H) x S' H'):ET P c 0 S H x S' H':=by
 intro r C a hH hro hR hs hro2 Q hQ;subst hH;have hR1:RH P { C with H:=LX sel C.H }:=hR.Ot (NM sel C) fun i b q h1 h2=>by
  rw[RK]at h2;obtain⟨q0,a0,rfl⟩:=Af.1 h2;have hB:=hR.GP i b q0 h1 a0;have hB2:RB P C b (Ms (sel.getD i false) q0):=by
   cases sel.getD i false
   ·exact hB
   ·exact hB.Tc
  exact hB2.Ot (NM sel C)
 exact h r { C with H:=LX sel C.H } a rfl hro hR1 (hs.Ot (NM sel C)) hro2 Q fun a' C' hd hH' hx hR' hs'=>hQ a' C' hd hH' (Ext.yJ (NM sel C) hro hx) hR' hs'
def J2{σ:Type}(sel:List Bool)(get:List PV->List Row->Option σ)(pre:σ->Bool)(fin:σ->DT (PX×List PV×List Row)):Nat->List PV->List Row->Option (DT (PX×List PV×List Row))
 |0,S,H=>match get S (LX sel H) with |some s=>some (.br (pre s) (fin s) .no) |none=>none
 |_+1,_,_=>none
theorem aT{E:CY}(hE:CG P E.env){n:Nat}{f:FuncId}{b:Code}(l l':List Tmp){σ:Type}{sel:List Bool}(emb:σ->List PV×List Row){get:List PV->List Row->Option σ}
  (hget:∀ S H s,get S H=some s->S=(emb s).1/\H=(emb s).2) {pre:σ->Bool} (m:σ->Nat) {fin:σ->DT (PX×List PV×List Row)}
  (hstep:∀ s r,pre s=true->(fin s).run=some r->r.1≠.normal/\(Db P E n f b l l' (emb s).1 (emb s).2=some r \/
   ∃ s',Db P E n f b l l' (emb s).1 (emb s).2=some (.normal,emb s')/\pre s'=true/\m s'<m s/\(fin s').run=some r)):
  EB P f (.loop b)->∀(ro:Nat) (S:List PV) (H:List Row) (d:DT (PX×List PV×List Row)) (x:PX) (S':List PV) (H':List Row),J2 sel get pre fin ro S H=some d->d.run=some (x,S',H')->ET P (.loop b) ro S H x S' H':=by
 intro hsub ro S H d x S' H' hc hd;cases ro with
 |succ ro=>cases hc
 |zero=>
 change (match get S (LX sel H) with |some s=>some (DT.br (pre s) (fin s) DT.no) |none=>none)=some d at hc
 split at hc
 ·rename_i s hs;obtain rfl:=Ah hc;obtain⟨e1,e2⟩:=hget _ _ _ hs;have hp:pre s=true/\(fin s).run=some (x,S',H'):=by
   change (match pre s with |true=>(fin s).run |false=>DT.no.run)=_ at hd
   cases hq:pre s with
   |true=>rw[hq]at hd;exact⟨rfl,hd⟩
   |false=>rw[hq]at hd;cases hd
  obtain⟨hp,hr⟩:=hp;clear hc hd hs;have hbody:=hsub.sub (.loop .here);refine OC sel ?_;rw[e2,e1];clear e1 e2;have hx:=(hstep s _ hp hr).1;refine Y7.loop hx ?_;generalize hm:m s=k;induction k using Nat.strongRecOn generalizing s with
  |_ k ih=>
   rcases(hstep s _ hp hr).2 with h1 |⟨s',h1,h2,h3,h4⟩
   ·exact .stop (J1 hE hbody h1)
   ·exact .go (J1 hE hbody h1) (ih (m s') (by omega) s' h2 h4 rfl)
 ·cases hc
end Go.Hx

namespace Go.Hx
open Go.MapKept
variable{P:Program}{C:Ctx}
def yL:PV->PV->Bool
 |.val (.int _ a),.val (.int _ b)=>a==b
 |.val (.bool a),.val (.bool b)=>a==b
 |.val (.string a),.val (.string b)=>a.toList==b.toList
 |_,_=>false
def Y8:List PV->List PV->Bool
 | [],[]=>true
 |a::ags,b::bs=>yL a b&&Y8 ags bs
 |_,_=>false
def JN(a b:PV):Bool:=Y8 a.cells b.cells
def EE:List (PV×PV)->PV->Bool
 | [],_=>false
 |(a,_)::D,k=>JN k a||EE D k
def Fu(z:PV):List (PV×PV)->PV->PV
 | [],_=>z
 |(a,v)::D,k=>bif JN k a then v else Fu z D k
def EU:List (PV×PV)->PV->PV->List (PV×PV)
 | [],k,v=>[(k,v)]
 |(a,w)::D,k,v=>bif JN k a then (k,v)::D else (a,w)::EU D k v
def G1:List (PV×PV)->PV->Option Nat
 | [],_=>none
 |(a,_)::D,k=>bif JN k a then some 0 else (G1 D k).map (· + 1)
def sc:Value->Bool
 |.int _ _ |.bool _ |.string _=>true
 |_=>false
theorem gG{k:Kind}{p:PV}(h:KH k p=true)(hp:p.flat=true):∃ v,p=.val v/\sc v=true:=by
 unfold KH at h;split at h
 ·exact⟨_,rfl,rfl⟩
 ·exact⟨_,rfl,rfl⟩
 ·exact⟨_,rfl,rfl⟩
 ·simp[PV.flat]at hp
 ·cases h
theorem RL:∀{ks:List Kind} {ps:List PV},D4 ks ps=true->(∀ p∈ps,p.flat=true)->∀ p∈ps,∃ v,p=.val v/\sc v=true
 | [],[],_,_,p,hp=>by cases hp
 | [],_::_,h,_,_,_=>by simp[D4]at h
 |_::_,[],h,_,_,_=>by simp[D4]at h
 |k::ks,q::ps,h,hf,p,hp=>by
  simp only[D4,Aa]at h;rcases AK.1 hp with rfl |hp
  ·exact gG h.1 (hf _ (AJ ..))
  ·exact RL h.2 (fun x hx=>hf x (AU _ hx)) p hp
theorem gH{T:TypeId}{p:PV}(h:FO P T p=true):∀ c∈p.cells,∃ v,c=.val v/\sc v=true:=by
 simp only[FO,wt,Aa,Ay]at h;obtain⟨⟨hf,hw,_⟩,_⟩:=h;refine RL hw fun c hc=>?_
 unfold PV.cells at hc;split at hc
 ·simp only[PV.flat,Ao]at hf;have:=hf c hc;split at this
  ·rfl
  ·cases this
 ·obtain⟨x,_,rfl⟩:=AX.1 hc;rfl
 ·rw[AI]at hc;rw[hc];exact hf
theorem MP{T:TypeId}{p:PV}{V:Value}(h:FO P T p=true)(hv:RV P C p V):
  V.cells.toList.map PV.val=p.cells/\(if Dh P T then V=.agg V.cells else V.cells = #[V])/\∀ v∈V.cells.toList,sc v=true:=by
 have hc:=gH h;have hag:p.isAgg=Dh P T:=by simp only[FO,Aa,Ay]at h;exact h.2
 have hflat:=Gb h;cases hv with
 |val=>
  cases V with
  |agg a=>
   have e:Dh P T=true:=by rw[<- hag];rfl
   rw[Ak e];refine⟨by simp[Value.cells,PV.cells],rfl,fun v hv=>?_⟩;obtain⟨u,hu,hs⟩:=hc (.val v) (by simp only[PV.cells];exact AX.2 ⟨v,by simpa [Value.cells] using hv,rfl⟩);cases hu;exact hs
  |_=>
   have e:Dh P T=false:=by rw[<- hag];rfl
   rw[Aq (by simp[e])];refine⟨by simp[Value.cells,PV.cells],rfl,fun v hv=>?_⟩;obtain⟨u,hu,hs⟩:=hc _ (by simp only[PV.cells];exact AI.2 rfl);cases hu;simp only[Value.cells,AI]at hv;rw[hv];exact hs
 |agg hs hh=>
  rename_i cs a;have e:Dh P T=true:=by rw[<- hag];rfl
  rw[Ak e];have key:∀(j:Nat) v,a[j]? = some v->cs[j]? = some (.val v)/\sc v=true:=fun j v hv=>by
   have hj:j<cs.length:=by rw[<- hs];exact(At.1 hv).1
   have h1:cs[j]? = some cs[j]:=Ae hj;obtain⟨u,hu,hsc⟩:=hc cs[j] (by simp only[PV.cells];exact By hj);have:=hh j _ _ h1 hv;rw[hu]at this h1;cases this;exact⟨h1,hsc⟩
  refine⟨?_,rfl,fun v hv=>?_⟩
  ·simp only[Value.cells,PV.cells];refine Bf fun j=>?_
   rw[An,AL];cases hj:a[j]? with
   |none=>rw[Option.map_none,AG (by rw[<- hs];exact Array.getElem?_eq_none_iff.1 hj)]
   |some v=>rw[AE,(key j v hj).1]
  ·simp only[Value.cells]at hv;obtain⟨j,hj⟩:=Bh hv;exact(key j v (by rw[AL]at hj;exact hj)).2
 |_=>simp[PV.flat]at hflat
theorem um{T:TypeId}{p:PV}{V:Value}(h:FO P T p=true)(hv:RV P C p V)(ha:Dh P T=true):V.cells.toList.map PV.val=p.cells/\V=.agg V.cells:=by
 obtain⟨a1,a2,_⟩:=MP h hv;rw[Ak ha]at a2;exact⟨a1,a2⟩
theorem uo{T:TypeId}{p q:PV}{V U:Value}(h:FO P T p=true)(k:FO P T q=true)(hv:RV P C p V)(hu:RV P C q U)(e:p.cells=q.cells):V=U:=by
 obtain⟨a1,a2,_⟩:=MP h hv;obtain⟨b1,b2,_⟩:=MP k hu;have:V.cells.toList=U.cells.toList:=List.map_inj_right (fun x y hxy=>by cases hxy;rfl) |>.1 (a1.trans (e.trans b1.symm))
 have hc:V.cells=U.cells:=BD this;by_cases hag:Dh P T=true
 ·rw[Ak hag]at a2 b2;rw[a2,b2,hc]
 ·rw[Aq hag]at a2 b2;rw[a2,b2]at hc;simpa using hc
theorem uq{k:Kind}{a b:PV}(ha:KH k a=true)(hb:KH k b=true)(h:yL a b=true):a=b:=by
 unfold yL at h;split at h
 ·rename_i k1 x k2 y;unfold KH at ha hb;cases k <;> simp at ha hb
  subst ha;subst hb;simp only[Ay]at h;rw[h]
 ·simp only[Ay]at h;rw[h]
 ·rename_i x y;simp only[Ay]at h;rw[ByteArray.toList_eq,ByteArray.toList_eq]at h;rw[show x=y from ByteArray.ext (BD h)]
 ·cases h
theorem aU:∀{ks:List Kind} {ags bs:List PV},D4 ks ags=true->D4 ks bs=true->Y8 ags bs=true->ags=bs
 | [],[],[],_,_,_=>rfl
 | [],_::_,_,h,_,_=>by simp[D4]at h
 | [],[],_::_,_,h,_=>by simp[D4]at h
 |_::_,[],_,h,_,_=>by simp[D4]at h
 |_::_,_::_,[],_,h,_=>by simp[D4]at h
 |k::ks,a::ags,b::bs,h1,h2,h3=>by
  simp only[D4,Y8,Aa]at h1 h2 h3;rw[uq h1.1 h2.1 h3.1,aU h1.2 h2.2 h3.2]
theorem TX{T:TypeId}{p:PV}(h:FO P T p=true):D4 (kinds P T) p.cells=true/\(kinds P T).length=P.cellsOf T:=by
 simp only[FO,wt,Aa,Ay]at h;exact h.1.2
theorem Y9{T:TypeId}{p q:PV}(h:FO P T p=true)(k:FO P T q=true)(e:JN p q=true):p.cells=q.cells:=aU (TX h).1 (TX k).1 e
theorem PA{v:Value}(n:Nat)(h:sc v=true):Instr.sameBits n v v=true:=by
 cases v <;> simp[sc]at h <;> cases n <;> simp[Instr.sameBits,beq_toListBytes]
theorem dG{T:TypeId}{p:PV}{V:Value}(h:FO P T p=true)(hv:RV P C p V)(w:World):(Instr.keyThatStays V V).run P w=.ok V w:=by
 obtain⟨a1,a2,a3⟩:=MP h hv;have:Instr.sameBits 10000 V V=true:=by
  by_cases hag:Dh P T=true
  ·rw[Ak hag]at a2;rw[a2];show((V.cells.size==V.cells.size)&&(V.cells.toList.zip V.cells.toList).all fun x=>Instr.sameBits 9999 x.1 x.2)=true
   rw[Aa];refine⟨by simp,Ao.2 fun x hx=>?_⟩;rw[List.zip_eq_zipWith,List.zipWith_self]at hx;obtain⟨y,hy,rfl⟩:=AX.1 hx;exact PA _ (a3 y hy)
  ·rw[Aq hag]at a2;exact PA _ (a3 V (by rw[a2];simp))
 unfold Instr.keyThatStays;rw[Ak this];rfl
structure HL(P:Program)(K:TypeId):Prop where
 check:∀(C:Ctx) (p:PV) (V:Value),FO P K p=true->RV P C p V->∀(em:Bool) (w:World),(Instr.checkKey em 10000 K V).run P w=.ok () w
 find:∀(C:Ctx) (p:PV) (V:Value),FO P K p=true->RV P C p V->∀(D:List (PV×PV)) (es:List MapEntry),es.length=D.length->(∀ x∈D,FO P K x.1=true) ->
  (∀(i:Nat) k v e,D[i]? = some (k,v)->es[i]? = some e->RV P C k e.key)->∀ w,(Instr.findKey K V es).run P w=.ok ((G1 D p).bind fun i=>es[i]?.map fun e=>(i,e.val)) w
theorem Mt{α:Type}(m:Option Nat)(e:MapEntry)(es:List MapEntry)(f:Nat->MapEntry->α):((m.map (· + 1)).bind fun j=>((e::es)[j]?).map fun x=>f j x)=m.bind fun j=>(es[j]?).map fun x=>f (j+1) x:=by
 cases m <;> simp
theorem RM{P:Program}{C:Ctx}{K:TypeId}{p:PV}{V:Value}{w:World}(he:∀ q U,FO P K q=true->RV P C q U->(Op.equal K V U).run P w=.ok (JN p q) w):∀(D:List (PV×PV)) (es:List MapEntry) (i:Nat),es.length=D.length ->
  (∀ x∈D,FO P K x.1=true)->(∀(i:Nat) k v e,D[i]? = some (k,v)->es[i]? = some e->RV P C k e.key)->(Instr.findAsking K V es i).run P w=.ok ((G1 D p).bind fun j=>es[j]?.map fun e=>(i+j,e.val)) w
 | [],[],i,_,_,_=>by simp[Instr.findAsking,G1]
 | [],_::_,_,h,_,_=>by simp at h
 |_::_,[],_,h,_,_=>by simp at h
 |(a,v)::D,e::es,i,hl,hk,hr=>by
  have h1:=he a e.key (hk (a,v) (AJ ..)) (hr 0 a v e rfl rfl);have ih:=RM he D es (i+1) (by simpa using hl) (fun x hx=>hk x (AU _ hx)) (fun j k v e g1 g2=>hr (j+1) k v e (by simpa using g1) (by simpa using g2));simp only[Instr.findAsking,Sem.run_bind,h1,Result.andThen_ok];unfold G1;cases hq:JN p a with
  |true=>simp
  |false=>
   simp only[A4,Cd,Ar,ih,Mt (f:=fun j x=>(i+j,x.val))];congr 2
   funext j
   rw[show i+1+j=i+(j+1) by omega]
theorem aV{P:Program}{C:Ctx}{K:TypeId}{d:TypeDesc}{p:PV}{V:Value}(he:∀ q U,FO P K q=true->RV P C q U->Instr.sameNow d V U=some (JN p q)):∀(D:List (PV×PV)) (es:List MapEntry) (i:Nat),es.length=D.length ->
  (∀ x∈D,FO P K x.1=true)->(∀(i:Nat) k v e,D[i]? = some (k,v)->es[i]? = some e->RV P C k e.key)->Instr.findNow d V es i=some ((G1 D p).bind fun j=>es[j]?.map fun e=>(i+j,e.val))
 | [],[],i,_,_,_=>by simp[Instr.findNow,G1]
 | [],_::_,_,h,_,_=>by simp at h
 |_::_,[],_,h,_,_=>by simp at h
 |(a,v)::D,e::es,i,hl,hk,hr=>by
  have h1:=he a e.key (hk (a,v) (AJ ..)) (hr 0 a v e rfl rfl);have ih:=aV he D es (i+1) (by simpa using hl) (fun x hx=>hk x (AU _ hx)) (fun j k v e g1 g2=>hr (j+1) k v e (by simpa using g1) (by simpa using g2));simp only[Instr.findNow,h1];unfold G1;cases hq:JN p a with
  |true=>simp
  |false=>
   simp only[Ar,ih,Mt (f:=fun j x=>(i+j,x.val))];congr 2
   funext j
   rw[show i+1+j=i+(j+1) by omega]
theorem HL.wide{K:TypeId}(hw:Dh P K=true)(hc:∀(C:Ctx) (p:PV) (V:Value),FO P K p=true->RV P C p V->∀(em:Bool) (w:World),(Instr.checkKey em 10000 K V).run P w=.ok () w)
  (he:∀(xs ys:List PV),D4 (kinds P K) xs=true->D4 (kinds P K) ys=true->MB P 40 K xs ys=some (Y8 xs ys)):HL P K where
 check:=hc
 find:=fun C p V hp hv D es hl hk hr w=>by
  have hwide:(match P.underlying K with |some (.array _ _) |some (.struct _)=>true |_=>false)=true:=by
   unfold Dh at hw;revert hw;cases P.underlying K with
   |none=>simp
   |some d=>cases d <;> simp
  rw[run_findKey_eq w hwide];have:=RM (P:=P) (C:=C) (K:=K) (p:=p) (V:=V) (w:=w) (fun q U hq hu=>?_) D es 0 hl hk hr
  ·rw[this];simp only[AM]
  ·obtain⟨a1,a2,_⟩:=MP hp hv;obtain⟨b1,b2,_⟩:=MP hq hu;rw[Ak hw]at a2 b2;have cs:∀{p:PV} {V:Value},V.cells.toList.map PV.val=p.cells->Cs P C p.cells V.cells:=fun {p V} h=>by
    rw[<- h];refine⟨by simp,fun j c v h1 h2=>?_⟩;rw[An,AL,h2]at h1;cases h1;exact .val
   have hs:=JQ (P:=P) 40 (he p.cells q.cells (TX hp).1 (TX hq).1) _ _ (cs a1) (cs b1) 10000 w (by decide);unfold cT at hs;rw[Ak hw,Ak hw,<- a2,<- b2]at hs;exact hs
theorem dH{K:TypeId}{q:IntKind}(hu:P.underlying K=some (.int q)):kinds P K=[.int q]:=by unfold kinds DU;rw[hu]
theorem Za{K:TypeId}{q:IntKind}(hu:P.underlying K=some (.int q)){p:PV}{V:Value}(h:FO P K p=true)(hv:RV P C p V):∃ n,p.cells=[.val (.int q n)]/\V=.int q n:=by
 have hw:=(TX h).1;rw[dH hu]at hw;obtain⟨a1,a2,_⟩:=MP h hv;rw[Aq (by simp[Dh,hu])]at a2;rw[a2]at a1;have e:p.cells=[.val V]:=by rw[<- a1];rfl
 rw[e]at hw;simp only[D4,Bq]at hw;unfold KH at hw;cases V <;> simp at hw
 subst hw;exact⟨_,e,rfl⟩
theorem HL.int{K:TypeId}{q:IntKind}(hu:P.underlying K=some (.int q)):HL P K where
 check:=fun C p V hp hv em w=>by
  obtain⟨n,_,rfl⟩:=Za hu hp hv;exact run_checkKey hu (by simp[IsKey]) em 9999
 find:=fun C p V hp hv D es hl hk hr w=>by
  have:=aV (P:=P) (C:=C) (K:=K) (d:=.int q) (p:=p) (V:=V) (fun q' U hq hu'=>?_) D es 0 hl hk hr
  ·rw[run_findKey hu this];simp only[AM]
  ·obtain⟨n,e1,rfl⟩:=Za hu hp hv;obtain⟨m,e2,rfl⟩:=Za hu hq hu';unfold JN;rw[e1,e2];simp[Instr.sameNow,Y8,yL]
theorem GI:∀(D:List (PV×PV)) (k:PV),EE D k=(G1 D k).isSome
 | [],_=>rfl
 |(a,v)::D,k=>by
  unfold EE G1;cases JN k a with
  |true=>rfl
  |false=>rw[Bt,Ar,GI D k];cases G1 D k <;> rfl
theorem Gn:∀{D:List (PV×PV)} {k:PV} {j:Nat},G1 D k=some j->∃ a v,D[j]? = some (a,v)/\JN k a=true/\(∀ z,Fu z D k=v)/\∀ w,EU D k w=D.set j (k,w)
 | [],_,_,h=>by simp[G1]at h
 |(a,v)::D,k,j,h=>by
  unfold G1 at h;cases hq:JN k a with
  |true=>
   rw[hq]at h;cases h;exact⟨a,v,rfl,hq,fun z=>by simp[Fu,hq],fun w=>by simp[EU,hq]⟩
  |false=>
   rw[hq,Ar]at h;obtain⟨i,hi,rfl⟩:=Af.1 h;obtain⟨b,u,h1,h2,h3,h4⟩:=Gn hi;exact⟨b,u,by simpa using h1,h2,fun z=>by simp[Fu,hq,h3 z],fun w=>by simp[EU,hq,h4 w]⟩
theorem Gp:∀{D:List (PV×PV)} {k:PV},G1 D k=none->(∀ z,Fu z D k=z)/\∀ w,EU D k w=D++[(k,w)]
 | [],_,_=>⟨fun _=>rfl,fun _=>rfl⟩
 |(a,v)::D,k,h=>by
  unfold G1 at h;cases hq:JN k a with
  |true=>rw[hq]at h;cases h
  |false=>
   rw[hq,Ar]at h;obtain⟨h1,h2⟩:=Gp (Option.map_eq_none_iff.1 h);exact⟨fun z=>by simp[Fu,hq,h1 z],fun w=>by simp[EU,hq,h2 w]⟩
def J4(P:Program)(T:TypeId)(p:PV):PV:=if Dh P T then .agg ((List.range (P.cellsOf T)).map fun x=>Yl ((kinds P T).getD x .other) (p.cellAt x)) else Yl ((kinds P T).getD 0 .other) (p.cellAt 0)
theorem aX{k:Kind}{p:PV}{v:Value}(h:lV k p=true)(hv:RV P C p v):RV P C (Yl k p) v:=by
 unfold lV at h;split at h
 ·rename_i t;cases hv;exact .C9 (es:=[]) 0 0 (fun _ _=>undef) (Al _) (fun h=>by cases h) (fun h=>by simp at h) (fun x e j p h1 _=>by simp at h1) (fun x e j p h1 _=>by simp at h1) (fun e h1=>by cases h1)
 ·unfold KH at h;split at h
  ·rw[Ay]at h;subst h;cases hv;exact .val
  ·cases hv;exact .val
  ·cases hv;exact .val
  ·rw[Ay]at h;subst h;cases hv with
   |C9 b off cv hcap hfull ha hc hr ht=>exact .C9 b off cv hcap (fun hf=>by cases hf) ha hc hr ht
  ·cases h
theorem TY:∀{ks:List Kind} {ps:List PV},Tv ks ps=true->ps.length=ks.length/\∀{j:Nat} {p},ps[j]? = some p->lV (ks.getD j .other) p=true
 | [],[],_=>⟨rfl,fun h=>by simp at h⟩
 | [],_::_,h=>by simp[Tv]at h
 |_::_,[],h=>by simp[Tv]at h
 |k::ks,p::ps,h=>by
  simp only[Tv,Aa]at h;obtain⟨a,b⟩:=TY h.2;refine⟨by simp[a],fun {j q} hj=>?_⟩;cases j with
  |zero=>simp at hj;subst hj;exact h.1
  |succ j=>simp at hj;exact b hj
theorem RV.J4{T:TypeId}{p:PV}{V:Value}(h:ak P T p=true)(hv:RV P C p V):RV P C (J4 P T p) V:=by
 simp only[ak,Aa,Ay]at h;obtain⟨⟨hfl,hw,hl⟩,hag⟩:=h;obtain⟨hlen,hcell⟩:=TY hw;have hn:p.cells.length=P.cellsOf T:=by rw[hlen,hl]
 unfold Hx.J4;by_cases ha:Dh P T=true
 ·rw[Ak ha];rw[ha]at hag;obtain⟨a,rfl,hsz,hc⟩:∃ a:Array Value,V=.agg a/\a.size=p.cells.length/\∀(j:Nat) c v,p.cells[j]? = some c->a[j]? = some v->RV P C c v:=by
   cases hv with
   |agg hs hh=>exact⟨_,rfl,hs,hh⟩
   |val=>
    cases V with
    |agg a=>
     refine⟨a,rfl,by simp[PV.cells],fun j c v h1 h2=>?_⟩;have h1':(a.toList.map PV.val)[j]? = some c:=h1;rw[An,AL,h2]at h1';cases h1';exact .val
    |_=>simp[PV.isAgg]at hag
   |_=>simp[PV.isAgg]at hag
  refine .agg (by simp[hsz,hn]) fun j c v h1 h2=>?_
  rw[An]at h1;obtain⟨x,hx,rfl⟩:=Af.1 h1;have hj:j<p.cells.length:=by rw[<- hsz];exact(At.1 h2).1
  rw[Be (by rw[<- hn];exact hj)]at hx;cases hx;have h3:p.cells[j]? = some p.cells[j]:=Ae hj;have h4:p.cellAt j=p.cells[j]:=by unfold PV.cellAt;rw[Av,h3];rfl
  rw[h4];exact aX (hcell h3) (hc j _ v h3 h2)
 ·rw[Aq ha];have hag':p.isAgg=false:=by rw[hag];simpa using ha
  have hce:p.cells=[p]:=by
   unfold PV.cells;split
   ·simp[PV.isAgg]at hag'
   ·simp[PV.isAgg]at hag'
   ·rfl
  have h3:p.cells[0]? = some p:=by rw[hce];rfl
  have h4:p.cellAt 0=p:=by unfold PV.cellAt;rw[hce];rfl
  rw[h4];exact aX (hcell h3) hv
def IA(H:List Row)(i:Nat):Option (Gf×TypeId×TypeId×List (PV×PV)):=
 match H[i]? with
 |some r=>match r.live,r.lp with |false,some ⟨k,.map K E D⟩=>(match k.S0 with | []=>some (k,K,E,D) |_=>none) |_,_=>none
 |none=>none
theorem J5{H:List Row}{i:Nat}{k:Gf}{K E:TypeId}{D:List (PV×PV)}(h:IA H i=some (k,K,E,D)):∃ r,H[i]? = some r/\r.live=false/\r.lp=some ⟨k,.map K E D⟩:=by
 unfold IA at h;split at h
 ·rename_i r hr;split at h
  ·rename_i hl hp;split at h
   ·cases h;exact⟨r,hr,hl,hp⟩
   ·cases h
  ·cases h
 ·cases h
theorem mw{H:List Row}{i:Nat}{k:Gf}{K E:TypeId}{D:List (PV×PV)}(h:IA H i=some (k,K,E,D)):k.S0=[]:=by
 unfold IA at h;split at h
 ·split at h
  ·split at h
   ·rename_i hk;cases h;exact hk
   ·cases h
  ·cases h
 ·cases h
def k0:Gf:=⟨0,[],#[],.skip,.skip⟩
def DB(k:Gf)(K E:TypeId)(D:List (PV×PV)):Row:={ es:=[],s:=0,t:=0,bv:=true,live:=false,lp:=some ⟨k,.map K E D⟩ }
theorem NN(hR:RH P C){i:Nat}{V:Value}(hv:RV P C (.mp i) V){k:Gf}{K E:TypeId}{D:List (PV×PV)}(h:IA C.H i=some (k,K,E,D)):∃ b,V=.map (some b)/\C.ρ i=some b/\QU P C b K E D:=by
 obtain⟨r,h1,h2,h3⟩:=J5 h;cases hv with
 |mp hi hl hb=>
  obtain⟨r',info,g1,g2,g3,rfl⟩:=hl;rw[h1]at g1;cases g1;rw[h3]at g2;cases g2;exact⟨_,by unfold fg;rw[mw h],hb,(hR.Ii i _ r _ hb h1 h3 h2).map K E D rfl⟩
theorem NO(hR:RH P C){i b:Nat}{k:Gf}{K E:TypeId}{D D':List (PV×PV)}(h:IA C.H i=some (k,K,E,D))(hρ:C.ρ i=some b)(hro:C.ro<=i){es es':Array MapEntry}{c c':Nat}(hes:C.w.heap[b]? = some (.map es c))
  (hm:∀ C':Ctx,Ext C C'->C'.w.heap[b]? = some (.map es' c')->QU P C' b K E D'):I7 P C { C with H:=C.H.set i (DB k K E D'),w:=C.w.putObj b (.map es' c') } (C.H.set i (DB k K E D')):=by
 obtain⟨r,g1,g3,g2⟩:=J5 h;have hi:i<C.H.length:=(Ad.1 g1).1;have hblt:b<C.w.heap.size:=hR.lt hρ;have hb':∀(x:Nat),x≠b->(C.w.putObj b (.map es' c')).heap[x]? = C.w.heap[x]?:=fun x hx=>World.putObj_heap_other hx
 have hrowi:C.row? i=none:=by unfold Ctx.row? rowAt;rw[g1];simp[g3]
 have hrow:∀ x,rowAt (C.H.set i (DB k K E D')) x=C.row? x:=by
  intro x;unfold rowAt;rw[Ax];by_cases hx:i=x
  ·subst hx;simp only[BV,hi,DB,A4,Cd,hrowi]
  ·rw[Aq hx];rfl
 have hx:Ext C { C with H:=C.H.set i (DB k K E D'),w:=C.w.putObj b (.map es' c') }:=by
  refine⟨rfl,rfl,rfl,by simp,fun x hx ho=>hb' x (fun e=>ho ⟨i,hro,e▸hρ⟩),fun x c e fr hh=>?_,by simp,fun x r' _ hr=>⟨r',by rw[<- hr];exact(hrow x).symm,rfl,rfl,Al _,fun _=>⟨rfl,fun _ h=>h⟩⟩,fun _ h=>.inl h,fun _ h=>.inl h,rfl,rfl,fun x hx=>⟨?_,rfl⟩,fun x q info' q1 q2 q3=>⟨?_,fun _ h=>h⟩,fun x rc hh=>?_⟩
  ·have hne:x≠b:=fun e=>by subst e;rw[hes]at hh;cases hh
   exact⟨c,fr,by rw[<- hh];exact hb' x hne,rfl⟩
  ·show(C.H.set i _)[x]? = _
   rw[Ax,Aq (by omega)]
  ·show ∃ r' st,(C.H.set i _)[x]? = some r'/\_
   by_cases hxi:i=x
   ·subst hxi;rw[g1]at q1;cases q1;rw[g2]at q2;cases q2;exact⟨DB k K E D',_,by rw[Ax,Ak rfl,Ak hi],rfl,rfl⟩
   ·exact⟨q,info'.st,by rw[Ax,Aq hxi];exact q1,q2,q3⟩
  ·have hne:x≠b:=fun e=>by subst e;rw[hes]at hh;cases hh
   exact⟨rc,by rw[<- hh];exact hb' x hne⟩
 refine⟨rfl,hx,hR.inj,fun x c hx'=>?_,fun x c q q1 q2=>?_,by simpa using hR.ro,hR.IU,fun x hx'=>by simpa using hR.Kq x hx',fun x c q info' q1 q2 q3 q4=>?_,hR.LQ.mono hx⟩
 ·rcases hR.Ly x c hx' with ⟨q,hq⟩ |⟨q,info',q1,q2,q3⟩
  ·exact .inl ⟨q,by rw[<- hq];exact hrow x⟩
  ·obtain⟨⟨q',st',z1,z2,z3⟩,_⟩:=hx.lp x q info' q1 q2 q3;exact .inr ⟨q',_,z1,z2,z3⟩
 ·have q2':C.row? x=some q:=by rw[<- q2];exact(hrow x).symm
  have hB:=hR.GP x c q q1 q2';have hne:c≠b:=fun e=>by
   subst e;obtain⟨cc,fr,cv,hh,_⟩:=hB.mem;rw[hes]at hh;cases hh
  exact hB.mono hx (hb' c hne)
 ·have hq2:(C.H.set i (DB k K E D'))[x]? = some q:=q2;rw[Ax]at hq2;by_cases hxi:i=x
  ·subst hxi;rw[Ak rfl,Ak hi]at hq2;cases hq2;cases q3;have hcb:c=b:=Ah ((show C.ρ i=some c from q1).symm.trans hρ);subst hcb;exact⟨fun hf=>by simp[aj.isMap]at hf,fun K2 E2 D2 he=>(by cases he;exact hm _ hx (World.putObj_heap_same hblt)),fun K2 E2 D2 he=>(by cases he),fun s he=>(by cases he)⟩
  ·rw[Aq hxi]at hq2;have hL:=hR.Ii x c q info' q1 hq2 q3 q4;have hne:c≠b:=fun e=>hxi (hR.inj i x b hρ (e▸q1))
   exact hL.mono hx (hb' c hne)
theorem UY(hR:RH P C)(K E:TypeId):
  Ext C ((C.more (DB k0 K E [])).bind C.H.length (.map #[] 0))/\RH P ((C.more (DB k0 K E [])).bind C.H.length (.map #[] 0))/\RV P ((C.more (DB k0 K E [])).bind C.H.length (.map #[] 0)) (.mp C.H.length) (.map (some C.w.heap.size)):=by
 have hx1:=E9 hR (DB k0 K E []);have hR1:=Hb hR (DB k0 K E []);have hn:(C.more (DB k0 K E [])).ρ C.H.length=none:=hR.GC (Al _);have hx2:=Ctx.Gz (C:=C.more (DB k0 K E [])) hn hR.ro (.map #[] 0);have hrow:(C.H++[DB k0 K E []])[C.H.length]? = some (DB k0 K E []):=by simp
 refine⟨hx1.trans hx2,⟨fun x y b hx hy=>?_,fun x b hx=>?_,fun x b r' g1 g2=>?_,hR1.ro,fun x b hx=>?_,fun b hb=>AA (hR1.Kq b hb) hx2.size,fun x b r' info g1 g2 g3 g4=>?_,hR1.LQ.mono hx2⟩,?_⟩
 ·simp only[Ctx.bind]at hx hy;split at hx <;> split at hy
  ·omega
  ·cases hx;have:=hR1.lt hy;exact absurd this (by simp[Ctx.more])
  ·cases hy;have:=hR1.lt hx;exact absurd this (by simp[Ctx.more])
  ·exact hR1.inj x y b hx hy
 ·simp only[Ctx.bind]at hx;split at hx
  ·rename_i e;subst e;exact .inr ⟨_,_,hrow,rfl,rfl⟩
  ·exact hR1.Ly x b hx
 ·simp only[Ctx.bind]at g1;split at g1
  ·rename_i e;subst e;have:(C.more (DB k0 K E [])).row? C.H.length=none:=by unfold Ctx.row? rowAt;rw[show(C.more (DB k0 K E [])).H[C.H.length]? = _ from hrow];rfl
   rw[show(C.more (DB k0 K E [])).row? C.H.length=some r' from g2]at this;cases this
  ·have hb:=hR1.GP x b r' g1 g2;exact hb.mono hx2 (AY C.w _ hb.lt)
 ·simp only[Ctx.bind]at hx ⊢;split at hx
  ·cases hx;exact fun hf=>Di _ (hR.Kq _ hf)
  ·exact hR1.IU x b hx
 ·simp only[Ctx.bind]at g1;split at g1
  ·rename_i e;subst e;cases g1;have g2':(C.H++[DB k0 K E []])[C.H.length]? = some r':=g2;rw[hrow]at g2';cases g2';cases g3;exact⟨fun hf=>by simp[aj.isMap]at hf,fun K2 E2 D2 he=>(by
    cases he;exact⟨⟨#[],0,heap_alloc_new C.w _,rfl,rfl,fun i k v e g _=>by simp at g⟩,fun p hp=>(by cases hp),fun p hp=>(by cases hp)⟩),fun K2 E2 D2 he=>(by cases he),fun s he=>(by cases he)⟩
  ·have hL:=hR1.Ii x b r' info g1 g2 g3 g4;exact hL.mono hx2 (AY C.w _ hL.lt)
 ·exact .mp (Ad.1 hrow).1 ⟨_,_,hrow,rfl,rfl,rfl⟩ (by simp[Ctx.bind];rfl)
theorem Gq{b:Nat}{K E:TypeId}{D:List (PV×PV)}{es:Array MapEntry}{c:Nat}(h:QU P C b K E D)(hes:C.w.heap[b]? = some (.map es c)):
  es.size=D.length/\c=D.length/\∀(i:Nat) k v e,D[i]? = some (k,v)->es[i]? = some e->e.born=i/\RV P C k e.key/\RV P C v e.val:=by
 obtain⟨es',c',h1,h2,h3,h4⟩:=h.mem;rw[hes]at h1;cases h1;exact⟨h2,h3,h4⟩
theorem RN{b:Nat}{K E:TypeId}{D:List (PV×PV)}(hK:HL P K)(h:QU P C b K E D){p:PV}{V:Value}(hp:FO P K p=true)(hv:RV P C p V){es:Array MapEntry}{c:Nat}(hes:C.w.heap[b]? = some (.map es c))(w:World):
  (Instr.findKey K V es.toList).run P w=.ok ((G1 D p).bind fun i=>es[i]?.map fun e=>(i,e.val)) w:=by
 obtain⟨h1,h2,h3⟩:=Gq h hes;have:=hK.find C p V hp hv D es.toList (by simpa using h1) (fun x hx=>h.keys x hx) (fun i k v e g1 g2=>(h3 i k v e g1 (by rw[AL]at g2;exact g2)).2.1) w;simpa only[AL] using this
theorem aY{E:TypeId}{D:List (PV×PV)}(hv:∀ x∈D,ak P E x.2=true){z:PV}(hz:ak P E z=true)(k:PV):ak P E (Fu z D k)=true:=by
 cases hm:G1 D k with
 |none=>rw[(Gp hm).1];exact hz
 |some j=>
  obtain⟨a,v,h1,_,h3,_⟩:=Gn hm;rw[h3];exact hv _ (Ag h1)
def aZ(P:Program)(ks:List TypeId)(H:List Row)(T:TypeId)(x k:PV)(ok:Bool):Option PV:=
 match P.underlying T,x with
 |some (.map K E),.mp i=>
  match IA H i,E8 P E with
  |some (_,K',E',D),some z=>
   if ks.contains K&&(K==K')&&(E==E')&&FO P K k&&ak P E (.val z) then
    some (if ok then .El [J4 P E (Fu (.val z) D k),.val (.bool (EE D k))] else J4 P E (Fu (.val z) D k)) else none
  |_,_=>none
 |_,_=>none
theorem W6{ks:List TypeId}(hks:∀ K,K∈ks->HL P K)(hR:RH P C){T:TypeId}{x k p:PV}{X KV:Value}{ok:Bool}(hx:RV P C x X)(hk:RV P C k KV)(h:aZ P ks C.H T x k ok=some p):
  ∃ v,(Instr.lookup T X KV ok).run P C.w=.ok v C.w/\RV P C p v:=by
 unfold aZ at h;split at h
 ·rename_i K E i hu;split at h
  ·rename_i kk K' E' D z hm hz;split at h
   ·rename_i hc;simp only[Aa,Ay,BJ,Ab]at hc;obtain⟨⟨⟨⟨hc1,rfl⟩,rfl⟩,hmk⟩,hmz⟩:=hc;have hKO:=hks _ hc1;obtain⟨b,rfl,hρ,hB⟩:=NN hR hx hm;obtain⟨es,c,hes,_⟩:=hB.mem;obtain⟨h1,h2,h3⟩:=Gq hB hes;have hf:=RN hKO hB hmk hk hes C.w;have hch:=hKO.check C k KV hmk hk es.isEmpty C.w;have key:∃ v,(Instr.lookup T (.map (some b)) KV ok).run P C.w=.ok (if ok then .tuple #[v,.bool (EE D k)] else v) C.w/\RV P C (Fu (.val z) D k) v:=by
     cases hi:G1 D k with
     |none=>
      refine⟨z,?_,by rw[(Gp hi).1];exact .val⟩;rw[hi]at hf;unfold Instr.lookup;simp only[Sem.run_bind,run_underlying hu,Result.andThen_ok,MapKept.run_getObj_map hes,Sem.run_pure,hch,hf,Option.bind_none,Fx hz,GI,hi,Option.isSome_none]
     |some j=>
      obtain⟨a,v,g1,_,g3,_⟩:=Gn hi;have hj:j<es.size:=by rw[h1];exact(Ad.1 g1).1
      have he:es[j]? = some es[j]:=AD hj;refine⟨es[j].val,?_,by rw[g3];exact(h3 j a v _ g1 he).2.2⟩;rw[hi]at hf;unfold Instr.lookup;simp only[Sem.run_bind,run_underlying hu,Result.andThen_ok,MapKept.run_getObj_map hes,Sem.run_pure,hch,hf,Bl,he,AE,GI,hi,Cg]
    obtain⟨v,k1,k2⟩:=key;refine⟨_,k1,?_⟩;have hE:=RV.J4 (aY (fun x hx=>hB.lW x hx) hmz k) k2;cases h;cases ok
    ·exact hE
    ·refine .El rfl fun j c u g1 g2=>?_
     match j with
     |0=>simp at g1 g2;subst g1;subst g2;exact hE
     |1=>simp at g1 g2;subst g1;subst g2;exact .val
     |j+2=>simp at g1
   ·cases h
  ·cases h
 ·cases h
def gI(P:Program)(ks:List TypeId)(ro:Nat)(H:List Row)(T:TypeId)(x k v:PV):Option (List Row):=
 match P.underlying T,x with
 |some (.map K E),.mp i=>
  match IA H i with
  |some (kk,K',E',D)=>if ks.contains K&&(K==K')&&(E==E')&&FO P K k&&ak P E v&&decide (ro<=i) then some (H.set i (DB kk K E (EU D k v))) else none
  |none=>none
 |_,_=>none
theorem Zb{ks:List TypeId}(hks:∀ K,K∈ks->HL P K)(hR:RH P C){T:TypeId}{x k v:PV}{X KV VV:Value}{H':List Row}(hx:RV P C x X)(hk:RV P C k KV)(hv:RV P C v VV)(h:gI P ks C.ro C.H T x k v=some H'):
  ∃ C',(Instr.mapUpdate T X KV VV).run P C.w=.ok () C'.w/\I7 P C C' H':=by
 unfold gI at h;split at h
 ·rename_i K E i hu;split at h
  ·rename_i kk K' E' D hm;split at h
   ·rename_i hc;simp only[Aa,Ay,BJ,Ab]at hc;obtain⟨⟨⟨⟨⟨hc1,rfl⟩,rfl⟩,hmk⟩,hmv⟩,hro⟩:=hc;cases h;have hKO:=hks _ hc1;obtain⟨b,rfl,hρ,hB⟩:=NN hR hx hm;obtain⟨es,c,hes,_⟩:=hB.mem;obtain⟨h1,h2,h3⟩:=Gq hB hes;have hf:=RN hKO hB hmk hk hes C.w;have hch:=hKO.check C k KV hmk hk false C.w;cases hi:G1 D k with
    |none=>
     have hrun:(Instr.mapUpdate T (.map (some b)) KV VV).run P C.w=.ok () (C.w.putObj b (.map (es.push { key:=KV,val:=VV,born:=c }) (c+1))):=by
      unfold Instr.mapUpdate;rw[hi]at hf;simp only[Sem.run_bind,run_underlying hu,Result.andThen_ok,MapKept.run_getObj_map hes,hch,hf,Option.bind_none,run_setObj_map _ hes];rfl
     refine⟨{ C with H:=C.H.set i (DB kk K E (EU D k v)),w:=C.w.putObj b (.map (es.push { key:=KV,val:=VV,born:=c }) (c+1)) },hrun,?_⟩;rw[(Gp hi).2];refine NO hR hm hρ hro hes fun C' hxx hh=>⟨⟨_,_,hh,by simp[h1],by simp[h2],fun j a u e g1 g2=>?_⟩,fun p hp=>?_,fun p hp=>?_⟩
     ·rw[AO]at g1;rw[Array.getElem?_push]at g2;split at g1
      ·rename_i hj;rw[Aq (by omega)]at g2;obtain⟨q1,q2,q3⟩:=h3 j a u e g1 g2;exact⟨q1,q2.flat (Gb (hB.keys _ (Ag g1))),q3.mono hxx⟩
      ·rename_i hj;have hj2:j=D.length:=by
        have:=(Ad.1 g1).1;simp at this;omega
       subst hj2;simp only[Dm,AZ,A5,CM]at g1;rw[Ak (by omega)]at g2;obtain⟨rfl,rfl⟩:=g1;cases g2;exact⟨h2,hk.flat (Gb hmk),hv.mono hxx⟩
     ·rcases A3.1 hp with hp |hp
      ·exact hB.keys p hp
      ·rw[AI]at hp;subst hp;exact hmk
     ·rcases A3.1 hp with hp |hp
      ·exact hB.lW p hp
      ·rw[AI]at hp;subst hp;exact hmv
    |some j=>
     obtain⟨a,u0,g1,g2,g3,g4⟩:=Gn hi;have hj:j<es.size:=by rw[h1];exact(Ad.1 g1).1
     have he:es[j]? = some es[j]:=AD hj;have hkey:es[j].key=KV:=(uo hmk (hB.keys _ (Ag g1)) hk (h3 j a u0 _ g1 he).2.1 (Y9 hmk (hB.keys _ (Ag g1)) g2)).symm;have hrun:(Instr.mapUpdate T (.map (some b)) KV VV).run P C.w=.ok () (C.w.putObj b (.map (es.modify j fun e=>{ e with key:=KV,val:=VV }) c)):=by
      unfold Instr.mapUpdate;rw[hi]at hf;simp only[Sem.run_bind,run_underlying hu,Result.andThen_ok,MapKept.run_getObj_map hes,hch,hf,Bl,he,AE,Bx,hkey,dG hmk hk,run_setObj_map _ hes];rfl
     refine⟨{ C with H:=C.H.set i (DB kk K E (EU D k v)),w:=C.w.putObj b (.map (es.modify j fun e=>{ e with key:=KV,val:=VV }) c) },hrun,?_⟩;rw[g4];refine NO hR hm hρ hro hes fun C' hxx hh=>⟨⟨_,_,hh,by simp[h1],by simp[h2],fun l a' u e k1 k2=>?_⟩,fun p hp=>?_,fun p hp=>?_⟩
     ·rw[Ck]at k2;rw[Ax]at k1;by_cases hjl:j=l
      ·subst hjl;rw[Ak rfl,Ak (by rw[<- h1];exact hj)]at k1;cases k1;rw[Ak rfl,he]at k2;cases k2;exact⟨(h3 j a u0 _ g1 he).1,hk.flat (Gb hmk),hv.mono hxx⟩
      ·rw[Aq hjl]at k1 k2;obtain⟨q1,q2,q3⟩:=h3 l a' u e k1 k2;exact⟨q1,q2.flat (Gb (hB.keys _ (Ag k1))),q3.mono hxx⟩
     ·rcases Bw hp with hp |hp
      ·exact hB.keys p hp
      ·subst hp;exact hmk
     ·rcases Bw hp with hp |hp
      ·exact hB.lW p hp
      ·subst hp;exact hmv
   ·cases h
  ·cases h
 ·cases h
def P7(P:Program)(ks:List TypeId)(ro:Nat)(H:List Row)(f:Operand->PV):Op->Option (PV×List Row)
 |.makeMap T none=>match P.underlying T with |some (.map K E)=>some (.mp H.length,H++[DB k0 K E []]) |_=>none
 |.lookup T x k ok=>(aZ P ks H T (f x) (f k) ok).map fun p=>(p,H)
 |.mapUpdate T x k v=>(gI P ks ro H T (f x) (f k) (f v)).map fun H'=>(.val undef,H')
 |.call c=>
  match c.callee,c.args.toList,c.argTypes[0]? with
  |.builtin .len,[x],some T=>
   match P.underlying T,f x with
   |some (.map _ _),.mp i=>(IA H i).map fun r=>(.val (.int .i64 (r.2.2.2.length:Int)),H)
   |_,_=>none
  |_,_,_=>none
 |_=>none
theorem my{H:List Row}{i:Nat}{k k':Gf}{K E K' E':TypeId}{D D':List (PV×PV)}(h:IA H i=some (k,K,E,D))(x:Nat):rowAt (H.set i (DB k' K' E' D')) x=rowAt H x:=by
 obtain⟨r,g1,g3,g2⟩:=J5 h;have hi:i<H.length:=(Ad.1 g1).1;unfold rowAt;rw[Ax];by_cases hx:i=x
 ·subst hx;rw[Ak rfl,Ak hi,g1];simp[DB,g3]
 ·rw[Aq hx]
theorem dJ{ks:List TypeId}{ro:Nat}{H:List Row}{f:Operand->PV}{op:Op}{p:PV}{H':List Row}(h:P7 P ks ro H f op=some (p,H'))(x:Nat):rowAt H' x=rowAt H x:=by
 cases op <;> simp only[P7,reduceCtorEq]at h
 case makeMap T r=>
  cases r with
  |some _=>cases h
  |none=>
   simp only at h;split at h
   ·cases h;by_cases hx:x<H.length
    ·exact D5 hx
    ·unfold rowAt;rw[Bn (by omega),AG (by omega:H.length<=x)];cases hm:x-H.length with
     |zero=>simp[DB]
     |succ n=>simp
   ·cases h
 case lookup T x k ok=>
  obtain⟨q,hq,he⟩:=Af.1 h;cases he;rfl
 case mapUpdate T y k v=>
  obtain⟨q,hq,he⟩:=Af.1 h;cases he;unfold gI at hq;split at hq
  ·split at hq
   ·rename_i hm;split at hq
    ·cases hq;exact my hm x
    ·cases hq
   ·cases hq
  ·cases hq
 case call c=>
  split at h
  ·split at h
   ·obtain⟨q,hq,he⟩:=Af.1 h;cases he;rfl
   ·cases h
  ·cases h
theorem Zc{ks:List TypeId}(hks:∀ K,K∈ks->HL P K){ro:Nat}{H:List Row}{f:Operand->PV}{op:Op}{p:PV}{H':List Row}(h:P7 P ks ro H f op=some (p,H')):Wy P ro H f op p H':=by
 intro C g o ho hro hH hR hv;subst hro;subst hH;cases op <;> simp only[P7,reduceCtorEq]at h
 case makeMap T r=>
  cases r with
  |some _=>cases h
  |none=>
   simp only at h;split at h
   ·rename_i K E hu;cases h;obtain⟨h1,h2,h3⟩:=UY hR K E;refine⟨_,.map (some C.w.heap.size),_,?_,.inl rfl,⟨rfl,h1,h2⟩,h3⟩;unfold execOp;simp only[ho,Option.map_none,Instr.makeMap,Sem.run_bind,Sem.run_pure,Result.andThen_ok,run_newObj_alloc];rfl
   ·cases h
 case lookup T x k ok=>
  obtain⟨q,hq,he⟩:=Af.1 h;cases he;obtain⟨v,h1,h2⟩:=W6 hks hR (hv x (by simp[Op.operands])) (hv k (by simp[Op.operands])) hq;refine⟨_,v,C,?_,.inl rfl,⟨rfl,.refl C,hR⟩,h2⟩;unfold execOp;simp only[ho,Sem.run_bind,h1,Result.andThen_ok];rfl
 case mapUpdate T x k v=>
  obtain⟨q,hq,he⟩:=Af.1 h;cases he;obtain⟨C',h1,h2⟩:=Zb hks hR (hv x (by simp[Op.operands])) (hv k (by simp[Op.operands])) (hv v (by simp[Op.operands])) hq;refine⟨_,undef,C',?_,.inr ⟨rfl,rfl⟩,h2,.val⟩;unfold execOp;simp only[ho,Sem.run_bind,h1,Result.andThen_ok];rfl
 case call c=>
  split at h
  ·rename_i x T hc ha hT;split at h
   ·rename_i K E i hu hfx;obtain⟨⟨kk,K',E',D⟩,hm,he⟩:=Af.1 h;cases he;have hca:c.args = #[x]:=by apply BD;simpa using ha
    have hx:=hv x (by simp[Op.operands,Call.operands,hc,hca]);rw[hfx]at hx;obtain⟨b,hX,hρ,hB⟩:=NN hR hx hm;obtain⟨es,c0,hes,_⟩:=hB.mem;obtain⟨h1,h2,h3⟩:=Gq hB hes;refine⟨_,.int .i64 (D.length:Int),C,?_,.inl rfl,⟨rfl,.refl C,hR⟩,.val⟩;have hlen:(Builtin.len_ c.argTypes o.type #[g x]).run P C.w=.ok (.int .i64 (D.length:Int)) C.w:=by
     rw[hX];simp only[Builtin.len_,hT,BE,AZ,Sem.run_bind,run_underlying hu,Result.andThen_ok,MapKept.run_getObj_map hes,Sem.run_pure,h1];rfl
    simp only[execOp,ho,resolve,hc,hca,Sem.run_bind,Sem.run_pure,Result.andThen_ok,invoke,builtin,BM,AV,Bs,hlen]
   ·cases h
  ·cases h
def W7(P:Program)(E:TypeId)(z:PV)(k:PV)(H:List Row)(ok:Bool):List (PV×PV)->DT (PV×List Row)
 | []=>.leaf (if ok then .El [J4 P E z,.val (.bool false)] else J4 P E z,H)
 |(a,v)::D=>.br (JN k a) (.leaf (if ok then .El [J4 P E v,.val (.bool true)] else J4 P E v,H)) (W7 P E z k H ok D)
theorem TZ{P:Program}{E:TypeId}{z k:PV}{H:List Row}{ok:Bool}:∀{D:List (PV×PV)},(W7 P E z k H ok D).run=some (if ok then .El [J4 P E (Fu z D k),.val (.bool (EE D k))] else J4 P E (Fu z D k),H)
 | []=>rfl
 |(a,v)::D=>by
  unfold W7 Fu EE;cases hq:JN k a with
  |true=>rfl
  |false=>
   show(W7 P E z k H ok D).run=_
   rw[TZ];rfl
def mz(k:PV)(r:PV×List Row):List (PV×PV)->DT (PV×List Row)
 | []=>.leaf r
 |(a,_)::D=>.br (JN k a) .no (mz k r D)
theorem W8{k:PV}{r q:PV×List Row}:∀{D:List (PV×PV)},(mz k r D).run=some q->q=r/\G1 D k=none
 | [],h=>by cases h;exact⟨rfl,rfl⟩
 |(a,v)::D,h=>by
  unfold mz at h;unfold G1;cases hq:JN k a with
  |true=>rw[hq]at h;cases h
  |false=>
   rw[hq]at h;obtain⟨h1,h2⟩:=W8 (D:=D) h;exact⟨h1,by rw[h2];rfl⟩
def a9(P:Program)(ks bs:List TypeId)(ro:Nat)(H:List Row)(f:Operand->PV)(op:Op):Option (DT (PV×List Row)):=
 match op with
 |.lookup T x k ok=>
  match bs.contains T,P.underlying T,f x with
  |true,some (.map K E),.mp i=>
   match IA H i,E8 P E with
   |some (_,K',E',D),some z=>
    if ks.contains K&&(K==K')&&(E==E')&&FO P K (f k)&&ak P E (.val z) then some (W7 P E (.val z) (f k) H ok D) else none
   |_,_=>none
  |_,_,_=>(P7 P ks ro H f op).map .leaf
 |.mapUpdate T x k v=>
  match bs.contains T,P.underlying T,f x with
  |true,some (.map K E),.mp i=>
   match IA H i with
   |some (kk,K',E',D)=>
    if ks.contains K&&(K==K')&&(E==E')&&FO P K (f k)&&ak P E (f v)&&decide (ro<=i) then some (mz (f k) (.val undef,H.set i (DB kk K E (D++[(f k,f v)]))) D) else none
   |_=>none
  |_,_,_=>(P7 P ks ro H f op).map .leaf
 |_=>(P7 P ks ro H f op).map .leaf
theorem dK{ks bs:List TypeId}{ro:Nat}{H:List Row}{f:Operand->PV}{op:Op}{d:DT (PV×List Row)}{r:PV×List Row}(h:a9 P ks bs ro H f op=some d)(hr:d.run=some r):P7 P ks ro H f op=some r:=by
 have plain:(P7 P ks ro H f op).map DT.leaf=some d->P7 P ks ro H f op=some r:=fun h=>by
  obtain⟨q,hq,rfl⟩:=Af.1 h;cases hr;exact hq
 unfold a9 at h;split at h
 ·rename_i T x k ok;split at h
  ·rename_i K E i hb hu hx;split at h
   ·rename_i kk K' E' D z hm hz;split at h
    ·rename_i hc;cases h;rw[TZ]at hr;cases hr;simp only[P7,aZ,hu,hx,hm,hz];rw[Ak hc];rfl
    ·cases h
   ·cases h
  ·exact plain h
 ·rename_i T x k v;split at h
  ·rename_i K E i hb hu hx;split at h
   ·rename_i kk K' E' D hm;split at h
    ·rename_i hc;cases h;obtain⟨rfl,hi⟩:=W8 hr;simp only[P7,gI,hu,hx,hm];rw[Ak hc,(Gp hi).2];rfl
    ·cases h
   ·cases h
  ·exact plain h
 ·exact plain h
def CY.J6(E:CY)(P:Program)(ks bs:List TypeId):CY:={ E with Fz:=fun ro H f op=>match a9 P ks bs ro H f op with |some d=>some d |none=>E.Fz ro H f op }
theorem CG.J6{E:CY}(hE:CG P E.env){ks bs:List TypeId}(hks:∀ K,K∈ks->HL P K):CG P (E.J6 P ks bs).env where
 H9:=hE.H9
 Hc:=hE.Hc
 FI:=hE.FI
 lo:=fun f fn b h1 h2=>Gv.mono (E:=E.env) (E':=(E.J6 P ks bs).env) (fun _ _ _ _ _ _ _ h=>h) (hE.lo f fn b h1 h2)
 Ec:=hE.Ec
 GO:=hE.GO
 EY:=fun ro H f T x k p H' h=>hE.EY ro H f T x k p H' h
 Fz:=fun ro H f op p H' h=>by
  change (match a9 P ks bs ro H f op with |some d=>some d |none=>E.Fz ro H f op).bind DT.run=some (p,H') at h
  split at h
  ·rename_i d hd;have hq:=dK hd h;exact⟨Zc hks hq,dJ hq⟩
  ·exact hE.Fz ro H f op p H' h
end Go.Hx


namespace Go.Hx
variable{P:Program}{C:Ctx}
def U0(P:Program)(H:List Row)(T:TypeId)(x:PV)(lo hi mx:Option PV):Option PV:=
 match P.underlying T,x,Ft lo,Ft hi,Ft mx with
 |some (.slice e),.sl i n k len,some l,some h,some m=>
  match rowAt H i with
  |some r=>
   if known P e&&(r.es.length==n)&&(r.s==P.cellsOf e) && !r.nl&&(m.isNone||h.isSome)&&decide (0<=l.getD 0/\l.getD 0<=h.getD len/\h.getD len<=m.getD ((n:Int)-k)/\m.getD ((n:Int)-k)=(n:Int)-k) then
    some (if l.getD 0=(n:Int)-k then .C9 false e [] else .sl i n (k+(l.getD 0).toNat) (h.getD len-l.getD 0).toNat)
   else none
  |none=>none
 |_,_,_,_,_=>none
theorem ll{T:TypeId}{x p:PV}{X:Value}{lo hi mx:Option PV}{L Hi M:Option Value}(hx:RV P C x X)
  (hl:∀ r,Ft lo=some r->Bd L r) (hh:∀ r,Ft hi=some r->Bd Hi r) (hm:∀ r,Ft mx=some r->Bd M r) (h:U0 P C.H T x lo hi mx=some p):
  ∃ e,P.underlying T=some (.slice e)/\∃ v,(Instr.slice T X L Hi M).run P C.w=.ok v C.w/\RV P C p v:=by
 unfold U0 at h;split at h
 ·rename_i e i n k len l h' m hu e1 e2 e3;split at h
  ·rename_i r hr;split at h
   ·rename_i hc;simp only[Aa,Ay,Ab,Am,A2]at hc;obtain⟨⟨⟨⟨⟨hk,h2⟩,h3⟩,hnl⟩,hmh⟩,g0,g1,g2,g3⟩:=hc;cases h;refine⟨e,hu,?_⟩;cases hx with
    |sl hV hi' hle hh2=>
     obtain⟨q0,a,cap,rfl,q1,q2⟩:=hh2 r hr h2;unfold E4 at q2;rw[Aq (by simp[hnl])]at q2;obtain⟨b,p1,rfl,c,ee,fr,p2,p3,p4⟩:=q2;rw[h2]at p4;obtain⟨c',hb,hc'⟩:∃ c',(Instr.sliceBounds true len cap L Hi M).run P C.w=.ok ((l.getD 0).toNat,(h'.getD len).toNat,c') C.w/\n<=k+c'/\c'<=cap:=by
      cases m with
      |none=>
       have hM:M=none:=by rcases hm _ e3 with ⟨rfl,_⟩ |⟨_,_,_,hz⟩;rfl;cases hz
       subst hM;simp only[Option.getD_none]at g2;exact⟨cap,Eo C.w (hl _ e1) (hh _ e2) g0 g1 (by omega),p4,Al _⟩
      |some m=>
       simp only[Option.isNone_some,A4,Dw]at hmh;obtain⟨h'',rfl⟩:=B_.1 hmh;simp only[Bx]at g1 g2 g3 ⊢;exact⟨m.toNat,Jh C.w (hl _ e1) (hh _ e2) (hm _ e3) g0 g1 g2 (by omega),by omega,by omega⟩
     generalize l.getD 0=lo' at *;generalize h'.getD len=hi'' at *;by_cases hend:lo'=(n:Int)-k
     ·rw[Ak hend];refine⟨.slice _ (hi''.toNat-lo'.toNat) (c'-lo'.toNat),by simp only[Instr.slice,Sem.run_bind,run_underlying hu,Result.andThen_ok,hb,run_sizeOf C.w hk,Sem.run_pure];rfl,?_⟩;have e0:hi''.toNat-lo'.toNat=([]:List PV).length:=by simp;omega
      rw[e0];exact .C9 0 0 (fun _ _=>undef) (by simp) (fun hf=>by cases hf) (fun h0=>by simp at h0) (fun x e j p hx=>by simp at hx) (fun x e j p hx=>by simp at hx) (fun e he=>by simp at he)
     ·rw[Aq hend];refine⟨.slice (some ⟨b,(k+lo'.toNat)*r.s,none⟩) (hi''-lo').toNat (c'-lo'.toNat),?_,.sl ⟨_,_,rfl⟩ hi' hle fun r' hr' hn=>?_⟩
      ·simp only[Instr.slice,Sem.run_bind,run_underlying hu,Result.andThen_ok,hb,run_sizeOf C.w hk,Sem.run_pure];rw[Aq (by omega)];simp only[AE,Fs,<- h3,<- Bb];congr 2
       omega
      ·have e':r'=r:=Ah (hr'.symm.trans hr);subst e';refine⟨by omega,_,_,rfl,by omega,?_⟩;unfold E4;rw[Aq (by simp[hnl])];refine⟨b,p1,rfl,c,ee,fr,p2,?_,by omega⟩;refine Bc (A1 _ ?_) p3;omega
   ·cases h
  ·cases h
 ·cases h
def W9(P:Program)(ro:Nat)(H:List Row)(c:Call)(x y:PV):Option (PV×List Row):=
 match c.argTypes[0]?,c.argTypes[1]? with
 |some T,some T2=>
  match P.underlying T,JV P T T2 H y with
  |some (.slice e),some (ty,t,news)=>
   if known P e&&t==e&&(E8 P e).any (fun z=>z.cells.size==P.cellsOf e)&&P.bytesOf e != 0&&(ty||GX news) then
    match x with
    |.sl i n 0 len=>
     match rowAt H i with
     |some r=>
      if decide (ro<=i)&&(r.es.length==n)&&decide (len+news.length<=n)&&r.t==e&&r.s==P.cellsOf e && !r.fz && !r.nl then
       some (.sl i n 0 (len+news.length),H.set i { r with es:=r.es.take len++news++r.es.drop (len+news.length),bv:=r.bv&&ty }) else none
     |none=>none
    |_=>none
   else none
  |_,_=>none
 |_,_=>none
theorem mC{t:TypeId}{ty:Bool}{news:List PV}{Y:Value}{us:List Value}(hS:Src P C (P.cellsOf t) t ty news Y us)(hcell:(ty||GX news)=true):∀ v∈us,v.oneCell'=true:=fun v hv=>by
 obtain⟨j,hj⟩:=Bh hv;have hlt:j<news.length*P.cellsOf t:=by rw[<- hS.len];exact(Ad.1 hj).1
 have hs0:0<P.cellsOf t:=by
  rcases Cz (P.cellsOf t) with h0 |h0
  ·rw[h0]at hlt;simp at hlt
  ·exact h0
 have hkk:j / P.cellsOf t<news.length:=(CA hs0).2 hlt;have he:=Ae hkk;have hmem:=By hkk;have hmm:j % P.cellsOf t<(news[j / P.cellsOf t]).cells.length:=by rw[hS.el _ hmem];exact Nat.mod_lt _ hs0
 obtain⟨v',g1,g2⟩:=hS.rel (j / P.cellsOf t) _ (j % P.cellsOf t) _ he (Ae hmm);have e3:j / P.cellsOf t*P.cellsOf t+j % P.cellsOf t=j:=by
  have:=Nat.div_add_mod j (P.cellsOf t);rw[CU]at this;omega
 rw[e3,hj]at g1;cases g1;refine g2.Qx ?_;rcases(A2 _ _).mp hcell with hty |hca
 ·exact Q4 (hS.typed hty _ hmem) _ (By hmm)
 ·have:=Ao.1 hca _ hmem;exact Ao.1 this _ (By hmm)
theorem Xa{c:Call}{x y p:PV}{X Y:Value}{H':List Row}(hR:RH P C)(hx:RV P C x X)(hy:RV P C y Y)(h:W9 P C.ro C.H c x y=some (p,H'))(ty0:TypeId):
  ∃ v C',(Builtin.append_ c.argTypes ty0 #[X,Y]).run P C.w=.ok v C'.w/\I7 P C C' H'/\RV P C' p v:=by
 unfold W9 at h;split at h
 ·rename_i T T2 hT hT2;split at h
  ·rename_i e ty t news hu hsrc;have hu2:=Q6 hsrc;split at h
   ·rename_i hc;simp only[Aa,Ay,CO]at hc;obtain⟨⟨⟨⟨hk,rfl⟩,hz⟩,hby⟩,hcell⟩:=hc;obtain⟨i,d,hinfo,hd,hsz⟩:=F1 hk;obtain⟨us,hS⟩:=MD hR hy hsrc;split at h
    ·rename_i ii n len;split at h
     ·rename_i r hr;split at h
      ·rename_i hc2;simp only[Aa,Ay,Ab,Am]at hc2;obtain⟨⟨⟨⟨⟨⟨hro,hn⟩,hle5⟩,hrt⟩,hrs⟩,hfz⟩,hnl⟩:=hc2;cases h;have hlive:=Qz hr;cases hx with
       |sl hV hi hle hh=>
        obtain⟨q0,a,cap,rfl,hcap,hs⟩:=hh r hr hn;unfold E4 at hs;rw[Aq (by simp[hnl])]at hs;obtain⟨b,hb,rfl,c0,e0,fr0,hh1,hh2,hh3⟩:=hs;rw[hn]at hh3;have hN:HB P C r.s news us:=by rw[hrs];exact hS.Th
        obtain⟨C',g1,g2⟩:=TI (ty:=ty) hR hi hro hr hfz hb (k:=len) (by omega) hN (mC hS hcell) (fun hty e he=>by rw[hrt];exact hS.typed hty e he);have hrun:=run_append_room' (P:=P) (n:=len) (cap:=cap) (m:=news.length) (Y:=Y) (a:=some ⟨b,0*r.s,none⟩) C.w hT hT2 hu hu2 hS.shape hinfo (by omega) ty0;have hf:=hS.first news.length rfl
        rw[hsz]at hf;rw[hf]at hrun;simp only[Result.andThen_ok,Fs,CW,AM,<- hsz]at hrun;rw[<- hrs,g1]at hrun;simp only[Result.andThen_ok]at hrun;refine⟨.slice (some ⟨b,0,none⟩) (len+news.length) cap,C',by rw[CW];exact hrun,g2,?_⟩;generalize hr2:({ r with es:=r.es.take len++news++r.es.drop (len+news.length),bv:=r.bv&&ty }:Row)=r2 at g2;have hlen2:r2.es.length=n:=by rw[<- hr2];simp;omega
        have hrow:C'.row? ii=some r2:=by
         show rowAt C'.H ii=some r2
         rw[g2.H,Ep hi (by rw[<- hr2];exact hlive)];simp
        refine .sl ⟨_,_,rfl⟩ (by rw[g2.H,Bi];exact hi) (fun r' hr'=>?_) fun r' hr' _=>?_
        ·have:r'=r2:=Ah (hr'.symm.trans hrow);rw[this,hlen2];exact Al _
        ·have:r'=r2:=Ah (hr'.symm.trans hrow);subst this;refine⟨by omega,_,_,rfl,by omega,?_⟩;unfold E4;rw[Aq (by rw[<- hr2];simp[hnl])];obtain⟨c2,fr2,k1,k2⟩:=g2.ext.shape b c0 e0 fr0 hh1;obtain⟨r3,z1,_,_,_,z2⟩:=g2.ext.rows ii r' hi hrow;have:r3=r:=Ah (z1.symm.trans hr);subst this;refine⟨b,(z2 (by rw[hlen2,hn])).2 b hb,by simp,c2,e0,fr2,k1,?_,by rw[hlen2];omega⟩;rw[k2,show r'.s=r3.s by rw[<- hr2]];exact hh2
      ·cases h
     ·cases h
    ·cases h
   ·cases h
  ·cases h
 ·cases h
def yN(P:Program)(ro:Nat)(H:List Row)(c:Call)(x:PV):Option (PV×List Row):=
 match c.argTypes[0]? with
 |some T=>
  match P.underlying T with
  |some (.slice e)=>
   match E8 P e with
   |some z=>
    match x with
    |.sl i n k (len+1)=>
     match rowAt H i with
     |some r=>
      if decide (ro<=i)&&r.t==e&&QA P e z && !r.fz&&(r.es.length==n) && !r.nl then
       some (.val (.tuple #[]),H.set i { r with es:=r.es.take k++List.replicate (len+1) (Wl P e z)++r.es.drop (k+(len+1)),bv:=r.bv&&wt P e (Wl P e z) }) else none
     |none=>none
    |_=>none
   |none=>none
  |_=>none
 |none=>none
def inQ(P:Program)(ro:Nat)(H:List Row)(f:Operand->PV):Op->Option (PV×List Row)
 |.slice t x lo hi mx=>(U0 P H t (f x) (lo.map f) (hi.map f) (mx.map f)).map fun p=>(p,H)
 |.call c=>
  match c.callee with
  |.builtin .append=>match c.args.toList with | [x,y]=>W9 P ro H c (f x) (f y) |_=>none
  |.builtin .clear=>match c.args.toList with | [x]=>yN P ro H c (f x) |_=>none
  |_=>none
 |_=>none
theorem mE{H:List Row}{f:Operand->PV}{op:Op}{i n len:Nat}{r:Row}(h:∀ c x y,UG op=some (c,x,y)->f x=.sl i n 0 len):ud H f op (H.set i r):=fun c x y e=>by
 refine⟨by simp,fun z hz hn=>?_⟩;have:=(hn _ _ _ _ (h c x y e)).1;unfold rowAt;rw[B1 (fun e=>this e.symm)]
theorem bg{c:Call}{x y:Operand}(h1:c.callee=.builtin .append)(h2:c.args.toList=[x,y]):UG (.call c)=some (c,x,y):=by
 unfold UG;simp only[h1,h2]
def dM(P:Program)(T0:TypeId)(ro:Nat)(H:List Row)(c:Call)(x y:PV):Option (DT (PV×List Row)):=
 match c.argTypes[0]?,c.argTypes[1]? with
 |some T,some T2=>
  bif T==T0 then
  match P.underlying T,JV P T T2 H y with
  |some (.slice e),some (ty,t,[z])=>
    match x with
    |.sl i n 0 len=>
     match rowAt H i with
     |some r=>some (.br ((known P e&&t==e&&(E8 P e).any (fun z=>z.cells.size==P.cellsOf e)&&P.bytesOf e != 0&&(ty||GX [z])) &&
       (decide (ro<=i)&&(r.t==e&&(r.s==P.cellsOf e&&(!r.fz && !r.nl))))&&((r.es.length==n)&&(decide (len<=n)&&decide ((n+1)*P.bytesOf e<=140737488355328))))
       (.leaf (.sl i (max n (len+1)) 0 (len+1),H.set i { r with es:=r.es.take len++z::r.es.drop (len+1),bv:=r.bv&&ty })) .no)
     |none=>none
    |_=>none
  |_,_=>none
  else none
 |_,_=>none
theorem RO{T0:TypeId}{c:Call}{x y p:PV}{X Y:Value}{d:DT (PV×List Row)}{H':List Row}(hR:RH P C)(hx:RV P C x X)(hy:RV P C y Y)(h:dM P T0 C.ro C.H c x y=some d)(hd:d.run=some (p,H'))(ty0:TypeId):
  ∃ v C',(Builtin.append_ c.argTypes ty0 #[X,Y]).run P C.w=.ok v C'.w/\I7 P C C' H'/\RV P C' p v:=by
 unfold dM at h;split at h
 ·rename_i T T2 hT hT2;cases hTT:T==T0 with
  |false=>rw[hTT]at h;cases h
  |true=>
   rw[hTT,Aj]at h;split at h
   ·rename_i e ty t z hu hsrc;split at h
    ·rename_i i n len;split at h
     ·rename_i r hr;cases h;simp only[DT.run,Cx]at hd;split at hd
      ·rename_i hc;cases hd;simp only[Aa,Ab,Ay,Am]at hc;obtain⟨⟨h1,hro,ht,hs,hfz,hnl⟩,hn,hle,hbig⟩:=hc;have hcond:(known P e&&t==e&&(E8 P e).any (fun z=>z.cells.size==P.cellsOf e)&&P.bytesOf e != 0&&(ty||GX [z]))=true:=by simpa [and_assoc] using h1
       by_cases hlt:len<n
       ·have hq:W9 P C.ro C.H c (.sl i n 0 len) y=some (.sl i (max n (len+1)) 0 (len+1),C.H.set i { r with es:=r.es.take len++z::r.es.drop (len+1),bv:=r.bv&&ty }):=by
         unfold W9;simp only[hT,hT2,hu,hsrc,hcond,hr,BV,As,AB];rw[Ak (by simp[hro,hn,ht,hs,hfz,hnl];omega),show max n (len+1)=n by omega];simp
        exact Xa hR hx hy hq ty0
       ·have hlen:n=len:=by omega
        subst hlen;have hq:ES P C.ro C.H c (.sl i n 0 n) y=some (.sl i (max n (n+1)) 0 (n+1),C.H.set i { r with es:=r.es.take n++z::r.es.drop (n+1),bv:=r.bv&&ty }):=by
         unfold ES;simp only[hT,hT2,hu,hsrc,hcond,hr,BV,As,AB];rw[Ak ⟨hro,hn,trivial,by simpa using hbig⟩,Ak (by simp[ht,hs,hfz]),show max n (n+1)=n+1 by omega];rw[<- hn,A_,AC (CD _)];simp[hnl]
        obtain⟨v,C',g1,g2,g3,_⟩:=F2 hR hx hy hq ty0;exact⟨v,C',g1,g2,g3⟩
      ·cases hd
     ·cases h
    ·cases h
   ·cases h
 ·cases h
theorem RP{T0:TypeId}{ro:Nat}{H H':List Row}{c:Call}{x y p:PV}{d:DT (PV×List Row)}(h:dM P T0 ro H c x y=some d)(hd:d.run=some (p,H')):∃ i n len r,x=.sl i n 0 len/\H'=H.set i r:=by
 unfold dM at h;split at h
 ·rename_i T T2 hT hT2;cases hTT:T==T0 with
  |false=>rw[hTT]at h;cases h
  |true=>
   rw[hTT,Aj]at h;split at h
   ·split at h
    ·split at h
     ·cases h;simp only[DT.run,Cx]at hd;split at hd
      ·cases hd;exact⟨_,_,_,_,rfl,rfl⟩
      ·cases hd
     ·cases h
    ·cases h
   ·cases h
 ·cases h
def CY.J7(E:CY)(P:Program)(T0:TypeId):CY:={ E with Ec:=fun ro H f op=>
 match op with
 |.call c=>
  match c.callee with
  |.builtin .append=>match c.args.toList with | [x,y]=>(match dM P T0 ro H c (f x) (f y) with |some d=>some d |none=>E.Ec ro H f op) |_=>E.Ec ro H f op
  |_=>E.Ec ro H f op
 |_=>E.Ec ro H f op }
theorem CG.J7{E:CY}(hE:CG P E.env)(T0:TypeId):CG P (E.J7 P T0).env where
 H9:=hE.H9
 Hc:=hE.Hc
 FI:=hE.FI
 lo:=fun f fn b h1 h2=>Gv.mono (E:=E.env) (E':=(E.J7 P T0).env) (fun _ _ _ _ _ _ _ h=>h) (hE.lo f fn b h1 h2)
 Fz:=hE.Fz
 GO:=hE.GO
 EY:=hE.EY
 Ec:=fun ro H f op p H' h=>by
  change Option.bind ((E.J7 P T0).Ec ro H f op) DT.run=some (p,H') at h
  unfold CY.J7 at h;dsimp only at h;split at h
  ·rename_i c;split at h
   ·rename_i hc;split at h
    ·rename_i x y hargs;split at h
     ·rename_i d hd;refine⟨?_,by
       obtain⟨i,n,len,r,h1,rfl⟩:=RP hd h;refine mE (n:=n) (len:=len) fun c' x' y' e=>?_
       rw[bg hc hargs]at e;cases e;exact h1⟩
      intro C g o ho hro hH hR hv;subst hro;subst hH;obtain⟨dst,op',type,pos,after,guard⟩:=o;simp only at ho;subst ho;have hca:c.args = #[x,y]:=by apply BD;simpa using hargs
      obtain⟨v,C',g1,g2,g3⟩:=RO hR (hv x (by simp[Op.operands,Call.operands,hc,hca])) (hv y (by simp[Op.operands,Call.operands,hc,hca])) hd h type;refine⟨_,v,C',?_,.inl rfl,g2,g3⟩;simp only[execOp,resolve,hc,hca,Sem.run_bind,Sem.run_pure,Result.andThen_ok,invoke,builtin,BM,AV,Bs,g1]
     ·exact hE.Ec ro H f _ p H' h
    ·exact hE.Ec ro H f _ p H' h
   ·exact hE.Ec ro H f _ p H' h
  ·exact hE.Ec ro H f _ p H' h
def gJ(P:Program)(T0:TypeId)(ro:Nat)(H:List Row)(c:Call)(x y:PV):Option (DT (PV×List Row)):=
 match dM P T0 ro H c x y,x with
 |some (.br b (.leaf (.sl j N k l,H1)) .no),.sl i _ 0 _=>
  match rowAt H1 i with
  |some r=>some (.br (b&&((Nat.beq j i&&Nat.beq k 0)&&(decide (ro<=i)&&(DF i (H.take i)&&((H1.drop i).all (fun r=>r.lp.isNone)&&(r.bv&&(r.es.length==N)))))))
    (.leaf (.C9 false r.t (r.es.take l),H.take i++List.replicate (H.length-i) Dt)) .no)
  |none=>none
 |_,_=>none
theorem Zd{T0:TypeId}{c:Call}{x y p:PV}{X Y:Value}{d:DT (PV×List Row)}{H':List Row}(hR:RH P C)(hx:RV P C x X)(hy:RV P C y Y)(h:gJ P T0 C.ro C.H c x y=some d)(hd:d.run=some (p,H'))(ty0:TypeId):
  ∃ v C',(Builtin.append_ c.argTypes ty0 #[X,Y]).run P C.w=.ok v C'.w/\I7 P C C' H'/\RV P C' p v:=by
 unfold gJ at h;split at h
 ·rename_i b j N k l H1 i n len hg;split at h
  ·rename_i r hr;cases h;simp only[DT.run,Cx]at hd;split at hd
   ·rename_i hc;cases hd;rw[Aa]at hc;obtain⟨hb,hc⟩:=hc;simp only[Aa,Ab,Ay]at hc;obtain⟨⟨hj,hk⟩,hro,hok,hlp,hbv,hN⟩:=hc;have hj:=Bp hj;have hk:=Bp hk;subst hj;subst hk;have hrun:(DT.br b (.leaf ((.sl j N 0 l,H1):PV×List Row)) .no).run=some (.sl j N 0 l,H1):=by rw[hb];rfl
    obtain⟨v,C1,g1,g2,g3⟩:=RO hR hx hy hg hrun ty0;obtain⟨i2,n2,len2,r2,e1,e2⟩:=RP hg hrun;cases e1;have hH1:C1.H=C.H.set j r2:=by rw[g2.H,e2]
    have hlen:C1.H.length=C.H.length:=by rw[hH1];simp
    have htk:C1.H.take j=C.H.take j:=by rw[hH1,List.take_set_of_le (Al _)]
    have hjl:j<C1.H.length:=by rw[g2.H];exact EL hr
    have hlp1:(C1.H.drop j).all (fun r=>r.lp.isNone)=true:=by rw[g2.H];exact hlp
    have hx1:=NH (C:=C1) (h:=j) (by omega) (by rw[g2.ext.ro];exact hro) hlp1;have hfz:frz C1.H j (.sl j N 0 l)=.C9 false r.t (r.es.take l):=by
     unfold frz;rw[Ak (Al _),g2.H,hr];dsimp only;rw[Ak (by simp[hbv,hN]),AF]
    refine⟨v,(C1.cut j False C1.ro).Ek (C1.H.length-j),g1,⟨?_,g2.ext.trans hx1,NG _ (g2.rh.cut (by omega) (by rw[g2.ext.ro];exact hro) (by rw[htk];exact hok))⟩,?_⟩
    ·show C1.H.take j++List.replicate (C1.H.length-j) Dt=_
     rw[htk,hlen]
    ·have h1:=g3.frz g2.rh (ro:=C1.ro) (h:=j) (by omega) (by rw[hfz];rfl);rw[hfz]at h1;exact h1.mono (Gl _ _ (by show C1.ro<=(C1.H.take j).length;rw[Az,g2.ext.ro];omega))
   ·cases hd
  ·cases h
 ·cases h
theorem gK{T0:TypeId}{ro:Nat}{H H':List Row}{c:Call}{x y p:PV}{d:DT (PV×List Row)}(h:gJ P T0 ro H c x y=some d)(hd:d.run=some (p,H')):∃ i n len,x=.sl i n 0 len/\i<H.length/\H'=H.take i++List.replicate (H.length-i) Dt:=by
 unfold gJ at h;split at h
 ·rename_i b j N k l H1 i n len hg;split at h
  ·rename_i r hr;cases h;simp only[DT.run,Cx]at hd;split at hd
   ·rename_i hc;cases hd;rw[Aa]at hc;have hrun:(DT.br b (.leaf ((.sl j N k l,H1):PV×List Row)) .no).run=some (.sl j N k l,H1):=by rw[hc.1];rfl
    obtain⟨i2,n2,len2,r2,e1,e2⟩:=RP hg hrun;have:=EL hr;rw[e2]at this;exact⟨i,n,len,rfl,by simpa using this,rfl⟩
   ·cases hd
  ·cases h
 ·cases h
def mI(P:Program)(ro:Nat)(H:List Row)(c:Call)(x y:PV):Option (DT (PV×List Row)):=
 match x with
 |.val (.slice none 0 0)=>
  match ES P ro H c (.val (.slice none 0 0)) y with
  |some (.sl j N k l,H1)=>
   match rowAt H1 j with
   |some r=>some (.br ((Nat.beq j H.length&&Nat.beq k 0)&&(DF H.length H&&(r.bv&&(r.es.length==N)))) (.leaf (.C9 false r.t (r.es.take l),H)) .no)
   |none=>none
  |_=>none
 |_=>none
theorem Ze{c:Call}{x y p:PV}{X Y:Value}{d:DT (PV×List Row)}{H':List Row}(hR:RH P C)(hx:RV P C x X)(hy:RV P C y Y)(h:mI P C.ro C.H c x y=some d)(hd:d.run=some (p,H'))(ty0:TypeId):
  H'=C.H/\∃ v C',(Builtin.append_ c.argTypes ty0 #[X,Y]).run P C.w=.ok v C'.w/\I7 P C C' H'/\RV P C' p v:=by
 unfold mI at h;split at h
 ·split at h
  ·rename_i j N k l H1 hq;split at h
   ·rename_i r hr;cases h;simp only[DT.run,Cx]at hd;split at hd
    ·rename_i hc;cases hd;simp only[Aa,Ay]at hc;obtain⟨⟨hj,hk⟩,hok,hbv,hN⟩:=hc;have hj:=Bp hj;have hk:=Bp hk;subst hj;subst hk;obtain⟨v,C1,g1,g2,g3,_⟩:=F2 hR hx hy hq ty0;have htk:C1.H.take C.H.length=C.H:=by
      rw[g2.H];rcases Pt hq with rfl |⟨q,rfl⟩ |⟨i,n,len,q,e,_⟩
      ·exact A_
      ·simp
      ·cases e
     have hle:C.H.length<=C1.H.length:=by rw[g2.H];exact Nat.le_of_lt (EL hr)
     have hfz:frz C1.H C.H.length (.sl C.H.length N 0 l)=.C9 false r.t (r.es.take l):=by
      unfold frz;rw[Ak (Al _),g2.H,hr];dsimp only;rw[Ak (by simp[hbv,hN]),AF]
     refine⟨rfl,v,C1.cut C.H.length False C1.ro,g1,⟨htk,g2.ext.cut (Al _) hle hR.ro,g2.rh.cut hle (by rw[g2.ext.ro];exact hR.ro) (by rw[htk];exact hok)⟩,?_⟩;have h1:=g3.frz g2.rh (ro:=C1.ro) (h:=C.H.length) hle (by rw[hfz];rfl);rw[hfz]at h1;exact h1
    ·cases hd
   ·cases h
  ·cases h
 ·cases h
theorem mJ{α:Type}{b:Bool}{x r:α}(h:(DT.br b (.leaf x) .no).run=some r):x=r:=by
 cases b with
 |true=>exact Ah h
 |false=>cases h
def gM(a:Nat):Operand->Bool |.tmp t=>Nat.beq t a |_=>false
def CY.J8(E:CY)(P:Program)(T0:TypeId)(a b:Nat):CY:={ E with Ec:=fun ro H f op=>
 match op with
 |.call c=>
  match c.callee with
  |.builtin .append=>match c.args.toList with | [x,y]=>(match gM a x&&gM b y with |true=>(match gJ P T0 ro H c (f x) (f y) with |some d=>some d |none=>(match mI P ro H c (f x) (f y) with |some d=>some d |none=>E.Ec ro H f op)) |false=>E.Ec ro H f op) |_=>E.Ec ro H f op
  |_=>E.Ec ro H f op
 |_=>E.Ec ro H f op }
theorem CG.J8{E:CY}(hE:CG P E.env)(T0:TypeId)(a b:Nat):CG P (E.J8 P T0 a b).env where
 H9:=hE.H9
 Hc:=hE.Hc
 FI:=hE.FI
 lo:=fun f fn bb h1 h2=>Gv.mono (E:=E.env) (E':=(E.J8 P T0 a b).env) (fun _ _ _ _ _ _ _ h=>h) (hE.lo f fn bb h1 h2)
 Fz:=hE.Fz
 GO:=hE.GO
 EY:=hE.EY
 Ec:=fun ro H f op p H' h=>by
  change Option.bind ((E.J8 P T0 a b).Ec ro H f op) DT.run=some (p,H') at h
  unfold CY.J8 at h;dsimp only at h;split at h
  ·rename_i c;split at h
   ·rename_i hc;split at h
    ·rename_i x y hargs;split at h
     rotate_left
     ·exact hE.Ec ro H f _ p H' h
     split at h
     ·rename_i d hd;refine⟨?_,by
       obtain⟨i,n,len,h1,hl,rfl⟩:=gK hd h;intro c' x' y' e;rw[bg hc hargs]at e;cases e;refine⟨by simp;omega,fun z hz hn=>?_⟩;have hdead:rowAt (H.take i++List.replicate (H.length-i) Dt) i=none:=by
        unfold rowAt;rw[Bn (by rw[Az];omega),Az,show i-min i H.length=0 by omega,BH,Ak (by omega)];rfl
       have hzi:=(hn _ _ _ _ h1).2 hdead;unfold rowAt;rw[Aw (by rw[Az];omega),Au,Ak hzi]⟩
      intro C g o ho hro hH hR hv;subst hro;subst hH;obtain⟨dst,op',type,pos,after,guard⟩:=o;simp only at ho;subst ho;have hca:c.args = #[x,y]:=by apply BD;simpa using hargs
      obtain⟨v,C',g1,g2,g3⟩:=Zd hR (hv x (by simp[Op.operands,Call.operands,hc,hca])) (hv y (by simp[Op.operands,Call.operands,hc,hca])) hd h type;refine⟨_,v,C',?_,.inl rfl,g2,g3⟩;simp only[execOp,resolve,hc,hca,Sem.run_bind,Sem.run_pure,Result.andThen_ok,invoke,builtin,BM,AV,Bs,g1]
     ·split at h
      ·rename_i d hd;have key:∀(C:Ctx) (g:Operand->Value) (o:Oper),o.op=.call c->C.ro=ro->C.H=H->RH P C->(∀ x∈(Op.call c).operands,RV P C (f x) (g x))->H'=C.H/\∃ n v C',(execOp g o).run P C.w=.ok n C'.w/\(n=.value v\/(n=.skip/\v=undef))/\I7 P C C' H'/\RV P C' p v:=by
        intro C g o ho hro hH hR hv;subst hro;subst hH;obtain⟨dst,op',type,pos,after,guard⟩:=o;simp only at ho;subst ho;have hca:c.args = #[x,y]:=by apply BD;simpa using hargs
        obtain⟨e0,v,C',g1,g2,g3⟩:=Ze hR (hv x (by simp[Op.operands,Call.operands,hc,hca])) (hv y (by simp[Op.operands,Call.operands,hc,hca])) hd h type;refine⟨e0,_,v,C',?_,.inl rfl,g2,g3⟩;simp only[execOp,resolve,hc,hca,Sem.run_bind,Sem.run_pure,Result.andThen_ok,invoke,builtin,BM,AV,Bs,g1]
       refine⟨fun C g o ho hro hH hR hv=>(key C g o ho hro hH hR hv).2,?_⟩;have hH':H'=H:=by
        unfold mI at hd;split at hd
        ·split at hd
         ·split at hd
          ·cases hd;exact(congrArg Prod.snd (mJ h)).symm
          ·cases hd
         ·cases hd
        ·cases hd
       subst hH';exact .same
      ·exact hE.Ec ro H f _ p H' h
    ·exact hE.Ec ro H f _ p H' h
   ·exact hE.Ec ro H f _ p H' h
  ·exact hE.Ec ro H f _ p H' h
def ux(P:Program)(H:List Row)(f:Operand->PV)(T:TypeId)(len:Nat)(parts:Array (Nat×Operand)):Option (DT (PV×List Row)):=
 match IW P T len (parts.toList.map fun x=>(x.1,f x.2)) with
 |some (e,es)=>some (.leaf (.sl H.length len 0 len,H++[DX P e es]))
 |none=>none
theorem Zf{f:Operand->PV}{g:Operand->Value}{o:Oper}{T:TypeId}{len:Nat}{parts:Array (Nat×Operand)}{d:DT (PV×List Row)}{p:PV}{H':List Row}(ho:o.op=.buildSlice T len parts)(hR:RH P C)(hv:∀ x∈(Op.buildSlice T len parts).operands,RV P C (f x) (g x))
  (h:ux P C.H f T len parts=some d) (hd:d.run=some (p,H')):∃ v C',(execOp g o).run P C.w=.ok (.value v) C'.w/\I7 P C C' H'/\RV P C' p v:=by
 unfold ux at h;split at h
 ·rename_i e es hq;cases h;cases hd;have hx1:=E9 hR (DX P e es);have hR1:=Hb hR (DX P e es);have hlen:(C.more (DX P e es)).H.length=C.H.length+1:=by simp[Ctx.more]
  have hrow:(C.more (DX P e es)).row? C.H.length=some (DX P e (es.map id)):=by
   show rowAt (C.H++[DX P e es]) C.H.length=some (DX P e (es.map id))
   unfold rowAt;rw[List.map_id];simp[DX]
  obtain⟨v,C',g1,g2⟩:=Pe (C:=C.more (DX P e es)) ho hR1 (by omega) (hR.GC (Al _)) hR.ro id (fun _=>rfl) (fun x j p h=>⟨p,h,fun _ _ _ h=>h⟩) hrow (fun x hx=>(hv x hx).mono hx1) hq;exact⟨v,C',g1,⟨by rw[g2.H];rfl,hx1.trans g2.ext,g2.rh⟩,g2.rv⟩
 ·cases h
def CY.MQ(E:CY)(P:Program)(a:Nat):CY:={ E with Ec:=fun ro H f op=>
 match op with
 |.buildSlice T len parts=>match parts.toList with | [(_,x)]=>(match gM a x with |true=>(match ux P H f T len parts with |some d=>some d |none=>E.Ec ro H f op) |false=>E.Ec ro H f op) |_=>E.Ec ro H f op
 |_=>E.Ec ro H f op }
theorem CG.MQ{E:CY}(hE:CG P E.env)(a:Nat):CG P (E.MQ P a).env where
 H9:=hE.H9
 Hc:=hE.Hc
 FI:=hE.FI
 lo:=fun f fn b h1 h2=>Gv.mono (E:=E.env) (E':=(E.MQ P a).env) (fun _ _ _ _ _ _ _ h=>h) (hE.lo f fn b h1 h2)
 Fz:=hE.Fz
 GO:=hE.GO
 EY:=hE.EY
 Ec:=fun ro H f op p H' h=>by
  change Option.bind ((E.MQ P a).Ec ro H f op) DT.run=some (p,H') at h
  unfold CY.MQ at h;dsimp only at h;split at h
  ·rename_i T len parts;split at h
   ·split at h
    ·split at h
     ·rename_i d hd;refine⟨?_,.pD rfl⟩;intro C g o ho hro hH hR hv;subst hro;subst hH;obtain⟨v,C',g1,g2,g3⟩:=Zf ho hR hv hd h;exact⟨_,v,C',g1,.inl rfl,g2,g3⟩
     ·exact hE.Ec ro H f _ p H' h
    ·exact hE.Ec ro H f _ p H' h
   ·exact hE.Ec ro H f _ p H' h
  ·exact hE.Ec ro H f _ p H' h
def cvQ(P:Program)(src dst:TypeId)(x:PV):Option (DT PV):=
 match P.underlying src,P.underlying dst,x with
 |some (.float _),some (.int k),.val (.float s b)=>
  some (.br (((s.decode b).toInt .zero).isSome&&(decide (k.min<=((s.decode b).toInt .zero).getD 0)&&decide (((s.decode b).toInt .zero).getD 0<=k.max))) (.leaf (.val (.int k (((s.decode b).toInt .zero).getD 0)))) .no)
 |_,_,_=>none
theorem dN{src dst:TypeId}{x p:PV}{d:DT PV}(h:cvQ P src dst x=some d)(hd:d.run=some p):V5 P src dst x=some p:=by
 unfold cvQ at h;split at h
 ·rename_i fk k s b h1 h2;cases h;simp only[DT.run,Cx]at hd;split at hd
  ·rename_i hc;cases hd;simp only[Aa,Ab,B_]at hc;obtain⟨⟨n,hn⟩,h3,h4⟩:=hc;rw[hn]at h3 h4;unfold V5;simp only[h1,h2,hn];exact Ak ⟨h3,h4⟩
  ·cases hd
 ·cases h
def CY.RQ(E:CY)(P:Program):CY:={ E with Ec:=fun ro H f op=>
 match op with
 |.convert s d x=>(match cvQ P s d (f x) with |some q=>some (q.map fun p=>(p,H)) |none=>E.Ec ro H f op)
 |_=>E.Ec ro H f op }
theorem CG.RQ{E:CY}(hE:CG P E.env):CG P (E.RQ P).env where
 H9:=hE.H9
 Hc:=hE.Hc
 FI:=hE.FI
 lo:=fun f fn b h1 h2=>Gv.mono (E:=E.env) (E':=(E.RQ P).env) (fun _ _ _ _ _ _ _ h=>h) (hE.lo f fn b h1 h2)
 Fz:=hE.Fz
 GO:=hE.GO
 EY:=hE.EY
 Ec:=fun ro H f op p H' h=>by
  change Option.bind ((E.RQ P).Ec ro H f op) DT.run=some (p,H') at h
  unfold CY.RQ at h;dsimp only at h;split at h
  ·rename_i s d x;split at h
   ·rename_i q hq;obtain⟨p0,h1,h2⟩:=DT.run_map h;cases h2;refine⟨?_,.pD rfl⟩;intro C g o ho hro hH hR hv;subst hro;subst hH;obtain⟨dst,op',type,pos,after,guard⟩:=o;simp only at ho;subst ho;obtain⟨v,g1,rfl⟩:=Pa (hv x (by simp[Op.operands])) (dN hq h1) C.w;exact⟨_,v,C,by simp only[execOp,Sem.run_bind,g1,Result.andThen_ok,Sem.run_pure],.inl rfl,⟨rfl,.refl C,hR⟩,.val⟩
   ·exact hE.Ec ro H f _ p H' h
  ·exact hE.Ec ro H f _ p H' h
end Go.Hx


namespace Go.Hx
open Go.MapKept
def CY.J9(E:CY)(f:FuncId)(id:Nat):CY:={ E with soft:=fun g i=>bif g==f&&i==id then true else E.soft g i }
theorem CG.J9{P:Program}{E:CY}(hE:CG P E.env)(f:FuncId)(id:Nat):CG P (E.J9 f id).env where
 H9:=hE.H9
 Hc:=hE.Hc
 FI:=hE.FI
 lo:=fun g fn b h1 h2=>Gv.mono (E:=E.env) (E':=(E.J9 f id).env) (fun _ _ _ _ _ _ _ h=>h) (hE.lo g fn b h1 h2)
 Fz:=hE.Fz
 Ec:=hE.Ec
 GO:=hE.GO
 EY:=hE.EY
end Go.Hx
namespace Go.Hx
variable{P:Program}
inductive L1 where
 |i (n:Int) |b (b:Bool) |n (n:Nat) |l (f:Bool) (es:List PV) |s (s:ByteArray) |p (p:PV) |r (r:Row) |m (D:List (PV×PV))
inductive X1 where
 |any |int (k:IntKind) |bool |C9 (t:TypeId) |str |ptr (i n k j:Nat) |sl (i:Nat) |slo (i:Nat) |nil |pv |Ih (i:Nat) |agg (cs:List X1) |fn (f:FuncId) (first cap:List X1) |mp (i:Nat)
abbrev Dk:X1:=.int .i64
mutual
def X1.get:X1->PV->Option (List L1)
 |.any,.any=>some []
 |.int k,.val (.int k' n)=>if k==k' then some [.i n] else none
 |.bool,.val (.bool v)=>some [.b v]
 |.C9 t,.C9 f t' es=>if t==t' then some [.l f es] else none
 |.str,.val (.string s)=>some [.s s]
 |.ptr i n k j,.ptr i' n' k' j'=>if i==i'&&n==n'&&k==k'&&j==j' then some [] else none
 |.sl i,.sl i' n k l=>if i==i'&&k==0 then some [.n n,.n l] else none
 |.slo i,.sl i' n k l=>if i==i' then some [.n n,.n k,.n l] else none
 |.nil,.val (.slice none 0 0)=>some []
 |.pv,p=>some [.p p]
 |.Ih i,.Ih i'=>if i==i' then some [] else none
 |.agg cs,.agg ps=>X1.MR cs ps
 |.mp i,.mp i'=>if i==i' then some [] else none
 |.fn f a b,.fn (.func f') ags bs=>if f==f' then (match X1.MR a ags,X1.MR b bs with |some x,some y=>some (x++y) |_,_=>none) else none
 |_,_=>none
def X1.MR:List X1->List PV->Option (List L1)
 | [],[]=>some []
 |c::cs,p::ps=>match X1.get c p,X1.MR cs ps with |some x,some xs=>some (x++xs) |_,_=>none
 |_,_=>none
end
mutual
def X1.len:X1->Nat
 |.any=>0 |.int _=>1 |.bool=>1 |.C9 _=>1 |.str=>1 |.ptr _ _ _ _=>0 |.sl _=>2 |.slo _=>3 |.nil=>0 |.pv=>1 |.Ih _=>0 |.mp _=>0 |.agg cs=>X1.lens cs |.fn _ a b=>X1.lens a+X1.lens b
def X1.lens:List X1->Nat
 | []=>0 |c::cs=>c.len+X1.lens cs
end
mutual
def X1.put:X1->List L1->PV
 |.any,_=>.any
 |.int k,[.i n]=>.val (.int k n)
 |.bool,[.b v]=>.val (.bool v)
 |.C9 t,[.l f es]=>.C9 f t es
 |.str,[.s s]=>.val (.string s)
 |.ptr i n k j,_=>.ptr i n k j
 |.sl i,[.n n,.n l]=>.sl i n 0 l
 |.slo i,[.n n,.n k,.n l]=>.sl i n k l
 |.nil,_=>.val (.slice none 0 0)
 |.pv,[.p p]=>p
 |.Ih i,_=>.Ih i
 |.mp i,_=>.mp i
 |.agg cs,xs=>.agg (X1.puts cs xs)
 |.fn f a b,xs=>.fn (.func f) (X1.puts a (xs.take (X1.lens a))) (X1.puts b (xs.drop (X1.lens a)))
 |_,_=>.any
def X1.puts:List X1->List L1->List PV
 | [],_=>[]
 |c::cs,xs=>X1.put c (xs.take c.len)::X1.puts cs (xs.drop c.len)
end
def X1.yO:X1->Bool |.agg _=>false |.fn _ _ _=>false |_=>true
theorem X1.Fv{c:X1}{p:PV}{x:List L1}(hc:c.yO=true)(h:c.get p=some x):p=c.put x/\x.length=c.len:=by
 unfold X1.get at h;split at h
 ·cases h;exact⟨rfl,rfl⟩
 ·split at h
  ·rename_i hk;cases h;rw[Ay]at hk;subst hk;exact⟨rfl,rfl⟩
  ·cases h
 ·cases h;exact⟨rfl,rfl⟩
 ·split at h
  ·rename_i hk;cases h;rw[Ay]at hk;subst hk;exact⟨rfl,rfl⟩
  ·cases h
 ·cases h;exact⟨rfl,rfl⟩
 ·split at h
  ·rename_i hk;cases h;simp only[Aa,Ay]at hk;obtain⟨⟨⟨rfl,rfl⟩,rfl⟩,rfl⟩:=hk;exact⟨rfl,rfl⟩
  ·cases h
 ·split at h
  ·rename_i hk;cases h;simp only[Aa,Ay]at hk;obtain⟨rfl,rfl⟩:=hk;exact⟨rfl,rfl⟩
  ·cases h
 ·split at h
  ·rename_i hk;cases h;rw[Ay]at hk;subst hk;exact⟨rfl,rfl⟩
  ·cases h
 ·cases h;exact⟨rfl,rfl⟩
 ·cases h;exact⟨rfl,rfl⟩
 ·split at h
  ·rename_i hk;cases h;rw[Ay]at hk;subst hk;exact⟨rfl,rfl⟩
  ·cases h
 ·cases hc
 ·split at h
  ·rename_i hk;cases h;rw[Ay]at hk;subst hk;exact⟨rfl,rfl⟩
  ·cases h
 ·cases hc
 ·cases h
mutual
theorem X1.FG:∀(c:X1) {p:PV} {x:List L1},c.get p=some x->p=c.put x/\x.length=c.len
 |.agg cs,p,x,h=>by
  cases p with
  |agg ps=>
   simp only[X1.get]at h;obtain⟨h1,h2⟩:=X1.G2 cs h;exact⟨by simp only[X1.put];rw[<- h1],h2⟩
  |_=>simp[X1.get]at h
 |.fn f a b,p,x,h=>by
  cases p with
  |fn g ags bs=>
   cases g with
   |func k=>
    simp only[X1.get]at h;split at h
    ·rename_i hf;split at h
     ·rename_i x1 y1 hx hy;cases h;obtain⟨h1,h2⟩:=X1.G2 a hx;obtain⟨h3,h4⟩:=X1.G2 b hy;rw[Ay]at hf;subst hf;refine⟨?_,by simp only[X1.len,Ap,h2,h4]⟩;simp only[X1.put];rw[<- h2,C4,CC,<- h1,<- h3]
     ·cases h
    ·cases h
   |_=>simp[X1.get]at h
  |_=>simp[X1.get]at h
 |.any,_,_,h=>X1.Fv rfl h
 |.int _,_,_,h=>X1.Fv rfl h
 |.bool,_,_,h=>X1.Fv rfl h
 |.C9 _,_,_,h=>X1.Fv rfl h
 |.str,_,_,h=>X1.Fv rfl h
 |.ptr _ _ _ _,_,_,h=>X1.Fv rfl h
 |.sl _,_,_,h=>X1.Fv rfl h
 |.slo _,_,_,h=>X1.Fv rfl h
 |.nil,_,_,h=>X1.Fv rfl h
 |.pv,_,_,h=>X1.Fv rfl h
 |.Ih _,_,_,h=>X1.Fv rfl h
 |.mp _,_,_,h=>X1.Fv rfl h
theorem X1.G2:∀(cs:List X1) {ps:List PV} {x:List L1},X1.MR cs ps=some x->ps=X1.puts cs x/\x.length=X1.lens cs
 | [],ps,x,h=>by cases ps <;> simp[X1.MR]at h;subst h;exact⟨rfl,rfl⟩
 |c::cs,[],x,h=>by simp[X1.MR]at h
 |c::cs,p::ps,x,h=>by
  simp only[X1.MR]at h;split at h
  ·rename_i a b h1 h2;cases h;obtain⟨e1,e2⟩:=X1.FG c h1;obtain⟨e3,e4⟩:=X1.G2 cs h2;refine⟨?_,by simp only[X1.lens,Ap,e2,e4]⟩;simp only[X1.puts];rw[<- e2,C4,CC,<- e1,<- e3]
  ·cases h
end
inductive Y1 where
 |one (t s:Nat) (h:X1) |many (t s:Nat) |raw |GJ (t s:Nat) (h:X1) |dead |map (K E:TypeId) |Gy (K E:TypeId) |aq (m:Nat) |its (m:Nat)
def Y1.get:Y1->Row->Option (List L1)
 |.one t s h,r=>if J0 r t s && !r.nl then (match r.es with | [e]=>h.get e |_=>none) else none
 |.many t s,r=>if J0 r t s then some [.l r.nl r.es] else none
 |.raw,r=>some [.r r]
 |.GJ t s h,r=>if J0 { r with bv:=true } t s && !r.nl && !r.bv then (match r.es with | [e]=>h.get e |_=>none) else none
 |.dead,r=>match r with |⟨[],0,0,true,false,false,none,false⟩=>some [] |_=>none
 |.map K E,r=>match r with |⟨[],0,0,true,false,false,some ⟨⟨0,[],⟨[]⟩,.skip,.skip⟩,.map K' E' D⟩,false⟩=>if K==K'&&E==E' then some [.m D] else none |_=>none
 |.Gy K E,r=>match r with |⟨[],0,0,true,false,false,some ⟨⟨0,[],⟨[]⟩,.skip,.skip⟩,.Gy K' E' D⟩,false⟩=>if K==K'&&E==E' then some [.m D] else none |_=>none
 |.aq m,r=>match r with |⟨[],0,0,true,false,false,some ⟨⟨0,[.mp m'],⟨[]⟩,.skip,.skip⟩,.iter (.fresh n)⟩,false⟩=>if m==m' then some [.n n] else none |_=>none
 |.its m,r=>match r with |⟨[],0,0,true,false,false,some ⟨⟨0,[.mp m'],⟨[]⟩,.skip,.skip⟩,.iter .some⟩,false⟩=>if m==m' then some [] else none |_=>none
def Y1.len:Y1->Nat |.one _ _ h=>h.len |.many _ _=>1 |.raw=>1 |.GJ _ _ h=>h.len |.dead=>0 |.map _ _=>1 |.Gy _ _=>1 |.aq _=>1 |.its _=>0
def Y1.put:Y1->List L1->Row
 |.one t s h,xs=>{ es:=[h.put xs],s,t,bv:=true }
 |.many t s,[.l nl es]=>{ es,s,t,bv:=true,nl }
 |.raw,[.r r]=>r
 |.GJ t s h,xs=>{ es:=[h.put xs],s,t,bv:=false }
 |.dead,_=>Dt
 |.map K E,[.m D]=>{ es:=[],s:=0,t:=0,bv:=true,live:=false,lp:=some ⟨⟨0,[],#[],.skip,.skip⟩,.map K E D⟩ }
 |.Gy K E,[.m D]=>{ es:=[],s:=0,t:=0,bv:=true,live:=false,lp:=some ⟨⟨0,[],#[],.skip,.skip⟩,.Gy K E D⟩ }
 |.aq m,[.n n]=>{ es:=[],s:=0,t:=0,bv:=true,live:=false,lp:=some ⟨⟨0,[.mp m],#[],.skip,.skip⟩,.iter (.fresh n)⟩ }
 |.its m,_=>{ es:=[],s:=0,t:=0,bv:=true,live:=false,lp:=some ⟨⟨0,[.mp m],#[],.skip,.skip⟩,.iter .some⟩ }
 |_,_=>default
theorem Y1.FG{c:Y1}{p:Row}{x:List L1}(h:c.get p=some x):p=c.put x/\x.length=c.len:=by
 cases c with
 |one t s sh=>
  simp only[Y1.get]at h;split at h
  ·rename_i hb;split at h
   ·rename_i e he;simp only[Aa,Am]at hb;obtain⟨h1,h2⟩:=X1.FG sh h;refine⟨?_,h2⟩;rw[MO hb.1,he,hb.2];simp only[Y1.put,<- h1]
   ·cases h
  ·cases h
 |many t s=>
  simp only[Y1.get]at h;split at h
  ·rename_i hb;cases h;exact⟨MO hb,rfl⟩
  ·cases h
 |raw=>simp only[Y1.get]at h;cases h;exact⟨rfl,rfl⟩
 |GJ t s sh=>
  simp only[Y1.get]at h;split at h
  ·rename_i hb;split at h
   ·rename_i e he;simp only[Aa,Am]at hb;obtain⟨h1,h2⟩:=X1.FG sh h;refine⟨?_,h2⟩;have h3:=MO hb.1.1;have h4:p={ ({ p with bv:=true }:Row) with bv:=false }:=by
     cases p;simp only at hb;simp only[hb.2]
    rw[h4,h3];simp only[he,hb.1.2,Y1.put,<- h1]
   ·cases h
  ·cases h
 |dead=>
  simp only[Y1.get]at h;split at h
  ·cases h;exact⟨rfl,rfl⟩
  ·cases h
 |map K E=>
  simp only[Y1.get]at h;split at h
  ·split at h
   ·rename_i hk;simp only[Aa,Ay]at hk;obtain⟨rfl,rfl⟩:=hk;cases h;exact⟨rfl,rfl⟩
   ·cases h
  ·cases h
 |Gy K E=>
  simp only[Y1.get]at h;split at h
  ·split at h
   ·rename_i hk;simp only[Aa,Ay]at hk;obtain⟨rfl,rfl⟩:=hk;cases h;exact⟨rfl,rfl⟩
   ·cases h
  ·cases h
 |aq m=>
  simp only[Y1.get]at h;split at h
  ·split at h
   ·rename_i hk;rw[Ay]at hk;subst hk;cases h;exact⟨rfl,rfl⟩
   ·cases h
  ·cases h
 |its m=>
  simp only[Y1.get]at h;split at h
  ·split at h
   ·rename_i hk;rw[Ay]at hk;subst hk;cases h;exact⟨rfl,rfl⟩
   ·cases h
  ·cases h
def Y1.MR:List Y1->List Row->Option (List L1)
 | [],[]=>some []
 |c::cs,p::ps=>match c.get p,Y1.MR cs ps with |some x,some xs=>some (x++xs) |_,_=>none
 |_,_=>none
def Y1.puts:List Y1->List L1->List Row
 | [],_=>[]
 |c::cs,xs=>Y1.put c (xs.take c.len)::Y1.puts cs (xs.drop c.len)
theorem Y1.G2:∀{cs:List Y1} {ps:List Row} {x:List L1},Y1.MR cs ps=some x->ps=Y1.puts cs x
 | [],[],x,h=>rfl
 | [],_::_,x,h=>by simp[Y1.MR]at h
 |_::_,[],x,h=>by simp[Y1.MR]at h
 |c::cs,p::ps,x,h=>by
  simp only[Y1.MR]at h;split at h
  ·rename_i a b h1 h2;cases h;obtain⟨e1,e2⟩:=Y1.FG h1;simp only[Y1.puts];rw[<- e2,C4,CC,<- e1,<- Y1.G2 h2]
  ·cases h
def xx(shs:List (Nat×X1)):Nat->Nat->List PV->Option (List L1)
 |0,_,[]=>some []
 |n+1,x,p::S=>match ((shs.lookup x).getD .any).get p,xx shs n (x+1) S with |some a,some b=>some (a++b) |_,_=>none
 |_,_,_=>none
def slP(shs:List (Nat×X1)):Nat->Nat->List L1->List PV
 |0,_,_=>[]
 |n+1,x,xs=>((shs.lookup x).getD .any).put (xs.take ((shs.lookup x).getD .any).len)::slP shs n (x+1) (xs.drop ((shs.lookup x).getD .any).len)
theorem pI{shs:List (Nat×X1)}:∀{n x:Nat} {S:List PV} {xs:List L1},xx shs n x S=some xs->S=slP shs n x xs
 |0,_,[],_,_=>rfl
 |0,_,_::_,_,h=>by simp[xx]at h
 |_+1,_,[],_,h=>by simp[xx]at h
 |n+1,x,p::S,xs,h=>by
  simp only[xx]at h;split at h
  ·rename_i a b h1 h2;cases h;obtain⟨e1,e2⟩:=X1.FG _ h1;simp only[slP];rw[<- e2,C4,CC,<- e1,<- pI h2]
  ·cases h
abbrev LS:=List L1×List L1
structure S1 where
 n:Nat
 S:List (Nat×X1)
 H:List Y1
def S1.get(s:S1)(S:List PV)(H:List Row):Option LS:=match xx s.S s.n 0 S,Y1.MR s.H H with |some a,some b=>some (a,b) |_,_=>none
def S1.put(s:S1)(x:LS):List PV×List Row:=(slP s.S s.n 0 x.1,Y1.puts s.H x.2)
theorem S1.FG{s:S1}:∀ S H x,s.get S H=some x->S=(s.put x).1/\H=(s.put x).2:=by
 intro S H x h;unfold S1.get at h;split at h
 ·rename_i a b h1 h2;cases h;exact⟨pI h1,Y1.G2 h2⟩
 ·cases h
def CY.Lh (E : CY) (k : FuncId) (i : Nat) (l : List Tmp) (c : Nat → List PV → List Row → Option (DT (PX × List PV × List Row))) : CY :=
  { E with live := fun f j => if f = k then (if j = i then some l else E.live f j) else E.live f j
           lo := fun f ro j S H => if f = k then (if j = i then (match c ro S H with | some d => some d | none => E.lo f ro j S H) else E.lo f ro j S H) else E.lo f ro j S H }
theorem CG.Lh{E:CY}(hE:CG P E.env){k i:Nat}{l:List Tmp}{c:Nat->List PV->List Row->Option (DT (PX×List PV×List Row))}{fn:Func}{body b0:Code}(hf:P.funcs[k]? = some fn)(hb:fn.body=some body)
  (h0:(loops body).filter (fun b=>Ew b==i)=[b0]) (hc:EB P k (.loop b0)->∀ ro S H d x S' H',c ro S H=some d->d.run=some (x,S',H')->ET P (.loop b0) ro S H x S' H'):CG P (E.Lh k i l c).env where
 Fz:=hE.Fz
 Ec:=hE.Ec
 GO:=hE.GO
 EY:=hE.EY
 H9:=hE.H9
 Hc:=hE.Hc
 FI:=hE.FI
 lo:=fun f fn' b' h1 h2=>by
  refine Gv.of fun b hm hs ro S H x S' H' g=>?_
  change ((if f=k then (if Ew b=i then (match c ro S H with |some d=>some d |none=>E.lo f ro (Ew b) S H) else E.lo f ro (Ew b) S H) else E.lo f ro (Ew b) S H)).bind DT.run=some (x,S',H') at g
  have Pd:(E.lo f ro (Ew b) S H).bind DT.run=some (x,S',H')->ET P (.loop b) ro S H x S' H':=fun g=>(Gv.sub (P:=P) (E:=E.env) hs (hE.lo f fn' b' h1 h2)).1 ro S H x S' H' g
  split at g
  ·rename_i e;subst e;split at g
   ·rename_i e2;split at g
    ·rename_i d hd;rw[hf]at h1;cases h1;rw[hb]at h2;cases h2;have hb0:b=b0:=by
      have:b∈(loops body).filter (fun b=>Ew b==i):=Bj.2 ⟨hm,by simp[e2]⟩;rw[h0]at this;simpa using this
     subst hb0;exact hc ⟨fn,body,hf,hb,hs⟩ ro S H d x S' H' hd g
    ·exact Pd g
   ·exact Pd g
  ·exact Pd g
def CY.Dl(E:CY)(k i:Nat)(l:List Tmp)(sel:List Bool)(sh:S1)(pre:LS->Bool)(fin:LS->DT (PX×List PV×List Row)):CY:=E.Lh k i l (J2 sel sh.get pre fin)
theorem CG.Dl{E:CY}(hE:CG P E.env){n:Nat}{k i:Nat}{fn:Func}{body b:Code}(hf:P.funcs[k]? = some fn)(hb:fn.body=some body)(h0:(loops body).filter (fun b=>Ew b==i)=[b])
  (l l':List Tmp) (sel:List Bool) (sh:S1) {pre:LS->Bool} (m:LS->Nat) {fin:LS->DT (PX×List PV×List Row)}
  (hstep:∀ s r,pre s=true->(fin s).run=some r->r.1≠.normal/\(Db P E n k b l l' (sh.put s).1 (sh.put s).2=some r \/
   ∃ s',Db P E n k b l l' (sh.put s).1 (sh.put s).2=some (.normal,sh.put s')/\pre s'=true/\m s'<m s/\(fin s').run=some r)):
  CG P (E.Dl k i l sel sh pre fin).env:=
 hE.Lh hf hb h0 fun hs ro S H d x S' H'=>aT hE l l' sh.put S1.FG m hstep hs ro S H d x S' H'
def CY.RR(E:CY)(k i:Nat)(l:List Tmp):CY:={ E with live:=fun f j=>if f=k then (if j=i then some l else E.live f j) else E.live f j }
theorem CG.RR{E:CY}(hE:CG P E.env)(k i:Nat)(l:List Tmp):CG P (E.RR k i l).env where
 Fz:=hE.Fz
 Ec:=hE.Ec
 GO:=hE.GO
 EY:=hE.EY
 H9:=hE.H9
 Hc:=hE.Hc
 FI:=hE.FI
 lo:=fun f fn b h1 h2=>Gv.mono (E:=E.env) (E':=(E.RR k i l).env) (fun _ _ _ _ _ _ _ g=>g) (hE.lo f fn b h1 h2)
def ln:Code->List (Array Tmp×Code×Code)
 |.seq a b=>ln a++ln b
 |.cond _ x y=>ln x++ln y
 |.block _ b=>ln b
 |.loop b=>ln b
 |.scope b=>ln b
 |.rangeFunc _ ps a b=>(ps,a,b)::(ln a++ln b)
 |_=>[]
def rfb(fn:Func)(i:Nat):Array Tmp×Code×Code:=((ln (DY fn)).filter fun x=>Ew x.2.1==i).headD (#[],.skip,.skip)
def afe(f:FuncId)(fn:Func)(i:Nat)(S:List PV)(st:aj):Row:={ es:=[],s:=0,t:=0,bv:=true,live:=false,lp:=some ⟨⟨f,S,(rfb fn i).1,(rfb fn i).2.1,(rfb fn i).2.2⟩,st⟩ }
def same{α:Type}(a b:α):Bool:=@decide (a=b) (Classical.propDecidable _)
theorem RT{α:Type}{a b:α}:same a b=true ↔ a=b:=by unfold same;exact @B5 _ (Classical.propDecidable _)
theorem aff{n:Nat}{f:FuncId}{b:Code}(l l':List Tmp){σ:Type}{sel:List Bool}(emb:σ->List PV×List Row){get:List PV->List Row->Option σ}
  (hget:∀ S H s,get S H=some s->S=(emb s).1/\H=(emb s).2) {pre:σ->Bool} (m:σ->Nat) {fin:σ->DT (PX×List PV×List Row)}
  (hstep:∀ s r,pre s=true->(fin s).run=some r->r.1≠.normal/\∃ E:CY,CG P E.env/\(Db P E n f b l l' (emb s).1 (emb s).2=some r \/
   ∃ s',Db P E n f b l l' (emb s).1 (emb s).2=some (.normal,emb s')/\pre s'=true/\m s'<m s/\(fin s').run=some r)):
  EB P f (.loop b)->∀(ro:Nat) (S:List PV) (H:List Row) (d:DT (PX×List PV×List Row)) (x:PX) (S':List PV) (H':List Row),J2 sel get pre fin ro S H=some d->d.run=some (x,S',H')->ET P (.loop b) ro S H x S' H':=by
 intro hsub ro S H d x S' H' hc hd;cases ro with
 |succ ro=>cases hc
 |zero=>
 change (match get S (LX sel H) with |some s=>some (DT.br (pre s) (fin s) DT.no) |none=>none)=some d at hc
 split at hc
 ·rename_i s hs;obtain rfl:=Ah hc;obtain⟨e1,e2⟩:=hget _ _ _ hs;have hp:pre s=true/\(fin s).run=some (x,S',H'):=by
   change (match pre s with |true=>(fin s).run |false=>DT.no.run)=_ at hd
   cases hq:pre s with
   |true=>rw[hq]at hd;exact⟨rfl,hd⟩
   |false=>rw[hq]at hd;cases hd
  obtain⟨hp,hr⟩:=hp;clear hc hd hs;have hbody:=hsub.sub (.loop .here);refine OC sel ?_;rw[e2,e1];clear e1 e2;have hx:=(hstep s _ hp hr).1;refine Y7.loop hx ?_;generalize hm:m s=k;induction k using Nat.strongRecOn generalizing s with
  |_ k ih=>
   obtain⟨E,hE,h⟩:=(hstep s _ hp hr).2;rcases h with h1 |⟨s',h1,h2,h3,h4⟩
   ·exact .stop (J1 hE hbody h1)
   ·exact .go (J1 hE hbody h1) (ih (m s') (by omega) s' h2 h4 rfl)
 ·cases hc
theorem Xb{σ:Type}{sel:List Bool}{get:List PV->List Row->Option σ}{pre:σ->Bool}{fin:σ->DT (PX×List PV×List Row)}{ro:Nat}{S:List PV}{H:List Row}{d:DT (PX×List PV×List Row)}{r:PX×List PV×List Row}
  (hc:J2 sel get pre fin ro S H=some d) (hd:d.run=some r):ro=0/\∃ s,get S (LX sel H)=some s/\pre s=true/\(fin s).run=some r:=by
 cases ro with
 |succ ro=>cases hc
 |zero=>
 change (match get S (LX sel H) with |some s=>some (DT.br (pre s) (fin s) DT.no) |none=>none)=some d at hc
 split at hc
 ·rename_i s hs;obtain rfl:=Ah hc;refine⟨rfl,s,hs,?_⟩;change (match pre s with |true=>(fin s).run |false=>DT.no.run)=_ at hd
  cases hq:pre s with
  |true=>rw[hq]at hd;exact⟨rfl,hd⟩
  |false=>rw[hq]at hd;cases hd
 ·cases hc
theorem RU{C:Ctx}(hR:RH P C){row:Row}{info:FD}{o:Obj}(h1:row.live=false)(h2:row.lp=some info)
  (hB:∀ C':Ctx,Ext C C'->C'.w.heap[C.w.heap.size]? = some o->FJ P C' C.w.heap.size info):
  Ext C ((C.more row).bind C.H.length o)/\RH P ((C.more row).bind C.H.length o)/\RV P ((C.more row).bind C.H.length o) (.mp C.H.length) (fg info.k C.w.heap.size):=by
 have hx1:=E9 hR row;have hR1:=Hb hR row;have hn:(C.more row).ρ C.H.length=none:=hR.GC (Al _);have hx2:=Ctx.Gz (C:=C.more row) hn hR.ro o;have hrow:(C.H++[row])[C.H.length]? = some row:=by simp
 refine⟨hx1.trans hx2,⟨fun x y b hx hy=>?_,fun x b hx=>?_,fun x b r' g1 g2=>?_,hR1.ro,fun x b hx=>?_,fun b hb=>AA (hR1.Kq b hb) hx2.size,fun x b r' info' g1 g2 g3 g4=>?_,hR1.LQ.mono hx2⟩,?_⟩
 ·simp only[Ctx.bind]at hx hy;split at hx <;> split at hy
  ·omega
  ·cases hx;have:=hR1.lt hy;exact absurd this (by simp[Ctx.more])
  ·cases hy;have:=hR1.lt hx;exact absurd this (by simp[Ctx.more])
  ·exact hR1.inj x y b hx hy
 ·simp only[Ctx.bind]at hx;split at hx
  ·rename_i e;subst e;exact .inr ⟨_,_,hrow,h2,h1⟩
  ·exact hR1.Ly x b hx
 ·simp only[Ctx.bind]at g1;split at g1
  ·rename_i e;subst e;have:(C.more row).row? C.H.length=none:=by unfold Ctx.row? rowAt;rw[show(C.more row).H[C.H.length]? = _ from hrow];simp[h1]
   rw[show(C.more row).row? C.H.length=some r' from g2]at this;cases this
  ·have hb:=hR1.GP x b r' g1 g2;exact hb.mono hx2 (AY C.w _ hb.lt)
 ·simp only[Ctx.bind]at hx ⊢;split at hx
  ·cases hx;exact fun hf=>Di _ (hR.Kq _ hf)
  ·exact hR1.IU x b hx
 ·simp only[Ctx.bind]at g1;split at g1
  ·rename_i e;subst e;cases g1;have g2':(C.H++[row])[C.H.length]? = some r':=g2;rw[hrow]at g2';cases g2';rw[h2]at g3;cases g3;exact hB _ (hx1.trans hx2) (heap_alloc_new C.w _)
  ·have hL:=hR1.Ii x b r' info' g1 g2 g3 g4;exact hL.mono hx2 (AY C.w _ hL.lt)
 ·exact .mp (Ad.1 hrow).1 ⟨_,_,hrow,h2,h1,rfl⟩ (by simp[Ctx.bind];rfl)
theorem RW{C:Ctx}(hR:RH P C){i b:Nat}{r:Row}{info:FD}{st:aj}{o:Obj}{W:World}(g1:C.H[i]? = some r)(g2:r.lp=some info)(g3:r.live=false)(hρ:C.ρ i=some b)(hro:C.ro<=i)(hes:C.w.heap[b]? = some o)(ho:KJ o=true)
  (w1:W.os=C.w.os) (w2:W.tape=C.w.tape) (w3:W.output=C.w.output) (w4:W.heap.size=C.w.heap.size) (w5:∀ x,x≠b->W.heap[x]? = C.w.heap[x]?)
  (hm:∀ C':Ctx,Ext C C'->C'.w=W->FJ P C' b ⟨info.k,st⟩):I7 P C { C with H:=C.H.set i { r with lp:=some ⟨info.k,st⟩ },w:=W } (C.H.set i { r with lp:=some ⟨info.k,st⟩ }):=by
 have hi:i<C.H.length:=(Ad.1 g1).1;have hrowi:C.row? i=none:=by unfold Ctx.row? rowAt;rw[g1];simp[g3]
 have hrow:∀ x,rowAt (C.H.set i { r with lp:=some ⟨info.k,st⟩ }) x=C.row? x:=by
  intro x;unfold rowAt;rw[Ax];by_cases hx:i=x
  ·subst hx;simp only[BV,hi,g3,A4,Cd,hrowi]
  ·rw[Aq hx];rfl
 have hx:Ext C { C with H:=C.H.set i { r with lp:=some ⟨info.k,st⟩ },w:=W }:=by
  refine⟨w1,w2,w3,by rw[show({ C with H:=C.H.set i { r with lp:=some ⟨info.k,st⟩ },w:=W }:Ctx).w=W from rfl,w4];exact Al _,fun x hx ho'=>w5 x (fun e=>ho' ⟨i,hro,e▸hρ⟩),fun x c e fr hh=>?_,by simp,fun x r' _ hr=>⟨r',by rw[<- hr];exact(hrow x).symm,rfl,rfl,Al _,fun _=>⟨rfl,fun _ h=>h⟩⟩,fun _ h=>.inl h,fun _ h=>.inl h,rfl,rfl,fun x hx=>⟨?_,rfl⟩,fun x q info' q1 q2 q3=>⟨?_,fun _ h=>h⟩,fun x rc hh=>?_⟩
  ·have hne:x≠b:=fun e=>by subst e;rw[hes]at hh;cases hh;cases ho
   exact⟨c,fr,by rw[<- hh];exact w5 x hne,rfl⟩
  ·show(C.H.set i _)[x]? = _
   rw[Ax,Aq (by omega)]
  ·show ∃ r' st',(C.H.set i _)[x]? = some r'/\_
   by_cases hxi:i=x
   ·subst hxi;rw[g1]at q1;cases q1;rw[g2]at q2;cases q2;exact⟨{ r with lp:=some ⟨info.k,st⟩ },st,by rw[Ax,Ak rfl,Ak hi],rfl,g3⟩
   ·exact⟨q,info'.st,by rw[Ax,Aq hxi];exact q1,q2,q3⟩
  ·have hne:x≠b:=fun e=>by subst e;rw[hes]at hh;cases hh;cases ho
   exact⟨rc,by rw[<- hh];exact w5 x hne⟩
 refine⟨rfl,hx,hR.inj,fun x c hx'=>?_,fun x c q q1 q2=>?_,by simpa using hR.ro,hR.IU,fun x hx'=>by rw[show({ C with H:=C.H.set i { r with lp:=some ⟨info.k,st⟩ },w:=W }:Ctx).w=W from rfl,w4];exact hR.Kq x hx',fun x c q info' q1 q2 q3 q4=>?_,hR.LQ.mono hx⟩
 ·rcases hR.Ly x c hx' with ⟨q,hq⟩ |⟨q,info',q1,q2,q3⟩
  ·exact .inl ⟨q,by rw[<- hq];exact hrow x⟩
  ·obtain⟨⟨q',st',z1,z2,z3⟩,_⟩:=hx.lp x q info' q1 q2 q3;exact .inr ⟨q',_,z1,z2,z3⟩
 ·have q2':C.row? x=some q:=by rw[<- q2];exact(hrow x).symm
  have hB:=hR.GP x c q q1 q2';have hne:c≠b:=fun e=>by
   subst e;obtain⟨cc,fr,cv,hh,_⟩:=hB.mem;rw[hes]at hh;cases hh;cases ho
  exact hB.mono hx (w5 c hne)
 ·have hq2:(C.H.set i { r with lp:=some ⟨info.k,st⟩ })[x]? = some q:=q2;rw[Ax]at hq2;by_cases hxi:i=x
  ·subst hxi;rw[Ak rfl,Ak hi]at hq2;cases hq2;cases q3;have hcb:c=b:=Ah ((show C.ρ i=some c from q1).symm.trans hρ);subst hcb;exact hm _ hx rfl
  ·rw[Aq hxi]at hq2;have hL:=hR.Ii x c q info' q1 hq2 q3 q4;have hne:c≠b:=fun e=>hxi (hR.inj i x b hρ (e▸q1))
   exact hL.mono hx (w5 c hne)
theorem mK{C:Ctx}{p:PV}{v:Value}(h:RV P C p v):FV P C [p] #[v]:=by
 refine⟨rfl,fun j q u h1 h2=>?_⟩
 match j with
 |0=>simp at h1 h2;subst h1;subst h2;exact h
 |j+1=>simp at h1
def RX(p:PV):Gf:=⟨0,[p],#[],.skip,.skip⟩
def Dz(p:PV)(s:lQ):Row:={ es:=[],s:=0,t:=0,bv:=true,live:=false,lp:=some ⟨RX p,.iter s⟩ }
def MS(H:List Row)(i:Nat):Option (Gf×TypeId×TypeId×List (PV×PV)):=
 match H[i]? with
 |some r=>match r.live,r.lp with |false,some ⟨k,.Gy K E D⟩=>(match k.S0 with | []=>some (k,K,E,D) |_=>none) |_,_=>none
 |none=>none
theorem Xc{H:List Row}{i:Nat}{k:Gf}{K E:TypeId}{D:List (PV×PV)}(h:MS H i=some (k,K,E,D)):k.S0=[]/\∃ r,H[i]? = some r/\r.live=false/\r.lp=some ⟨k,.Gy K E D⟩:=by
 unfold MS at h;split at h
 ·rename_i r hr;split at h
  ·rename_i hl hp;split at h
   ·rename_i hk;cases h;exact⟨hk,r,hr,hl,hp⟩
   ·cases h
  ·cases h
 ·cases h
theorem NP{C:Ctx}(hR:RH P C){i:Nat}{V:Value}(hv:RV P C (.mp i) V){k:Gf}{K E:TypeId}{D:List (PV×PV)}(h:MS C.H i=some (k,K,E,D)):
  ∃ b,V=.map (some b)/\C.ρ i=some b/\∃ D',D'.Perm D/\QU P C b K E D'/\D.Pairwise fun x y=>x.1.cells≠y.1.cells:=by
 obtain⟨h0,r,h1,h2,h3⟩:=Xc h;cases hv with
 |mp hi hl hb=>
  obtain⟨r',info,g1,g2,g3,rfl⟩:=hl;rw[h1]at g1;cases g1;rw[h3]at g2;cases g2;exact⟨_,by unfold fg;rw[h0],hb,(hR.Ii i _ r _ hb h1 h3 h2).mpp K E D rfl⟩
def Zg(H:List Row)(i:Nat):Option Nat:=
 match IA H i with
 |some r=>some r.2.2.2.length
 |none=>match MS H i with |some r=>some r.2.2.2.length |none=>none
theorem Zh{C:Ctx}(hR:RH P C){i n:Nat}{V:Value}(hv:RV P C (.mp i) V)(h:Zg C.H i=some n):∃ b es,V=.map (some b)/\C.ρ i=some b/\C.w.heap[b]? = some (.map es n)/\es.size=n:=by
 unfold Zg at h;split at h
 ·rename_i q hq;obtain⟨k,K,E,D⟩:=q;cases h;obtain⟨b,rfl,hb,hB⟩:=NN hR hv hq;obtain⟨es,c,h1,h2,h3,_⟩:=hB.mem;subst h3;exact⟨b,es,rfl,hb,h1,h2⟩
 ·split at h
  ·rename_i q hq;obtain⟨k,K,E,D⟩:=q;cases h;obtain⟨b,rfl,hb,D',hp,hB,_⟩:=NP hR hv hq;obtain⟨es,c,h1,h2,h3,_⟩:=hB.mem;subst h3;exact⟨b,es,rfl,hb,by rw[<- hp.length_eq];exact h1,by rw[<- hp.length_eq];exact h2⟩
  ·cases h
def dO(P:Program)(H:List Row)(f:Operand->PV):Op->Option (PV×List Row)
 |.range T x=>
  match P.underlying T,f x with
  |some (.map _ _),.mp m=>match Zg H m with |some n=>some (.mp H.length,H++[Dz (.mp m) (.fresh n)]) |none=>none
  |some (.map _ _),.val (.map none)=>some (.mp H.length,H++[Dz .any .nil])
  |_,_=>none
 |_=>none
theorem dP{H:List Row}{f:Operand->PV}{op:Op}{p:PV}{H':List Row}(h:dO P H f op=some (p,H'))(x:Nat):rowAt H' x=rowAt H x:=by
 have key:∀ r:Row,r.live=false->rowAt (H++[r]) x=rowAt H x:=fun r hr=>by
  by_cases hx:x<H.length
  ·exact D5 hx
  ·unfold rowAt;rw[Bn (by omega),AG (by omega:H.length<=x)];cases hm:x-H.length with
   |zero=>simp[hr]
   |succ n=>simp
 unfold dO at h;split at h
 ·split at h
  ·split at h
   ·cases h;exact key _ rfl
   ·cases h
  ·cases h;exact key _ rfl
  ·cases h
 ·cases h
theorem Zi{ro:Nat}{H:List Row}{f:Operand->PV}{op:Op}{p:PV}{H':List Row}(h:dO P H f op=some (p,H')):Wy P ro H f op p H':=by
 intro C g o ho hro hH hR hv;subst hro;subst hH;unfold dO at h;split at h
 ·rename_i T x;split at h
  ·rename_i K E m hu hx;split at h
   ·rename_i n hn;cases h;have hxv:=hv x (by simp[Op.operands]);rw[hx]at hxv;obtain⟨b,es,hX,hb,hes,hsz⟩:=Zh hR hxv hn;obtain⟨h1,h2,h3⟩:=RU hR (row:=Dz (.mp m) (.fresh n)) (info:=⟨RX (.mp m),.iter (.fresh n)⟩) (o:=.mapIter (some b) n #[] n) rfl rfl fun C' hx' hh=>
     ⟨fun hf=>(by cases hf),fun _ _ _ he=>(by cases he),fun _ _ _ he=>(by cases he),fun s he=>by
      cases he;exact⟨b,mK (by rw[hX]at hxv;exact hxv.mono hx'),hh⟩⟩
    refine⟨_,.pointer (some ⟨C.w.heap.size,0,none⟩),_,?_,.inl rfl,⟨rfl,h1,h2⟩,h3⟩;unfold execOp;simp only[ho,Sem.run_bind,hX,run_range_map C.w T K E b es n hu hes,Result.andThen_ok];rfl
   ·cases h
  ·rename_i K E hu hx;cases h;have hxv:=hv x (by simp[Op.operands]);rw[hx]at hxv;generalize hX:g x=X at hxv;cases hxv;obtain⟨h1,h2,h3⟩:=RU hR (row:=Dz .any .nil) (info:=⟨RX .any,.iter .nil⟩) (o:=.mapIter none 0 #[] 0) rfl rfl fun C' hx' hh=>
    ⟨fun hf=>(by cases hf),fun _ _ _ he=>(by cases he),fun _ _ _ he=>(by cases he),fun s he=>by cases he;exact hh⟩
   refine⟨_,.pointer (some ⟨C.w.heap.size,0,none⟩),_,?_,.inl rfl,⟨rfl,h1,h2⟩,h3⟩;unfold execOp;simp only[ho,Sem.run_bind,hX,run_range_nilMap C.w T K E hu,Result.andThen_ok];rfl
  ·cases h
 ·cases h
def CY.RY(E:CY)(P:Program):CY:={ E with Fz:=fun ro H f op=>match dO P H f op with |some r=>some (.leaf r) |none=>E.Fz ro H f op }
theorem CG.RY{E:CY}(hE:CG P E.env):CG P (E.RY P).env where
 H9:=hE.H9
 Hc:=hE.Hc
 FI:=hE.FI
 lo:=fun f fn b h1 h2=>Gv.mono (E:=E.env) (E':=(E.RY P).env) (fun _ _ _ _ _ _ _ h=>h) (hE.lo f fn b h1 h2)
 Ec:=hE.Ec
 GO:=hE.GO
 EY:=fun ro H f T x k p H' h=>hE.EY ro H f T x k p H' h
 Fz:=fun ro H f op p H' h=>by
  change (match dO P H f op with |some r=>some (DT.leaf r) |none=>E.Fz ro H f op).bind DT.run=some (p,H') at h
  split at h
  ·rename_i r hr;have:r=(p,H'):=by simpa [DT.run] using h
   subst this;exact⟨Zi hr,dP hr⟩
  ·exact hE.Fz ro H f op p H' h
theorem bj:∀{D:List (PV×PV)},(D.Pairwise fun x y=>x.1.cells≠y.1.cells)->∀{x y:PV×PV},x∈D->y∈D->x.1.cells=y.1.cells->x=y
 | [],_,_,_,hx,_,_=>by cases hx
 |a::D,h,x,y,hx,hy,e=>by
  obtain⟨h1,h2⟩:=List.pairwise_cons.1 h;rcases AK.1 hx with e1 |hx'
  ·rcases AK.1 hy with e2 |hy'
   ·rw[e1,e2]
   ·subst e1;exact absurd e (h1 y hy')
  ·rcases AK.1 hy with e2 |hy'
   ·subst e2;exact absurd e.symm (h1 x hx')
   ·exact bj h2 hx' hy' e
theorem dQ{K:TypeId}{D D':List (PV×PV)}(hp:D'.Perm D)(hd:D.Pairwise fun x y=>x.1.cells≠y.1.cells)(hk:∀ x∈D',FO P K x.1=true){k:PV}(hkk:FO P K k=true)(z:PV):
  Fu z D' k=Fu z D k/\EE D' k=EE D k:=by
 have hkD:∀ x∈D,FO P K x.1=true:=fun x hx=>hk x (hp.mem_iff.2 hx)
 rw[GI,GI];cases h1:G1 D' k with
 |none=>
  cases h2:G1 D k with
  |none=>rw[(Gp h1).1,(Gp h2).1];exact⟨rfl,rfl⟩
  |some j=>
   obtain⟨a,v,g1,g2,_,_⟩:=Gn h2;obtain⟨j',hj'⟩:=Bh (hp.mem_iff.2 (Ag g1));exact absurd h1 (fun h=>by
    have:EE D' k=true:=by
     have:∀(D:List (PV×PV)),(a,v)∈D->EE D k=true:=fun D=>by
      induction D with
      |nil=>intro h;cases h
      |cons x D ih=>
       intro h;unfold EE;rcases AK.1 h with rfl |h
       ·rw[g2];rfl
       ·rw[ih h,Bool.or_true]
     exact this D' (Ag hj')
    rw[GI,h]at this;cases this)
 |some j=>
  obtain⟨a,v,g1,g2,g3,_⟩:=Gn h1;have hav:(a,v)∈D:=hp.mem_iff.1 (Ag g1);cases h2:G1 D k with
  |none=>
   have:∀(D:List (PV×PV)),(a,v)∈D->EE D k=true:=fun D=>by
    induction D with
    |nil=>intro h;cases h
    |cons x D ih=>
     intro h;unfold EE;rcases AK.1 h with rfl |h
     ·rw[g2];rfl
     ·rw[ih h,Bool.or_true]
   have:=this D hav;rw[GI,h2]at this;cases this
  |some j2=>
   obtain⟨a2,v2,q1,q2,q3,_⟩:=Gn h2;have hav2:=Ag q1;have e1:=Y9 hkk (hkD _ hav) g2;have e2:=Y9 hkk (hkD _ hav2) q2;have:=bj hd hav hav2 (e1.symm.trans e2);cases this;rw[g3,q3];exact⟨rfl,rfl⟩
def OD(P:Program)(ks:List TypeId)(H:List Row)(f:Operand->PV):Op->Option (PV×List Row)
 |.lookup T x k ok=>
  match P.underlying T,f x with
  |some (.map K E),.mp i=>
   match MS H i,E8 P E with
   |some (_,K',E',D),some z=>
    if ks.contains K&&(K==K')&&(E==E')&&FO P K (f k)&&ak P E (.val z) then
     some (if ok then .El [J4 P E (Fu (.val z) D (f k)),.val (.bool (EE D (f k)))] else J4 P E (Fu (.val z) D (f k)),H) else none
   |_,_=>none
  |_,_=>none
 |.call c=>
  match c.callee,c.args.toList,c.argTypes[0]? with
  |.builtin .len,[x],some T=>
   match P.underlying T,f x with
   |some (.map _ _),.mp i=>(MS H i).map fun r=>(.val (.int .i64 (r.2.2.2.length:Int)),H)
   |_,_=>none
  |_,_,_=>none
 |_=>none
theorem PB{ks:List TypeId}{H:List Row}{f:Operand->PV}{op:Op}{p:PV}{H':List Row}(h:OD P ks H f op=some (p,H')):H'=H:=by
 unfold OD at h;split at h
 ·split at h
  ·split at h
   ·split at h
    ·cases h;rfl
    ·cases h
   ·cases h
  ·cases h
 ·split at h
  ·split at h
   ·obtain⟨q,_,he⟩:=Af.1 h;cases he;rfl
   ·cases h
  ·cases h
 ·cases h
theorem U1{ks:List TypeId}(hks:∀ K,K∈ks->HL P K){ro:Nat}{H:List Row}{f:Operand->PV}{op:Op}{p:PV}{H':List Row}(h:OD P ks H f op=some (p,H')):Wy P ro H f op p H':=by
 intro C g o ho hro hH hR hv;obtain rfl:=PB h;subst hro;subst hH;unfold OD at h;split at h
 ·rename_i T x k ok;split at h
  ·rename_i K E i hu hfx;split at h
   ·rename_i kk K' E' D z hm hz;split at h
    ·rename_i hc;simp only[Aa,Ay,BJ,Ab]at hc;obtain⟨⟨⟨⟨hc1,rfl⟩,rfl⟩,hmk⟩,hmz⟩:=hc;have hKO:=hks _ hc1;have hx:=hv x (by simp[Op.operands]);have hk:=hv k (by simp[Op.operands]);rw[hfx]at hx;obtain⟨b,hX,hρ,D',hp,hB,hd⟩:=NP hR hx hm;obtain⟨es,c,hes,_⟩:=hB.mem;obtain⟨h1,h2,h3⟩:=Gq hB hes;have hf:=RN hKO hB hmk hk hes C.w;have hch:=hKO.check C (f k) (g k) hmk hk es.isEmpty C.w;obtain⟨pg,ph⟩:=dQ hp hd hB.keys hmk (.val z);have key:∃ v,(Instr.lookup T (.map (some b)) (g k) ok).run P C.w=.ok (if ok then .tuple #[v,.bool (EE D' (f k))] else v) C.w/\RV P C (Fu (.val z) D' (f k)) v:=by
      cases hi:G1 D' (f k) with
      |none=>
       refine⟨z,?_,by rw[(Gp hi).1];exact .val⟩;rw[hi]at hf;unfold Instr.lookup;simp only[Sem.run_bind,run_underlying hu,Result.andThen_ok,MapKept.run_getObj_map hes,Sem.run_pure,hch,hf,Option.bind_none,Fx hz,GI,hi,Option.isSome_none]
      |some j=>
       obtain⟨a,v,g1,_,g3,_⟩:=Gn hi;have hj:j<es.size:=by rw[h1];exact(Ad.1 g1).1
       have he:es[j]? = some es[j]:=AD hj;refine⟨es[j].val,?_,by rw[g3];exact(h3 j a v _ g1 he).2.2⟩;rw[hi]at hf;unfold Instr.lookup;simp only[Sem.run_bind,run_underlying hu,Result.andThen_ok,MapKept.run_getObj_map hes,Sem.run_pure,hch,hf,Bl,he,AE,GI,hi,Cg]
     obtain⟨v,k1,k2⟩:=key;have hE:=RV.J4 (aY (fun x hx=>hB.lW x hx) hmz (f k)) k2;rw[pg]at hE;rw[ph]at k1;cases h;refine⟨_,if ok then .tuple #[v,.bool (EE D (f k))] else v,C,?_,.inl rfl,⟨rfl,.refl C,hR⟩,?_⟩
     ·unfold execOp;simp only[ho,Sem.run_bind,hX,k1,Result.andThen_ok];rfl
     ·cases ok
      ·exact hE
      ·refine .El rfl fun j c u g1 g2=>?_
       match j with
       |0=>simp at g1 g2;subst g1;subst g2;exact hE
       |1=>simp at g1 g2;subst g1;subst g2;exact .val
       |j+2=>simp at g1
    ·cases h
   ·cases h
  ·cases h
 ·rename_i c;split at h
  ·rename_i x T hc ha hT;split at h
   ·rename_i K E i hu hfx;obtain⟨⟨kk,K',E',D⟩,hm,he⟩:=Af.1 h;cases he;have hca:c.args = #[x]:=by apply BD;simpa using ha
    have hx:=hv x (by simp[Op.operands,Call.operands,hc,hca]);rw[hfx]at hx;obtain⟨b,hX,hρ,D',hp,hB,_⟩:=NP hR hx hm;obtain⟨es,c0,hes,_⟩:=hB.mem;obtain⟨h1,h2,h3⟩:=Gq hB hes;refine⟨_,.int .i64 (D.length:Int),C,?_,.inl rfl,⟨rfl,.refl C,hR⟩,.val⟩;have hlen:(Builtin.len_ c.argTypes o.type #[g x]).run P C.w=.ok (.int .i64 (D.length:Int)) C.w:=by
     rw[hX];simp only[Builtin.len_,hT,BE,AZ,Sem.run_bind,run_underlying hu,Result.andThen_ok,MapKept.run_getObj_map hes,Sem.run_pure,h1,hp.length_eq];rfl
    simp only[execOp,ho,resolve,hc,hca,Sem.run_bind,Sem.run_pure,Result.andThen_ok,invoke,builtin,BM,AV,Bs,hlen]
   ·cases h
  ·cases h
 ·cases h
def CY.RZ(E:CY)(P:Program)(ks:List TypeId):CY:={ E with Fz:=fun ro H f op=>match OD P ks H f op with |some r=>some (.leaf r) |none=>E.Fz ro H f op }
theorem CG.RZ{E:CY}(hE:CG P E.env){ks:List TypeId}(hks:∀ K,K∈ks->HL P K):CG P (E.RZ P ks).env where
 H9:=hE.H9
 Hc:=hE.Hc
 FI:=hE.FI
 lo:=fun f fn b h1 h2=>Gv.mono (E:=E.env) (E':=(E.RZ P ks).env) (fun _ _ _ _ _ _ _ h=>h) (hE.lo f fn b h1 h2)
 Ec:=hE.Ec
 GO:=hE.GO
 EY:=fun ro H f T x k p H' h=>hE.EY ro H f T x k p H' h
 Fz:=fun ro H f op p H' h=>by
  change (match OD P ks H f op with |some r=>some (DT.leaf r) |none=>E.Fz ro H f op).bind DT.run=some (p,H') at h
  split at h
  ·rename_i r hr;have:r=(p,H'):=by simpa [DT.run] using h
   subst this;exact⟨U1 hks hr,fun x=>by rw[PB hr]⟩
  ·exact hE.Fz ro H f op p H' h
end Go.Hx

