import Derived.Test.YtggmhenfkidjbaaRows
import Derived.Test.YtggmhenfkidjbaaHgA
import Derived.Test.YtggmhenfkidjbaaPart5
namespace Go.Proofs.Ytggmhenfkidjbaa
open Go.ChangeShapes Go.WideShapes Go.ChangeAt Go.RowKit Go.Hx Go.Hg

theorem own:ownKnob Try.prog.godebug=none:=by kernel_rfl
theorem laidOut:laidOutB Try.prog=true:=by kernel_rfl
theorem Z5{ps:List PV}(h:D6 [] ps=true):ps=[]:=by
 cases ps with
 |nil=>rfl
 |cons p ps=>simp[D6]at h
theorem o6{k:IntKind}{p:PV}(h:KD (.int k) p=true):∃ n,p=.val (.int k n):=by
 cases p with
 |val v=>cases v <;> simp_all [KD]
 |Db f t es=>simp_all [KD]
 |_=>simp[KD]at h
theorem Na{k:IntKind}{ks:List Kind}{ps:List PV}(h:D6 ((.int k)::ks) ps=true):∃ n qs,ps=.val (.int k n)::qs/\D6 ks qs=true:=by
 cases ps with
 |nil=>simp[D6]at h
 |cons p ps=>
  simp only[D6,Aa]at h;obtain⟨n,rfl⟩:=o6 h.1;exact⟨n,ps,rfl,h.2⟩
theorem kY{p:PV}(h:KD (.bool) p=true):∃ b,p=.val (.bool b):=by
 cases p with
 |val v=>cases v <;> simp_all [KD]
 |Db f t es=>simp_all [KD]
 |_=>simp[KD]at h
theorem o7{ks:List Kind}{ps:List PV}(h:D6 ((.bool)::ks) ps=true):∃ b qs,ps=.val (.bool b)::qs/\D6 ks qs=true:=by
 cases ps with
 |nil=>simp[D6]at h
 |cons p ps=>
  simp only[D6,Aa]at h;obtain⟨b,rfl⟩:=kY h.1;exact⟨b,ps,rfl,h.2⟩
theorem w8{e:TypeId}{p:PV}(h:KD (.sl e) p=true):∃ f es,p=.Db f e es:=by
 cases p with
 |val v=>cases v <;> simp[KD]at h
 |Db f t es=>
  have:e=t:=by simpa [KD] using h
  subst this;exact⟨f,es,rfl⟩
 |_=>simp[KD]at h
theorem tJ{e:TypeId}{ks:List Kind}{ps:List PV}(h:D6 (.sl e::ks) ps=true):∃ f es qs,ps=.Db f e es::qs/\D6 ks qs=true:=by
 cases ps with
 |nil=>simp[D6]at h
 |cons p ps=>
  simp only[D6,Aa]at h;obtain⟨f,es,rfl⟩:=w8 h.1;exact⟨f,es,ps,rfl,h.2⟩
theorem kZ{t:TypeId}{ps:List PV}{W:World}{v:Value}(h:RV Try.prog (Ctx.of W) (X7 Try.prog t ps) v)(ha:Dl Try.prog t=true):RV Try.prog (Ctx.of W) (.agg ps) v:=by
 unfold X7 at h;rwa [Ak ha]at h
theorem w9{t:TypeId}{p:PV}{W:World}{v:Value}(h:RV Try.prog (Ctx.of W) (X7 Try.prog t [p]) v)(ha:Dl Try.prog t=false):RV Try.prog (Ctx.of W) p v:=by
 unfold X7 at h;rwa [Aq (by simp[ha])]at h
theorem k8{W:World}{p q s:PV}{v u x:Value}(h1:RV Try.prog (Ctx.of W) p v)(h2:RV Try.prog (Ctx.of W) q u)(h3:RV Try.prog (Ctx.of W) s x):Cs Try.prog (Ctx.of W) [p,q,s] #[v,u,x]:=by
 refine⟨rfl,fun j c y a b=>?_⟩
 match j with
 |0=>simp at a b;subst a;subst b;exact h1
 |1=>simp at a b;subst a;subst b;exact h2
 |2=>simp at a b;subst a;subst b;exact h3
 |j+3=>simp at a
end Go.Proofs.Ytggmhenfkidjbaa
