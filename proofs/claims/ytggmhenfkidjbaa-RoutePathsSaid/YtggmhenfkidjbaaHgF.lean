import Derived.Test.YtggmhenfkidjbaaRows
import Derived.Test.YtggmhenfkidjbaaHgA
import Derived.Test.YtggmhenfkidjbaaPart5
namespace Go.Proofs.Ytggmhenfkidjbaa
open Go.ChangeShapes Go.WideShapes Go.ChangeAt Go.RowKit Go.Hx Go.Hg

theorem own:ownKnob Try.prog.godebug=none:=by kernel_rfl
theorem laidOut:laidOutB Try.prog=true:=by kernel_rfl
theorem ai{ps:List PV}(h:D4 [] ps=true):ps=[]:=by
 cases ps with
 |nil=>rfl
 |cons p ps=>simp[D4]at h
theorem pk{k:IntKind}{p:PV}(h:KH (.int k) p=true):∃ n,p=.val (.int k n):=by
 cases p with
 |val v=>cases v <;> simp_all [KH]
 |C9 f t es=>simp_all [KH]
 |_=>simp[KH]at h
theorem Lw{k:IntKind}{ks:List Kind}{ps:List PV}(h:D4 ((.int k)::ks) ps=true):∃ n qs,ps=.val (.int k n)::qs/\D4 ks qs=true:=by
 cases ps with
 |nil=>simp[D4]at h
 |cons p ps=>
  simp only[D4,Aa]at h;obtain⟨n,rfl⟩:=pk h.1;exact⟨n,ps,rfl,h.2⟩
theorem lg{p:PV}(h:KH (.bool) p=true):∃ b,p=.val (.bool b):=by
 cases p with
 |val v=>cases v <;> simp_all [KH]
 |C9 f t es=>simp_all [KH]
 |_=>simp[KH]at h
theorem pn{ks:List Kind}{ps:List PV}(h:D4 ((.bool)::ks) ps=true):∃ b qs,ps=.val (.bool b)::qs/\D4 ks qs=true:=by
 cases ps with
 |nil=>simp[D4]at h
 |cons p ps=>
  simp only[D4,Aa]at h;obtain⟨b,rfl⟩:=lg h.1;exact⟨b,ps,rfl,h.2⟩
theorem xp{e:TypeId}{p:PV}(h:KH (.sl e) p=true):∃ f es,p=.C9 f e es:=by
 cases p with
 |val v=>cases v <;> simp[KH]at h
 |C9 f t es=>
  have:e=t:=by simpa [KH] using h
  subst this;exact⟨f,es,rfl⟩
 |_=>simp[KH]at h
theorem tV{e:TypeId}{ks:List Kind}{ps:List PV}(h:D4 (.sl e::ks) ps=true):∃ f es qs,ps=.C9 f e es::qs/\D4 ks qs=true:=by
 cases ps with
 |nil=>simp[D4]at h
 |cons p ps=>
  simp only[D4,Aa]at h;obtain⟨f,es,rfl⟩:=xp h.1;exact⟨f,es,ps,rfl,h.2⟩
theorem lh{t:TypeId}{ps:List PV}{W:World}{v:Value}(h:RV Try.prog (Ctx.of W) (Yc Try.prog t ps) v)(ha:Dh Try.prog t=true):RV Try.prog (Ctx.of W) (.agg ps) v:=by
 unfold Yc at h;rwa [Ak ha]at h
theorem xq{t:TypeId}{p:PV}{W:World}{v:Value}(h:RV Try.prog (Ctx.of W) (Yc Try.prog t [p]) v)(ha:Dh Try.prog t=false):RV Try.prog (Ctx.of W) p v:=by
 unfold Yc at h;rwa [Aq (by simp[ha])]at h
theorem lj{W:World}{p q s:PV}{v u x:Value}(h1:RV Try.prog (Ctx.of W) p v)(h2:RV Try.prog (Ctx.of W) q u)(h3:RV Try.prog (Ctx.of W) s x):Cs Try.prog (Ctx.of W) [p,q,s] #[v,u,x]:=by
 refine⟨rfl,fun j c y a b=>?_⟩
 match j with
 |0=>simp at a b;subst a;subst b;exact h1
 |1=>simp at a b;subst a;subst b;exact h2
 |2=>simp at a b;subst a;subst b;exact h3
 |j+3=>simp at a
end Go.Proofs.Ytggmhenfkidjbaa
