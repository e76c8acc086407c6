import Derived.Test.YtggmhenfkidjbaaRows
import Derived.Test.YtggmhenfkidjbaaHgA
import Derived.Test.YtggmhenfkidjbaaPart5
namespace Go.Proofs.Ytggmhenfkidjbaa
open Go.ChangeShapes Go.WideShapes Go.ChangeAt Go.RowKit Go.Hx Go.Hg

theorem own:ownKnob Try.prog.godebug=none:=by kernel_rfl
theorem laidOut:laidOutB Try.prog=true:=by kernel_rfl
theorem wt_nil {ps:List PV} (h:DD [] ps=true):ps=[]:=by
 cases ps with
 | nil=>rfl
 | cons p ps=>simp[DD] at h
theorem wtc_int {k:IntKind} {p:PV} (h:JY (.int k) p=true):∃ n,p=.val (.int k n):=by
 cases p with
 | val v=>cases v <;> simp_all [JY]
 | CQ f t es=>simp_all [JY]
 | _=>simp[JY] at h
theorem wt_int {k:IntKind} {ks:List Kind} {ps:List PV} (h:DD ((.int k)::ks) ps=true):∃ n qs,ps=.val (.int k n)::qs/\DD ks qs=true:=by
 cases ps with
 | nil=>simp[DD] at h
 | cons p ps =>
  simp only[DD,Aa] at h;obtain⟨n,rfl⟩:=wtc_int h.1;exact⟨n,ps,rfl,h.2⟩
theorem wtc_bool {p:PV} (h:JY (.bool) p=true):∃ b,p=.val (.bool b):=by
 cases p with
 | val v=>cases v <;> simp_all [JY]
 | CQ f t es=>simp_all [JY]
 | _=>simp[JY] at h
theorem wt_bool {ks:List Kind} {ps:List PV} (h:DD ((.bool)::ks) ps=true):∃ b qs,ps=.val (.bool b)::qs/\DD ks qs=true:=by
 cases ps with
 | nil=>simp[DD] at h
 | cons p ps =>
  simp only[DD,Aa] at h;obtain⟨b,rfl⟩:=wtc_bool h.1;exact⟨b,ps,rfl,h.2⟩
theorem wtc_sl {e:TypeId} {p:PV} (h:JY (.sl e) p=true):∃ f es,p=.CQ f e es:=by
 cases p with
 | val v=>cases v <;> simp[JY] at h
 | CQ f t es =>
  have:e=t:=by simpa [JY] using h
  subst this;exact⟨f,es,rfl⟩
 | _=>simp[JY] at h
theorem wt_sl {e:TypeId} {ks:List Kind} {ps:List PV} (h:DD (.sl e::ks) ps=true):∃ f es qs,ps=.CQ f e es::qs/\DD ks qs=true:=by
 cases ps with
 | nil=>simp[DD] at h
 | cons p ps =>
  simp only[DD,Aa] at h;obtain⟨f,es,rfl⟩:=wtc_sl h.1;exact⟨f,es,ps,rfl,h.2⟩
theorem rv_agg {t:TypeId} {ps:List PV} {W:World} {v:Value} (h:RV Try.prog (Ctx.of W) (mkE Try.prog t ps) v) (ha:CX Try.prog t=true):RV Try.prog (Ctx.of W) (.agg ps) v:=by
 unfold mkE at h;rwa [Ai ha] at h
theorem cs_one {W:World} {p:PV} {v:Value} (h1:RV Try.prog (Ctx.of W) p v):Cs Try.prog (Ctx.of W) [p] #[v]:=by
 refine⟨rfl,fun j c x a b => ?_⟩
 match j with
 | 0=>simp at a b;subst a;subst b;exact h1
 | j+1=>simp at a
end Go.Proofs.Ytggmhenfkidjbaa
