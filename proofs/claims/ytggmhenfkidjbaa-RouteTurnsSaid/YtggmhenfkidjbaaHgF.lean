import Derived.Test.YtggmhenfkidjbaaRows
import Derived.Test.YtggmhenfkidjbaaHgA
import Derived.Test.YtggmhenfkidjbaaPart5
namespace Go.Proofs.Ytggmhenfkidjbaa
open Go.ChangeShapes Go.WideShapes Go.ChangeAt Go.RowKit Go.Hx Go.Hg

theorem own:ownKnob Try.prog.godebug=none:=by kernel_rfl
theorem laidOut:laidOutB Try.prog=true:=by kernel_rfl
theorem wt_nil {ps:List PV} (h:DD [] ps=true):ps=[]:=by
 cases ps with
 | nil=>rfl
 | cons p ps=>simp[DD] at h
theorem wtc_int {k:IntKind} {p:PV} (h:JU (.int k) p=true):∃ n,p=.val (.int k n):=by
 cases p with
 | val v=>cases v <;> simp_all [JU]
 | CR f t es=>simp_all [JU]
 | _=>simp[JU] at h
theorem wt_int {k:IntKind} {ks:List Kind} {ps:List PV} (h:DD ((.int k)::ks) ps=true):∃ n qs,ps=.val (.int k n)::qs/\DD ks qs=true:=by
 cases ps with
 | nil=>simp[DD] at h
 | cons p ps =>
  simp only[DD,Aa] at h;obtain⟨n,rfl⟩:=wtc_int h.1;exact⟨n,ps,rfl,h.2⟩
theorem wtc_bool {p:PV} (h:JU (.bool) p=true):∃ b,p=.val (.bool b):=by
 cases p with
 | val v=>cases v <;> simp_all [JU]
 | CR f t es=>simp_all [JU]
 | _=>simp[JU] at h
theorem wt_bool {ks:List Kind} {ps:List PV} (h:DD ((.bool)::ks) ps=true):∃ b qs,ps=.val (.bool b)::qs/\DD ks qs=true:=by
 cases ps with
 | nil=>simp[DD] at h
 | cons p ps =>
  simp only[DD,Aa] at h;obtain⟨b,rfl⟩:=wtc_bool h.1;exact⟨b,ps,rfl,h.2⟩
theorem wtc_sl {e:TypeId} {p:PV} (h:JU (.sl e) p=true):∃ f es,p=.CR f e es:=by
 cases p with
 | val v=>cases v <;> simp[JU] at h
 | CR f t es =>
  have:e=t:=by simpa [JU] using h
  subst this;exact⟨f,es,rfl⟩
 | _=>simp[JU] at h
theorem wt_sl {e:TypeId} {ks:List Kind} {ps:List PV} (h:DD (.sl e::ks) ps=true):∃ f es qs,ps=.CR f e es::qs/\DD ks qs=true:=by
 cases ps with
 | nil=>simp[DD] at h
 | cons p ps =>
  simp only[DD,Aa] at h;obtain⟨f,es,rfl⟩:=wtc_sl h.1;exact⟨f,es,ps,rfl,h.2⟩
theorem fit_u8 {n:Int} (h:Fit (.val (.int .u8 n))):0<=n/\n<=255:=by
 cases h with
 | int h=>exact bounds_u8 h
theorem rv_agg {t:TypeId} {ps:List PV} {W:World} {v:Value} (h:RV Try.prog (Ctx.of W) (mkE Try.prog t ps) v) (ha:CZ Try.prog t=true):RV Try.prog (Ctx.of W) (.agg ps) v:=by
 unfold mkE at h;rwa [Ai ha] at h
theorem rv_one {t:TypeId} {p:PV} {W:World} {v:Value} (h:RV Try.prog (Ctx.of W) (mkE Try.prog t [p]) v) (ha:CZ Try.prog t=false):RV Try.prog (Ctx.of W) p v:=by
 unfold mkE at h;rwa [An (by simp[ha])] at h
theorem cs_two {W:World} {p q:PV} {v u:Value} (h1:RV Try.prog (Ctx.of W) p v) (h2:RV Try.prog (Ctx.of W) q u):Cs Try.prog (Ctx.of W) [p,q] #[v,u]:=by
 refine⟨rfl,fun j c x a b => ?_⟩
 match j with
 | 0=>simp at a b;subst a;subst b;exact h1
 | 1=>simp at a b;subst a;subst b;exact h2
 | j+2=>simp at a
end Go.Proofs.Ytggmhenfkidjbaa
