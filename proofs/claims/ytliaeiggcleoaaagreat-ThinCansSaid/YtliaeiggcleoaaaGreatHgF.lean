/- Geometry: the frames of the laws: their arguments. -/
import Derived.Test.YtliaeiggcleoaaaGreatRows
import Derived.Test.YtliaeiggcleoaaaGreatHgA
import Derived.Test.YtliaeiggcleoaaaGreatPart5
namespace Go.Proofs.YtliaeiggcleoaaaGreat
open Go.ChangeShapes Go.WideShapes Go.ChangeAt Go.RowKit Go.Hx Go.Hg

theorem own:ownKnob Tryz.prog.godebug=none:=by kernel_rfl
theorem laidOut:laidOutB Tryz.prog=true:=by kernel_rfl
theorem wt_nil {ps:List PV} (h:wtcs [] ps=true):ps=[]:=by
 cases ps with
 | nil=>rfl
 | cons p ps=>simp[wtcs] at h
theorem wtc_int {k:IntKind} {p:PV} (h:wtc (.int k) p=true):∃ n,p=.val (.int k n):=by
 cases p with
 | val v=>cases v <;> simp_all [wtc]
 | Ac f t es=>simp_all [wtc]
 | _=>simp[wtc] at h
theorem wt_int {k:IntKind} {ks:List Kind} {ps:List PV} (h:wtcs ((.int k)::ks) ps=true):∃ n qs,ps=.val (.int k n)::qs/\wtcs ks qs=true:=by
 cases ps with
 | nil=>simp[wtcs] at h
 | cons p ps =>
  simp only[wtcs,Bool.and_eq_true] at h
  obtain ⟨n,rfl⟩:=wtc_int h.1
  exact ⟨n,ps,rfl,h.2⟩
theorem wtc_sl {e:TypeId} {p:PV} (h:wtc (.sl e) p=true):∃ f es,p=.Ac f e es:=by
 cases p with
 | val v=>cases v <;> simp[wtc] at h
 | Ac f t es =>
  have:e=t:=by simpa [wtc] using h
  subst this
  exact ⟨f,es,rfl⟩
 | _=>simp[wtc] at h
theorem wt_sl {e:TypeId} {ks:List Kind} {ps:List PV} (h:wtcs (.sl e::ks) ps=true):∃ f es qs,ps=.Ac f e es::qs/\wtcs ks qs=true:=by
 cases ps with
 | nil=>simp[wtcs] at h
 | cons p ps =>
  simp only[wtcs,Bool.and_eq_true] at h
  obtain ⟨f,es,rfl⟩:=wtc_sl h.1
  exact ⟨f,es,ps,rfl,h.2⟩
theorem fit_u8 {n:Int} (h:Fit (.val (.int .u8 n))):0<=n/\n<=255:=by
 cases h with
 | int h=>exact bounds_u8 h
theorem rv_agg {t:TypeId} {ps:List PV} {W:World} {v:Value} (h:RV Tryz.prog (Ctx.of W) (mkE Tryz.prog t ps) v) (ha:Aj Tryz.prog t=true):RV Tryz.prog (Ctx.of W) (.agg ps) v:=by
 unfold mkE at h
 rwa [if_pos ha] at h
theorem rv_one {t:TypeId} {p:PV} {W:World} {v:Value} (h:RV Tryz.prog (Ctx.of W) (mkE Tryz.prog t [p]) v) (ha:Aj Tryz.prog t=false):RV Tryz.prog (Ctx.of W) p v:=by
 unfold mkE at h
 rwa [if_neg (by simp[ha])] at h
theorem cs_three {W:World} {p q s:PV} {v u x:Value} (h1:RV Tryz.prog (Ctx.of W) p v) (h2:RV Tryz.prog (Ctx.of W) q u) (h3:RV Tryz.prog (Ctx.of W) s x):Cs Tryz.prog (Ctx.of W) [p,q,s] #[v,u,x]:=by
 refine ⟨rfl,fun j c y a b => ?_⟩
 match j with
 | 0=>simp at a b; subst a; subst b; exact h1
 | 1=>simp at a b; subst a; subst b; exact h2
 | 2=>simp at a b; subst a; subst b; exact h3
 | j+3=>simp at a
end Go.Proofs.YtliaeiggcleoaaaGreat
