/- Thin: frames: bytes that came in. -/
import Derived.Test.YtliaeiggcleoaaaGreatPart12
import Derived.Test.YtliaeiggcleoaaaGreatHgF
namespace Go.Proofs.YtliaeiggcleoaaaGreat
open Go.ChangeShapes Go.WideShapes Go.ChangeAt Go.RowKit Go.Hx Go.Hg
theorem kU8:kinds Tryz.prog 5=[.int .u8]:=by kernel_rfl
theorem okN_of {W:World} {f:Bool} {es:List PV} {v:Value} (he:RV Tryz.prog (Ctx.of W) (.Ac f 5 es) v) (hf:Fit (.Ac f 5 es)):Go.Hn.okN es=true:=by
 unfold Go.Hn.okN
 cases hf with
 | Ac hl h =>
  rw[Bool.and_eq_true,decide_eq_true_eq,List.all_eq_true]
  refine ⟨hl,fun p hp => ?_⟩
  cases he with
  | Ac b off cv hcap hfull ha hc hr ht =>
   have h1:=ht p hp
   unfold wt at h1
   rw[Bool.and_eq_true,kU8] at h1
   obtain ⟨x,ps,e1,g1⟩:=wt_int h1.1
   obtain rfl:=wt_nil g1
   have h2:=fit_u8 (h p hp (.val (.int .u8 x)) (by rw[e1]; simp))
   unfold PV.cellAt
   rw[e1]
   show (decide (0<=x)&&decide (x<=255))=true
   rw[Bool.and_eq_true,decide_eq_true_eq,decide_eq_true_eq]
   exact h2
end Go.Proofs.YtliaeiggcleoaaaGreat
