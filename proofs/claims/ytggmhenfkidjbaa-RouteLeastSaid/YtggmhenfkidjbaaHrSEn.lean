/- RouteLeast returns true for every input, and its arguments read behind the call as they read before. No condition. -/
import Derived.Test.YtggmhenfkidjbaaHrEn
import Derived.Test.YtggmhenfkidjbaaHgF
namespace Go.Proofs.Ytggmhenfkidjbaa
open Go.ChangeShapes Go.WideShapes Go.ChangeAt Go.RowKit Go.Hx Go.Hg

theorem kkRouteLeast_0 : kinds Try.prog 25 = [.sl 38, .int .i64, .int .i64, .int .i64, .int .i64, .int .i64, .bool] := by kernel_rfl
theorem ffRouteLeast_0 : Jc Try.prog 20 12 25 = true := by kernel_rfl
theorem aaRouteLeast_0 : CX Try.prog 25 = true := by kernel_rfl

set_option maxRecDepth 100000 in
theorem liftedRouteLeast (os : Os) (started : os.Started) (H : Type) (enc : TypeId × Value → H) :
    ReturnsInHanded {} Try.checked os 5 .any (Rows.routeLeastSpec.pre6 enc Try.prog Try.f5 Rows.routeLeastRow.domain false) (Rows.routeLeastSpec.post enc Try.prog Try.f5 false true false false) := by
  refine returnsInHanded_of_change (C := Try.checked) own started (by kernel_rfl) Try.func5
    (ChangeSpec.witness6 (enc := enc) (C := Try.checked) false ⟨#[], #[.agg #[.slice none 0 0, .int .i64 0, .int .i64 0, .int .i64 0, .int .i64 0, .int .i64 0, .bool false]], []⟩ 8 (by kernel_rfl) (by kernel_rfl) (by kernel_rfl) (by kernel_rfl)) ?_
  intro W base args ds gs before hval0 hW hcnd _
  have hval : ∀ (j : Nat) t v, Try.f5.params[j]? = some t → args[j]? = some v → Value.okWide Try.prog W .any base t v := hval0
  have hW' := hW
  obtain ⟨p, q, hA0, hV, rfl, hfz, hnd⟩ := hW
  have hA : DataW.TrodAll enc Try.prog W 0 (fun _ => true) true Try.f5.params.toList args.toList ds p := hA0
  rw [Try.params5] at hA hval
  obtain ⟨v0, vs0, d0, ds0, p0, q0, hargs, rfl, rfl, h0, r0⟩ := trodAll_cons hA
  obtain ⟨rfl, rfl, rfl⟩ := trodAll_nil r0
  obtain rfl : args = #[v0] := by cases args; simp_all
  obtain ⟨rfl, rfl⟩ := trodVars_none hV
  have lt0 : ∀ x ∈ p0, x.block < W.heap.size := by obtain ⟨m, hm⟩ := h0; exact DataW.trod_lt m _ _ _ hm
  obtain ⟨ps0, g0, fit0, e0⟩ := arg_rv (hval 0 25 v0 rfl rfl) h0 ffRouteLeast_0
  rw [kkRouteLeast_0] at g0
  obtain ⟨f0_0, x0_0, ps0_0, rfl, g0_0⟩ := wt_sl g0
  obtain ⟨x0_1, ps0_1, rfl, g0_1⟩ := wt_int g0_0
  obtain ⟨x0_2, ps0_2, rfl, g0_2⟩ := wt_int g0_1
  obtain ⟨x0_3, ps0_3, rfl, g0_3⟩ := wt_int g0_2
  obtain ⟨x0_4, ps0_4, rfl, g0_4⟩ := wt_int g0_3
  obtain ⟨x0_5, ps0_5, rfl, g0_5⟩ := wt_int g0_4
  obtain ⟨x0_6, ps0_6, rfl, g0_6⟩ := wt_bool g0_5
  obtain rfl := wt_nil g0_6
  replace e0 := rv_agg e0 aaRouteLeast_0
  have hcs : Cs Try.prog (Ctx.of W) [.agg [.CQ f0_0 38 x0_0, iv x0_1, iv x0_2, iv x0_3, iv x0_4, iv x0_5, bv x0_6]] #[v0] := cs_one e0
  refine (law_calls ((Go.Hr.lawL f0_0 x0_0 x0_1 x0_2 x0_3 x0_4 x0_5 x0_6).2) hcs).mono fun e W' ⟨he, bel⟩ => ?_
  subst he
  exact ⟨_, rfl, _, _, _, [], _, [], hW', trodAll_mk1 (shut_bool Try.underlying4 _), (trodAll_cons_mk (Below.trod laidOut (by kernel_rfl) (AS (by kernel_rfl)) h0 bel lt0) trodAll_mk0), rfl, bel.frame _, fun h => by cases h⟩

theorem routeLeast_holds : Rows.RouteLeastSaid :=
  OpenClaim.holds_of_wide 5 Try.f5 rfl rfl rfl rfl rfl rfl rfl ⟨rfl, rfl, rfl, rfl, rfl⟩ rfl rfl rfl rfl rfl (by kernel_rfl) Try.func5 (by kernel_rfl)
    (AS (by kernel_rfl)) (by unfold Func.isWrapper; first | (rw [Ai (by decide +kernel)]; kernel_rfl) | (rw [An (by decide +kernel)]; exact ⟨rfl, rfl⟩))
    (fun os started H enc _ => liftedRouteLeast os started H enc)
#print axioms routeLeast_holds
end Go.Proofs.Ytggmhenfkidjbaa
