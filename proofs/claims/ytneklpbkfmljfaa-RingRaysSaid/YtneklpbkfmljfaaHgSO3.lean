/- RingRays returns true for every input, and its arguments read behind the call as they read before. No condition. -/
import Derived.Test.YtneklpbkfmljfaaHgO3
import Derived.Test.YtneklpbkfmljfaaHgF
namespace Go.Proofs.Ytneklpbkfmljfaa
open Go.ChangeShapes Go.WideShapes Go.ChangeAt Go.RowKit Go.Hx Go.Hg

theorem kkRingRays_0 : kinds Try.prog 72 = [.int .i64, .int .i64, .int .i64, .int .i64, .int .i64, .int .i64] := by kernel_rfl
theorem ffRingRays_0 : flatB Try.prog 20 12 72 = true := by kernel_rfl
theorem aaRingRays_0 : isAggT Try.prog 72 = true := by kernel_rfl
theorem kkRingRays_1 : kinds Try.prog 73 = [.int .i64, .int .i64, .int .i64, .int .i64, .int .i64, .int .i64] := by kernel_rfl
theorem ffRingRays_1 : flatB Try.prog 20 12 73 = true := by kernel_rfl
theorem aaRingRays_1 : isAggT Try.prog 73 = true := by kernel_rfl

set_option maxRecDepth 100000 in
theorem liftedRingRays (os : Os) (started : os.Started) (H : Type) (enc : TypeId × Value → H) :
    ReturnsInHanded {} Try.checked os 11 .any (Rows.ringRaysSpec.pre6 enc Try.prog Try.f11 Rows.ringRaysRow.domain false) (Rows.ringRaysSpec.post enc Try.prog Try.f11 false true false false) := by
  refine returnsInHanded_of_change (C := Try.checked) own started (by kernel_rfl) Try.func11
    (ChangeSpec.witness6 (enc := enc) (C := Try.checked) false ⟨#[], #[.agg #[.int .i64 0, .int .i64 0, .int .i64 0, .int .i64 0, .int .i64 0, .int .i64 0], .agg #[.int .i64 0, .int .i64 0, .int .i64 0, .int .i64 0, .int .i64 0, .int .i64 0]], []⟩ 8 (by kernel_rfl) (by kernel_rfl) (by kernel_rfl) (by kernel_rfl)) ?_
  intro W base args ds gs before hval0 hW hcnd _
  have hval : ∀ (j : Nat) t v, Try.f11.params[j]? = some t → args[j]? = some v → Value.okWide Try.prog W .any base t v := hval0
  have hW' := hW
  obtain ⟨p, q, hA0, hV, rfl, hfz, hnd⟩ := hW
  have hA : DataW.TrodAll enc Try.prog W 0 (fun _ => true) true Try.f11.params.toList args.toList ds p := hA0
  rw [Try.params11] at hA hval
  obtain ⟨v0, vs0, d0, ds0, p0, q0, hargs, rfl, rfl, h0, r0⟩ := trodAll_cons hA
  obtain ⟨v1, vs1, d1, ds1, p1, q1, rfl, rfl, rfl, h1, r1⟩ := trodAll_cons r0
  obtain ⟨rfl, rfl, rfl⟩ := trodAll_nil r1
  obtain rfl : args = #[v0, v1] := by cases args; simp_all
  obtain ⟨rfl, rfl⟩ := trodVars_none hV
  have lt0 : ∀ x ∈ p0, x.block < W.heap.size := by obtain ⟨m, hm⟩ := h0; exact DataW.trod_lt m _ _ _ hm
  have lt1 : ∀ x ∈ p1, x.block < W.heap.size := by obtain ⟨m, hm⟩ := h1; exact DataW.trod_lt m _ _ _ hm
  obtain ⟨ps0, g0, fit0, e0⟩ := arg_rv (hval 0 72 v0 rfl rfl) h0 ffRingRays_0
  rw [kkRingRays_0] at g0
  obtain ⟨x0_0, ps0_0, rfl, g0_0⟩ := wt_int g0
  obtain ⟨x0_1, ps0_1, rfl, g0_1⟩ := wt_int g0_0
  obtain ⟨x0_2, ps0_2, rfl, g0_2⟩ := wt_int g0_1
  obtain ⟨x0_3, ps0_3, rfl, g0_3⟩ := wt_int g0_2
  obtain ⟨x0_4, ps0_4, rfl, g0_4⟩ := wt_int g0_3
  obtain ⟨x0_5, ps0_5, rfl, g0_5⟩ := wt_int g0_4
  obtain rfl := wt_nil g0_5
  replace e0 := rv_agg e0 aaRingRays_0
  obtain ⟨ps1, g1, fit1, e1⟩ := arg_rv (hval 1 73 v1 rfl rfl) h1 ffRingRays_1
  rw [kkRingRays_1] at g1
  obtain ⟨x1_0, ps1_0, rfl, g1_0⟩ := wt_int g1
  obtain ⟨x1_1, ps1_1, rfl, g1_1⟩ := wt_int g1_0
  obtain ⟨x1_2, ps1_2, rfl, g1_2⟩ := wt_int g1_1
  obtain ⟨x1_3, ps1_3, rfl, g1_3⟩ := wt_int g1_2
  obtain ⟨x1_4, ps1_4, rfl, g1_4⟩ := wt_int g1_3
  obtain ⟨x1_5, ps1_5, rfl, g1_5⟩ := wt_int g1_4
  obtain rfl := wt_nil g1_5
  replace e1 := rv_agg e1 aaRingRays_1
  have hcs : Cs Try.prog (Ctx.of W) [.agg [iv x0_0, iv x0_1, iv x0_2, iv x0_3, iv x0_4, iv x0_5], .agg [iv x1_0, iv x1_1, iv x1_2, iv x1_3, iv x1_4, iv x1_5]] #[v0, v1] := cs_two e0 e1
  refine (law_calls ((law28 x0_0 x0_1 x0_2 x0_3 x0_4 x0_5 x1_0 x1_1 x1_2 x1_3 x1_4 x1_5).2) hcs).mono fun e W' ⟨he, bel⟩ => ?_
  subst he
  exact ⟨_, rfl, _, _, _, [], _, [], hW', trodAll_mk1 (shut_bool Try.underlying4 _), (trodAll_cons_mk (Below.trod laidOut (by kernel_rfl) (of_decide_eq_true (by kernel_rfl)) h0 bel lt0) (trodAll_cons_mk (Below.trod laidOut (by kernel_rfl) (of_decide_eq_true (by kernel_rfl)) h1 bel lt1) trodAll_mk0)), rfl, bel.frame _, fun h => by cases h⟩

theorem ringRays_holds : Rows.RingRaysSaid :=
  OpenClaim.holds_of_wide 11 Try.f11 rfl rfl rfl rfl rfl rfl rfl ⟨rfl, rfl, rfl, rfl, rfl⟩ rfl rfl rfl rfl rfl (by kernel_rfl) Try.func11 (by kernel_rfl)
    (of_decide_eq_true (by kernel_rfl)) (by unfold Func.isWrapper; first | (rw [if_pos (by decide +kernel)]; kernel_rfl) | (rw [if_neg (by decide +kernel)]; exact ⟨rfl, rfl⟩))
    (fun os started H enc _ => liftedRingRays os started H enc)
#print axioms ringRays_holds
end Go.Proofs.Ytneklpbkfmljfaa
