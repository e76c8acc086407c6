/- LineCorners returns true for every input, and its arguments read behind the call as they read before. No condition. -/
import Derived.Test.YtneklpbkfmljfaaPart6
namespace Go.Proofs.Ytneklpbkfmljfaa
open Go.ChangeShapes Go.WideShapes Go.ChangeAt Go.RowKit Go.Hx Go.Hg

theorem kkLineCorners_0 : kinds Try.prog 91 = [.int .i64, .int .i64, .int .i64, .int .i64, .int .i64, .int .i64, .int .i64, .int .i64, .int .i64, .int .i64] := by kernel_rfl
theorem ffLineCorners_0 : flatB Try.prog 20 12 91 = true := by kernel_rfl
theorem aaLineCorners_0 : isAggT Try.prog 91 = true := by kernel_rfl

set_option maxRecDepth 100000 in
theorem liftedLineCorners (os : Os) (started : os.Started) (H : Type) (enc : TypeId × Value → H) :
    ReturnsInHanded {} Try.checked os 19 .any (Rows.lineCornersSpec.pre6 enc Try.prog Try.f19 Rows.lineCornersRow.domain false) (Rows.lineCornersSpec.post enc Try.prog Try.f19 false true false false) := by
  refine returnsInHanded_of_change (C := Try.checked) own started (by kernel_rfl) Try.func19
    (ChangeSpec.witness6 (enc := enc) (C := Try.checked) false ⟨#[], #[.agg #[.int .i64 0, .int .i64 0, .int .i64 0, .int .i64 0, .int .i64 0, .int .i64 0, .int .i64 0, .int .i64 0, .int .i64 0, .int .i64 0]], []⟩ 8 (by kernel_rfl) (by kernel_rfl) (by kernel_rfl) (by kernel_rfl)) ?_
  intro W base args ds gs before hval0 hW hcnd _
  have hval : ∀ (j : Nat) t v, Try.f19.params[j]? = some t → args[j]? = some v → Value.okWide Try.prog W .any base t v := hval0
  have hW' := hW
  obtain ⟨p, q, hA0, hV, rfl, hfz, hnd⟩ := hW
  have hA : DataW.TrodAll enc Try.prog W 0 (fun _ => true) true Try.f19.params.toList args.toList ds p := hA0
  rw [Try.params19] at hA hval
  obtain ⟨v0, vs0, d0, ds0, p0, q0, hargs, rfl, rfl, h0, r0⟩ := trodAll_cons hA
  obtain ⟨rfl, rfl, rfl⟩ := trodAll_nil r0
  obtain rfl : args = #[v0] := by cases args; simp_all
  obtain ⟨rfl, rfl⟩ := trodVars_none hV
  have lt0 : ∀ x ∈ p0, x.block < W.heap.size := by obtain ⟨m, hm⟩ := h0; exact DataW.trod_lt m _ _ _ hm
  obtain ⟨ps0, g0, fit0, e0⟩ := arg_rv (hval 0 91 v0 rfl rfl) h0 ffLineCorners_0
  rw [kkLineCorners_0] at g0
  obtain ⟨x0_0, ps0_0, rfl, g0_0⟩ := wt_int g0
  obtain ⟨x0_1, ps0_1, rfl, g0_1⟩ := wt_int g0_0
  obtain ⟨x0_2, ps0_2, rfl, g0_2⟩ := wt_int g0_1
  obtain ⟨x0_3, ps0_3, rfl, g0_3⟩ := wt_int g0_2
  obtain ⟨x0_4, ps0_4, rfl, g0_4⟩ := wt_int g0_3
  obtain ⟨x0_5, ps0_5, rfl, g0_5⟩ := wt_int g0_4
  obtain ⟨x0_6, ps0_6, rfl, g0_6⟩ := wt_int g0_5
  obtain ⟨x0_7, ps0_7, rfl, g0_7⟩ := wt_int g0_6
  obtain ⟨x0_8, ps0_8, rfl, g0_8⟩ := wt_int g0_7
  obtain ⟨x0_9, ps0_9, rfl, g0_9⟩ := wt_int g0_8
  obtain rfl := wt_nil g0_9
  replace e0 := rv_agg e0 aaLineCorners_0
  have hcs : Cs Try.prog (Ctx.of W) [.agg [iv x0_0, iv x0_1, iv x0_2, iv x0_3, iv x0_4, iv x0_5, iv x0_6, iv x0_7, iv x0_8, iv x0_9]] #[v0] := cs_one e0
  refine (law_calls ((law19 x0_0 x0_1 x0_2 x0_3 x0_4 x0_5 x0_6 x0_7 x0_8 x0_9).2) hcs).mono fun e W' ⟨he, bel⟩ => ?_
  subst he
  exact ⟨_, rfl, _, _, _, [], _, [], hW', trodAll_mk1 (shut_bool Try.underlying4 _), (trodAll_cons_mk (Below.trod laidOut (by kernel_rfl) (of_decide_eq_true (by kernel_rfl)) h0 bel lt0) trodAll_mk0), rfl, bel.frame _, fun h => by cases h⟩

theorem lineCorners_holds : Rows.LineCornersSaid :=
  OpenClaim.holds_of_wide 19 Try.f19 rfl rfl rfl rfl rfl rfl rfl ⟨rfl, rfl, rfl, rfl, rfl⟩ rfl rfl rfl rfl rfl (by kernel_rfl) Try.func19 (by kernel_rfl)
    (of_decide_eq_true (by kernel_rfl)) (by unfold Func.isWrapper; first | (rw [if_pos (by decide +kernel)]; kernel_rfl) | (rw [if_neg (by decide +kernel)]; exact ⟨rfl, rfl⟩))
    (fun os started H enc _ => liftedLineCorners os started H enc)
#print axioms lineCorners_holds
end Go.Proofs.Ytneklpbkfmljfaa
