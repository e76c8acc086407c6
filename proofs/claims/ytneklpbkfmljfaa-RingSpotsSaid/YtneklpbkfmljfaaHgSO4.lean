/- RingSpots returns true for every input, and its arguments read behind the call as they read before. No condition. -/
import Derived.Test.YtneklpbkfmljfaaHgO4
import Derived.Test.YtneklpbkfmljfaaHgF
namespace Go.Proofs.Ytneklpbkfmljfaa
open Go.ChangeShapes Go.WideShapes Go.ChangeAt Go.RowKit Go.Hx Go.Hg

theorem kkRingSpots_0 : kinds Try.prog 72 = [.int .i64, .int .i64, .int .i64, .int .i64, .int .i64, .int .i64] := by kernel_rfl
theorem ffRingSpots_0 : flatB Try.prog 20 12 72 = true := by kernel_rfl
theorem aaRingSpots_0 : isAggT Try.prog 72 = true := by kernel_rfl
theorem kkRingSpots_1 : kinds Try.prog 76 = [.int .u8, .int .u8] := by kernel_rfl
theorem ffRingSpots_1 : flatB Try.prog 20 12 76 = true := by kernel_rfl
theorem aaRingSpots_1 : isAggT Try.prog 76 = true := by kernel_rfl

set_option maxRecDepth 100000 in
theorem liftedRingSpots (os : Os) (started : os.Started) (H : Type) (enc : TypeId × Value → H) :
    ReturnsInHanded {} Try.checked os 12 .any (Rows.ringSpotsSpec.pre6 enc Try.prog Try.f12 Rows.ringSpotsRow.domain false) (Rows.ringSpotsSpec.post enc Try.prog Try.f12 false true false false) := by
  refine returnsInHanded_of_change (C := Try.checked) own started (by kernel_rfl) Try.func12
    (ChangeSpec.witness6 (enc := enc) (C := Try.checked) false ⟨#[], #[.agg #[.int .i64 0, .int .i64 0, .int .i64 0, .int .i64 0, .int .i64 0, .int .i64 0], .agg #[.int .u8 0, .int .u8 0]], []⟩ 8 (by kernel_rfl) (by kernel_rfl) (by kernel_rfl) (by kernel_rfl)) ?_
  intro W base args ds gs before hval0 hW hcnd _
  have hval : ∀ (j : Nat) t v, Try.f12.params[j]? = some t → args[j]? = some v → Value.okWide Try.prog W .any base t v := hval0
  have hW' := hW
  obtain ⟨p, q, hA0, hV, rfl, hfz, hnd⟩ := hW
  have hA : DataW.TrodAll enc Try.prog W 0 (fun _ => true) true Try.f12.params.toList args.toList ds p := hA0
  rw [Try.params12] at hA hval
  obtain ⟨v0, vs0, d0, ds0, p0, q0, hargs, rfl, rfl, h0, r0⟩ := trodAll_cons hA
  obtain ⟨v1, vs1, d1, ds1, p1, q1, rfl, rfl, rfl, h1, r1⟩ := trodAll_cons r0
  obtain ⟨rfl, rfl, rfl⟩ := trodAll_nil r1
  obtain rfl : args = #[v0, v1] := by cases args; simp_all
  obtain ⟨rfl, rfl⟩ := trodVars_none hV
  have lt0 : ∀ x ∈ p0, x.block < W.heap.size := by obtain ⟨m, hm⟩ := h0; exact DataW.trod_lt m _ _ _ hm
  have lt1 : ∀ x ∈ p1, x.block < W.heap.size := by obtain ⟨m, hm⟩ := h1; exact DataW.trod_lt m _ _ _ hm
  obtain ⟨ps0, g0, fit0, e0⟩ := arg_rv (hval 0 72 v0 rfl rfl) h0 ffRingSpots_0
  rw [kkRingSpots_0] at g0
  obtain ⟨x0_0, ps0_0, rfl, g0_0⟩ := wt_int g0
  obtain ⟨x0_1, ps0_1, rfl, g0_1⟩ := wt_int g0_0
  obtain ⟨x0_2, ps0_2, rfl, g0_2⟩ := wt_int g0_1
  obtain ⟨x0_3, ps0_3, rfl, g0_3⟩ := wt_int g0_2
  obtain ⟨x0_4, ps0_4, rfl, g0_4⟩ := wt_int g0_3
  obtain ⟨x0_5, ps0_5, rfl, g0_5⟩ := wt_int g0_4
  obtain rfl := wt_nil g0_5
  replace e0 := rv_agg e0 aaRingSpots_0
  obtain ⟨ps1, g1, fit1, e1⟩ := arg_rv (hval 1 76 v1 rfl rfl) h1 ffRingSpots_1
  rw [kkRingSpots_1] at g1
  obtain ⟨x1_0, ps1_0, rfl, g1_0⟩ := wt_int g1
  obtain ⟨x1_1, ps1_1, rfl, g1_1⟩ := wt_int g1_0
  obtain rfl := wt_nil g1_1
  replace e1 := rv_agg e1 aaRingSpots_1
  have hcs : Cs Try.prog (Ctx.of W) [.agg [iv x0_0, iv x0_1, iv x0_2, iv x0_3, iv x0_4, iv x0_5], .agg [.val (.int .u8 x1_0), .val (.int .u8 x1_1)]] #[v0, v1] := cs_two e0 e1
  refine (law_calls ((law29 x0_0 x0_1 x0_2 x0_3 x0_4 x0_5 (m := x1_0) (n := x1_1) ⟨(fit_u8 (fit1 (.val (.int .u8 x1_0)) (by simp))).1, Int.lt_of_le_of_lt (fit_u8 (fit1 (.val (.int .u8 x1_0)) (by simp))).2 (by decide)⟩ ⟨(fit_u8 (fit1 (.val (.int .u8 x1_1)) (by simp))).1, Int.lt_of_le_of_lt (fit_u8 (fit1 (.val (.int .u8 x1_1)) (by simp))).2 (by decide)⟩).2) hcs).mono fun e W' ⟨he, bel⟩ => ?_
  subst he
  exact ⟨_, rfl, _, _, _, [], _, [], hW', trodAll_mk1 (shut_bool Try.underlying4 _), (trodAll_cons_mk (Below.trod laidOut (by kernel_rfl) (of_decide_eq_true (by kernel_rfl)) h0 bel lt0) (trodAll_cons_mk (Below.trod laidOut (by kernel_rfl) (of_decide_eq_true (by kernel_rfl)) h1 bel lt1) trodAll_mk0)), rfl, bel.frame _, fun h => by cases h⟩

theorem ringSpots_holds : Rows.RingSpotsSaid :=
  OpenClaim.holds_of_wide 12 Try.f12 rfl rfl rfl rfl rfl rfl rfl ⟨rfl, rfl, rfl, rfl, rfl⟩ rfl rfl rfl rfl rfl (by kernel_rfl) Try.func12 (by kernel_rfl)
    (of_decide_eq_true (by kernel_rfl)) (by unfold Func.isWrapper; first | (rw [if_pos (by decide +kernel)]; kernel_rfl) | (rw [if_neg (by decide +kernel)]; exact ⟨rfl, rfl⟩))
    (fun os started H enc _ => liftedRingSpots os started H enc)
#print axioms ringSpots_holds
end Go.Proofs.Ytneklpbkfmljfaa
