/- RingArea returns true for every input, and its arguments read behind the call as they read before. No condition. -/
import Derived.Test.YtneklpbkfmljfaaPart6
import Derived.Test.YtneklpbkfmljfaaHgF
namespace Go.Proofs.Ytneklpbkfmljfaa
open Go.ChangeShapes Go.WideShapes Go.ChangeAt Go.RowKit Go.Hx Go.Hg

theorem kkRingArea_0 : kinds Try.prog 62 = [.sl 3] := by kernel_rfl
theorem ffRingArea_0 : flatB Try.prog 20 12 62 = true := by kernel_rfl
theorem aaRingArea_0 : isAggT Try.prog 62 = false := by kernel_rfl
theorem kkRingArea_1 : kinds Try.prog 5 = [.int .u8] := by kernel_rfl
theorem ffRingArea_1 : flatB Try.prog 20 12 5 = true := by kernel_rfl
theorem aaRingArea_1 : isAggT Try.prog 5 = false := by kernel_rfl
theorem kkRingArea_2 : kinds Try.prog 23 = [.int .i64, .int .i64] := by kernel_rfl
theorem ffRingArea_2 : flatB Try.prog 20 12 23 = true := by kernel_rfl
theorem aaRingArea_2 : isAggT Try.prog 23 = true := by kernel_rfl
theorem kkRingArea_3 : kinds Try.prog 23 = [.int .i64, .int .i64] := by kernel_rfl
theorem ffRingArea_3 : flatB Try.prog 20 12 23 = true := by kernel_rfl
theorem aaRingArea_3 : isAggT Try.prog 23 = true := by kernel_rfl

set_option maxRecDepth 100000 in
theorem liftedRingArea (os : Os) (started : os.Started) (H : Type) (enc : TypeId × Value → H) :
    ReturnsInHanded {} Try.checked os 13 .any (Rows.ringAreaSpec.pre6 enc Try.prog Try.f13 Rows.ringAreaRow.domain false) (Rows.ringAreaSpec.post enc Try.prog Try.f13 false true false false) := by
  refine returnsInHanded_of_change (C := Try.checked) own started (by kernel_rfl) Try.func13
    (ChangeSpec.witness6 (enc := enc) (C := Try.checked) false ⟨#[], #[.slice none 0 0, .int .u8 0, .agg #[.int .i64 0, .int .i64 0], .agg #[.int .i64 0, .int .i64 0]], []⟩ 8 (by kernel_rfl) (by kernel_rfl) (by kernel_rfl) (by kernel_rfl)) ?_
  intro W base args ds gs before hval0 hW hcnd _
  have hval : ∀ (j : Nat) t v, Try.f13.params[j]? = some t → args[j]? = some v → Value.okWide Try.prog W .any base t v := hval0
  have hW' := hW
  obtain ⟨p, q, hA0, hV, rfl, hfz, hnd⟩ := hW
  have hA : DataW.TrodAll enc Try.prog W 0 (fun _ => true) true Try.f13.params.toList args.toList ds p := hA0
  rw [Try.params13] at hA hval
  obtain ⟨v0, vs0, d0, ds0, p0, q0, hargs, rfl, rfl, h0, r0⟩ := trodAll_cons hA
  obtain ⟨v1, vs1, d1, ds1, p1, q1, rfl, rfl, rfl, h1, r1⟩ := trodAll_cons r0
  obtain ⟨v2, vs2, d2, ds2, p2, q2, rfl, rfl, rfl, h2, r2⟩ := trodAll_cons r1
  obtain ⟨v3, vs3, d3, ds3, p3, q3, rfl, rfl, rfl, h3, r3⟩ := trodAll_cons r2
  obtain ⟨rfl, rfl, rfl⟩ := trodAll_nil r3
  obtain rfl : args = #[v0, v1, v2, v3] := by cases args; simp_all
  obtain ⟨rfl, rfl⟩ := trodVars_none hV
  have lt0 : ∀ x ∈ p0, x.block < W.heap.size := by obtain ⟨m, hm⟩ := h0; exact DataW.trod_lt m _ _ _ hm
  have lt1 : ∀ x ∈ p1, x.block < W.heap.size := by obtain ⟨m, hm⟩ := h1; exact DataW.trod_lt m _ _ _ hm
  have lt2 : ∀ x ∈ p2, x.block < W.heap.size := by obtain ⟨m, hm⟩ := h2; exact DataW.trod_lt m _ _ _ hm
  have lt3 : ∀ x ∈ p3, x.block < W.heap.size := by obtain ⟨m, hm⟩ := h3; exact DataW.trod_lt m _ _ _ hm
  obtain ⟨ps0, g0, fit0, e0⟩ := arg_rv (hval 0 62 v0 rfl rfl) h0 ffRingArea_0
  rw [kkRingArea_0] at g0
  obtain ⟨f0_0, x0_0, ps0_0, rfl, g0_0⟩ := wt_sl g0
  obtain rfl := wt_nil g0_0
  replace e0 := rv_one e0 aaRingArea_0
  obtain ⟨ps1, g1, fit1, e1⟩ := arg_rv (hval 1 5 v1 rfl rfl) h1 ffRingArea_1
  rw [kkRingArea_1] at g1
  obtain ⟨x1_0, ps1_0, rfl, g1_0⟩ := wt_int g1
  obtain rfl := wt_nil g1_0
  replace e1 := rv_one e1 aaRingArea_1
  obtain ⟨ps2, g2, fit2, e2⟩ := arg_rv (hval 2 23 v2 rfl rfl) h2 ffRingArea_2
  rw [kkRingArea_2] at g2
  obtain ⟨x2_0, ps2_0, rfl, g2_0⟩ := wt_int g2
  obtain ⟨x2_1, ps2_1, rfl, g2_1⟩ := wt_int g2_0
  obtain rfl := wt_nil g2_1
  replace e2 := rv_agg e2 aaRingArea_2
  obtain ⟨ps3, g3, fit3, e3⟩ := arg_rv (hval 3 23 v3 rfl rfl) h3 ffRingArea_3
  rw [kkRingArea_3] at g3
  obtain ⟨x3_0, ps3_0, rfl, g3_0⟩ := wt_int g3
  obtain ⟨x3_1, ps3_1, rfl, g3_1⟩ := wt_int g3_0
  obtain rfl := wt_nil g3_1
  replace e3 := rv_agg e3 aaRingArea_3
  have hcs : Cs Try.prog (Ctx.of W) [.lst f0_0 3 x0_0, .val (.int .u8 x1_0), .agg [iv x2_0, iv x2_1], .agg [iv x3_0, iv x3_1]] #[v0, v1, v2, v3] := cs_four e0 e1 e2 e3
  refine (law_calls ((law13 f0_0 x0_0 (wh := x1_0) x2_0 x2_1 x3_0 x3_1 ⟨(fit_u8 (fit1 (.val (.int .u8 x1_0)) (by simp))).1, Int.lt_of_le_of_lt (fit_u8 (fit1 (.val (.int .u8 x1_0)) (by simp))).2 (by decide)⟩).2) hcs).mono fun e W' ⟨he, bel⟩ => ?_
  subst he
  exact ⟨_, rfl, _, _, _, [], _, [], hW', trodAll_mk1 (shut_bool Try.underlying4 _), (trodAll_cons_mk (Below.trod laidOut (by kernel_rfl) (of_decide_eq_true (by kernel_rfl)) h0 bel lt0) (trodAll_cons_mk (Below.trod laidOut (by kernel_rfl) (of_decide_eq_true (by kernel_rfl)) h1 bel lt1) (trodAll_cons_mk (Below.trod laidOut (by kernel_rfl) (of_decide_eq_true (by kernel_rfl)) h2 bel lt2) (trodAll_cons_mk (Below.trod laidOut (by kernel_rfl) (of_decide_eq_true (by kernel_rfl)) h3 bel lt3) trodAll_mk0)))), rfl, bel.frame _, fun h => by cases h⟩

theorem ringArea_holds : Rows.RingAreaSaid :=
  OpenClaim.holds_of_wide 13 Try.f13 rfl rfl rfl rfl rfl rfl rfl ⟨rfl, rfl, rfl, rfl, rfl⟩ rfl rfl rfl rfl rfl (by kernel_rfl) Try.func13 (by kernel_rfl)
    (of_decide_eq_true (by kernel_rfl)) (by unfold Func.isWrapper; first | (rw [if_pos (by decide +kernel)]; kernel_rfl) | (rw [if_neg (by decide +kernel)]; exact ⟨rfl, rfl⟩))
    (fun os started H enc _ => liftedRingArea os started H enc)
#print axioms ringArea_holds
end Go.Proofs.Ytneklpbkfmljfaa
