/- LineNears returns true for every input, and its arguments read behind the call as they read before. No condition. -/
import Derived.Test.YtneklpbkfmljfaaPart6
namespace Go.Proofs.Ytneklpbkfmljfaa
open Go.ChangeShapes Go.WideShapes Go.ChangeAt Go.RowKit Go.Hx Go.Hg

theorem kkLineNears_0 : kinds Try.prog 62 = [.sl 3] := by kernel_rfl
theorem ffLineNears_0 : flatB Try.prog 20 12 62 = true := by kernel_rfl
theorem aaLineNears_0 : isAggT Try.prog 62 = false := by kernel_rfl
theorem kkLineNears_1 : kinds Try.prog 23 = [.int .i64, .int .i64] := by kernel_rfl
theorem ffLineNears_1 : flatB Try.prog 20 12 23 = true := by kernel_rfl
theorem aaLineNears_1 : isAggT Try.prog 23 = true := by kernel_rfl
theorem kkLineNears_2 : kinds Try.prog 89 = [.int .u16, .int .u16] := by kernel_rfl
theorem ffLineNears_2 : flatB Try.prog 20 12 89 = true := by kernel_rfl
theorem aaLineNears_2 : isAggT Try.prog 89 = true := by kernel_rfl

set_option maxRecDepth 100000 in
theorem liftedLineNears (os : Os) (started : os.Started) (H : Type) (enc : TypeId × Value → H) :
    ReturnsInHanded {} Try.checked os 18 .any (Rows.lineNearsSpec.pre6 enc Try.prog Try.f18 Rows.lineNearsRow.domain false) (Rows.lineNearsSpec.post enc Try.prog Try.f18 false true false false) := by
  refine returnsInHanded_of_change (C := Try.checked) own started (by kernel_rfl) Try.func18
    (ChangeSpec.witness6 (enc := enc) (C := Try.checked) false ⟨#[], #[.slice none 0 0, .agg #[.int .i64 0, .int .i64 0], .agg #[.int .u16 0, .int .u16 0]], []⟩ 8 (by kernel_rfl) (by kernel_rfl) (by kernel_rfl) (by kernel_rfl)) ?_
  intro W base args ds gs before hval0 hW hcnd _
  have hval : ∀ (j : Nat) t v, Try.f18.params[j]? = some t → args[j]? = some v → Value.okWide Try.prog W .any base t v := hval0
  have hW' := hW
  obtain ⟨p, q, hA0, hV, rfl, hfz, hnd⟩ := hW
  have hA : DataW.TrodAll enc Try.prog W 0 (fun _ => true) true Try.f18.params.toList args.toList ds p := hA0
  rw [Try.params18] at hA hval
  obtain ⟨v0, vs0, d0, ds0, p0, q0, hargs, rfl, rfl, h0, r0⟩ := trodAll_cons hA
  obtain ⟨v1, vs1, d1, ds1, p1, q1, rfl, rfl, rfl, h1, r1⟩ := trodAll_cons r0
  obtain ⟨v2, vs2, d2, ds2, p2, q2, rfl, rfl, rfl, h2, r2⟩ := trodAll_cons r1
  obtain ⟨rfl, rfl, rfl⟩ := trodAll_nil r2
  obtain rfl : args = #[v0, v1, v2] := by cases args; simp_all
  obtain ⟨rfl, rfl⟩ := trodVars_none hV
  have lt0 : ∀ x ∈ p0, x.block < W.heap.size := by obtain ⟨m, hm⟩ := h0; exact DataW.trod_lt m _ _ _ hm
  have lt1 : ∀ x ∈ p1, x.block < W.heap.size := by obtain ⟨m, hm⟩ := h1; exact DataW.trod_lt m _ _ _ hm
  have lt2 : ∀ x ∈ p2, x.block < W.heap.size := by obtain ⟨m, hm⟩ := h2; exact DataW.trod_lt m _ _ _ hm
  obtain ⟨ps0, g0, fit0, e0⟩ := arg_rv (hval 0 62 v0 rfl rfl) h0 ffLineNears_0
  rw [kkLineNears_0] at g0
  obtain ⟨f0_0, x0_0, ps0_0, rfl, g0_0⟩ := wt_sl g0
  obtain rfl := wt_nil g0_0
  replace e0 := rv_one e0 aaLineNears_0
  obtain ⟨ps1, g1, fit1, e1⟩ := arg_rv (hval 1 23 v1 rfl rfl) h1 ffLineNears_1
  rw [kkLineNears_1] at g1
  obtain ⟨x1_0, ps1_0, rfl, g1_0⟩ := wt_int g1
  obtain ⟨x1_1, ps1_1, rfl, g1_1⟩ := wt_int g1_0
  obtain rfl := wt_nil g1_1
  replace e1 := rv_agg e1 aaLineNears_1
  obtain ⟨ps2, g2, fit2, e2⟩ := arg_rv (hval 2 89 v2 rfl rfl) h2 ffLineNears_2
  rw [kkLineNears_2] at g2
  obtain ⟨x2_0, ps2_0, rfl, g2_0⟩ := wt_int g2
  obtain ⟨x2_1, ps2_1, rfl, g2_1⟩ := wt_int g2_0
  obtain rfl := wt_nil g2_1
  replace e2 := rv_agg e2 aaLineNears_2
  have hcs : Cs Try.prog (Ctx.of W) [.lst f0_0 3 x0_0, .agg [iv x1_0, iv x1_1], .agg [.val (.int .u16 x2_0), .val (.int .u16 x2_1)]] #[v0, v1, v2] := cs_three e0 e1 e2
  refine (law_calls ((law19 f0_0 x0_0 x1_0 x1_1 (p := x2_0) (q := x2_1) ⟨(fit_u16 (fit2 (.val (.int .u16 x2_0)) (by simp))).1, Int.lt_of_le_of_lt (fit_u16 (fit2 (.val (.int .u16 x2_0)) (by simp))).2 (by decide)⟩ ⟨(fit_u16 (fit2 (.val (.int .u16 x2_1)) (by simp))).1, Int.lt_of_le_of_lt (fit_u16 (fit2 (.val (.int .u16 x2_1)) (by simp))).2 (by decide)⟩).2) hcs).mono fun e W' ⟨he, bel⟩ => ?_
  subst he
  exact ⟨_, rfl, _, _, _, [], _, [], hW', trodAll_mk1 (shut_bool Try.underlying4 _), (trodAll_cons_mk (Below.trod laidOut (by kernel_rfl) (of_decide_eq_true (by kernel_rfl)) h0 bel lt0) (trodAll_cons_mk (Below.trod laidOut (by kernel_rfl) (of_decide_eq_true (by kernel_rfl)) h1 bel lt1) (trodAll_cons_mk (Below.trod laidOut (by kernel_rfl) (of_decide_eq_true (by kernel_rfl)) h2 bel lt2) trodAll_mk0))), rfl, bel.frame _, fun h => by cases h⟩

theorem lineNears_holds : Rows.LineNearsSaid :=
  OpenClaim.holds_of_wide 18 Try.f18 rfl rfl rfl rfl rfl rfl rfl ⟨rfl, rfl, rfl, rfl, rfl⟩ rfl rfl rfl rfl rfl (by kernel_rfl) Try.func18 (by kernel_rfl)
    (of_decide_eq_true (by kernel_rfl)) (by unfold Func.isWrapper; first | (rw [if_pos (by decide +kernel)]; kernel_rfl) | (rw [if_neg (by decide +kernel)]; exact ⟨rfl, rfl⟩))
    (fun os started H enc _ => liftedLineNears os started H enc)
#print axioms lineNears_holds
end Go.Proofs.Ytneklpbkfmljfaa
