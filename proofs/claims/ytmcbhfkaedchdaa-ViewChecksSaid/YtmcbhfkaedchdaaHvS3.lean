/- ViewChecks returns true for every input, and its arguments read behind the call as they read before. No condition. -/
import Derived.Test.YtmcbhfkaedchdaaHvL3
import Derived.Test.YtmcbhfkaedchdaaHvF
namespace Go.Proofs.Ytmcbhfkaedchdaa
open Go.ChangeShapes Go.WideShapes Go.ChangeAt Go.RowKit Go.Hx Go.Hv

theorem kk3_22 : kinds Try.prog 22 = [.sl 3] := by kernel_rfl
theorem ff3_22 : flatB Try.prog 20 12 22 = true := by kernel_rfl
theorem aa3_22 : isAggT Try.prog 22 = false := by kernel_rfl
theorem kk3_24 : kinds Try.prog 24 = [.int .i64, .int .i64, .int .i64, .int .i64] := by kernel_rfl
theorem ff3_24 : flatB Try.prog 20 12 24 = true := by kernel_rfl
theorem aa3_24 : isAggT Try.prog 24 = true := by kernel_rfl
theorem kk3_28 : kinds Try.prog 28 = [.int .i64, .int .i64, .int .i64, .int .i64, .int .i64, .int .i64, .int .i64] := by kernel_rfl
theorem ff3_28 : flatB Try.prog 20 12 28 = true := by kernel_rfl
theorem aa3_28 : isAggT Try.prog 28 = true := by kernel_rfl

set_option maxRecDepth 100000 in
theorem lifted3 (os : Os) (started : os.Started) (H : Type) (enc : TypeId × Value → H) :
    ReturnsInHanded {} Try.checked os 3 .any (Rows.viewChecksSpec.pre6 enc Try.prog Try.f3 Rows.viewChecksRow.domain false) (Rows.viewChecksSpec.post enc Try.prog Try.f3 false true false false) := by
  refine returnsInHanded_of_change (C := Try.checked) own started (by kernel_rfl) Try.func3
    (ChangeSpec.witness6 (enc := enc) (C := Try.checked) false ⟨#[], #[.slice none 0 0, .agg #[.int .i64 0, .int .i64 0, .int .i64 0, .int .i64 0], .agg #[.int .i64 0, .int .i64 0, .int .i64 0, .int .i64 0, .int .i64 0, .int .i64 0, .int .i64 0]], []⟩ 8 (by kernel_rfl) (by kernel_rfl) (by kernel_rfl) (by kernel_rfl)) ?_
  intro W base args ds gs before hval0 hW hcnd _
  have hval : ∀ (j : Nat) t v, Try.f3.params[j]? = some t → args[j]? = some v → Value.okWide Try.prog W .any base t v := hval0
  have hW' := hW
  obtain ⟨p, q, hA0, hV, rfl, hfz, hnd⟩ := hW
  have hA : DataW.TrodAll enc Try.prog W 0 (fun _ => true) true Try.f3.params.toList args.toList ds p := hA0
  rw [Try.params3] at hA hval
  obtain ⟨v0, vs0, d0, ds0, p0, q0, hargs, rfl, rfl, h0, r0⟩ := trodAll_cons hA
  obtain ⟨v1, vs1, d1, ds1, p1, q1, rfl, rfl, rfl, h1, r1⟩ := trodAll_cons r0
  obtain ⟨v2, vs2, d2, ds2, p2, q2, rfl, rfl, rfl, h2, r2⟩ := trodAll_cons r1
  obtain ⟨rfl, rfl, rfl⟩ := trodAll_nil r2
  obtain rfl : args = #[v0, v1, v2] := by cases args; simp_all
  obtain ⟨rfl, rfl⟩ := trodVars_none hV
  have lt0 : ∀ x ∈ p0, x.block < W.heap.size := by obtain ⟨m, hm⟩ := h0; exact DataW.trod_lt m _ _ _ hm
  have lt1 : ∀ x ∈ p1, x.block < W.heap.size := by obtain ⟨m, hm⟩ := h1; exact DataW.trod_lt m _ _ _ hm
  have lt2 : ∀ x ∈ p2, x.block < W.heap.size := by obtain ⟨m, hm⟩ := h2; exact DataW.trod_lt m _ _ _ hm
  obtain ⟨ps0, g0, fit0, e0⟩ := arg_rv (hval 0 22 v0 rfl rfl) h0 ff3_22
  rw [kk3_22] at g0
  obtain ⟨f0_0, x0_0, ps0_0, rfl, g0_0⟩ := wt_sl g0
  obtain rfl := wt_nil g0_0
  replace e0 := rv_one e0 aa3_22
  obtain ⟨ps1, g1, fit1, e1⟩ := arg_rv (hval 1 24 v1 rfl rfl) h1 ff3_24
  rw [kk3_24] at g1
  obtain ⟨x1_0, ps1_0, rfl, g1_0⟩ := wt_int g1
  obtain ⟨x1_1, ps1_1, rfl, g1_1⟩ := wt_int g1_0
  obtain ⟨x1_2, ps1_2, rfl, g1_2⟩ := wt_int g1_1
  obtain ⟨x1_3, ps1_3, rfl, g1_3⟩ := wt_int g1_2
  obtain rfl := wt_nil g1_3
  replace e1 := rv_agg e1 aa3_24
  obtain ⟨ps2, g2, fit2, e2⟩ := arg_rv (hval 2 28 v2 rfl rfl) h2 ff3_28
  rw [kk3_28] at g2
  obtain ⟨x2_0, ps2_0, rfl, g2_0⟩ := wt_int g2
  obtain ⟨x2_1, ps2_1, rfl, g2_1⟩ := wt_int g2_0
  obtain ⟨x2_2, ps2_2, rfl, g2_2⟩ := wt_int g2_1
  obtain ⟨x2_3, ps2_3, rfl, g2_3⟩ := wt_int g2_2
  obtain ⟨x2_4, ps2_4, rfl, g2_4⟩ := wt_int g2_3
  obtain ⟨x2_5, ps2_5, rfl, g2_5⟩ := wt_int g2_4
  obtain ⟨x2_6, ps2_6, rfl, g2_6⟩ := wt_int g2_5
  obtain rfl := wt_nil g2_6
  replace e2 := rv_agg e2 aa3_28
  have hcs : Cs Try.prog (Ctx.of W) [.lst f0_0 3 x0_0, .agg [iv x1_0, iv x1_1, iv x1_2, iv x1_3], .agg [iv x2_0, iv x2_1, iv x2_2, iv x2_3, iv x2_4, iv x2_5, iv x2_6]] #[v0, v1, v2] := cs_three e0 e1 e2
  refine (law_calls ((law3 f0_0 x0_0 x1_0 x1_1 x1_2 x1_3 x2_0 x2_1 x2_2 x2_4 x2_5 x2_6 (fit_i64 (fit2 (iv x2_3) (by simp)))).2) hcs).mono fun e W' ⟨he, bel⟩ => ?_
  subst he
  exact ⟨_, rfl, _, _, _, [], _, [], hW', trodAll_mk1 (shut_bool Try.underlying4 _), (trodAll_cons_mk (Below.trod laidOut (by kernel_rfl) (of_decide_eq_true (by kernel_rfl)) h0 bel lt0) (trodAll_cons_mk (Below.trod laidOut (by kernel_rfl) (of_decide_eq_true (by kernel_rfl)) h1 bel lt1) (trodAll_cons_mk (Below.trod laidOut (by kernel_rfl) (of_decide_eq_true (by kernel_rfl)) h2 bel lt2) trodAll_mk0))), rfl, bel.frame _, fun h => by cases h⟩

theorem viewChecks_holds : Rows.ViewChecksSaid :=
  OpenClaim.holds_of_wide 3 Try.f3 rfl rfl rfl rfl rfl rfl rfl ⟨rfl, rfl, rfl, rfl, rfl⟩ rfl rfl rfl rfl rfl (by kernel_rfl) Try.func3 (by kernel_rfl)
    (of_decide_eq_true (by kernel_rfl)) (by unfold Func.isWrapper; first | (rw [if_pos (by decide +kernel)]; kernel_rfl) | (rw [if_neg (by decide +kernel)]; exact ⟨rfl, rfl⟩))
    (fun os started H enc _ => lifted3 os started H enc)
#print axioms viewChecks_holds
end Go.Proofs.Ytmcbhfkaedchdaa
