/- PointSums returns true for every input, and its arguments read behind the call as they read before. No condition. -/
import Derived.Test.YtneklpbkfmljfaaHgL8
import Derived.Test.YtneklpbkfmljfaaHgF
namespace Go.Proofs.Ytneklpbkfmljfaa
open Go.ChangeShapes Go.WideShapes Go.ChangeAt Go.RowKit Go.Hx Go.Hg

theorem kPt : kinds Try.prog 23 = [.int .i64, .int .i64] := by kernel_rfl
/-- The points of a list that was read fit. -/
theorem rng_of {W : World} {f : Bool} {es : List PV} {v : Value} (he : RV Try.prog (Ctx.of W) (.lst f 23 es) v) (hf : Fit (.lst f 23 es)) : ∀ p, p ∈ es → rng p = true := by
  intro p hp
  cases he with
  | lst b off cv hcap hfull ha hc hr ht =>
    cases hf with
    | lst hl h =>
      have h1 := ht p hp
      unfold wt at h1
      rw [Bool.and_eq_true, kPt] at h1
      obtain ⟨x, ps, e1, g1⟩ := wt_int h1.1
      obtain ⟨y, ps2, rfl, g2⟩ := wt_int g1
      obtain rfl := wt_nil g2
      have h2 := fit_i64 (h p hp (.val (.int .i64 y)) (by rw [e1]; simp))
      unfold rng cell
      rw [e1]
      show (decide (-9223372036854775808 ≤ y) && decide (y ≤ 9223372036854775807)) = true
      rw [decide_eq_true h2.1, decide_eq_true h2.2]; rfl
theorem kkPointSums_0 : kinds Try.prog 53 = [.sl 23] := by kernel_rfl
theorem ffPointSums_0 : flatB Try.prog 20 12 53 = true := by kernel_rfl
theorem aaPointSums_0 : isAggT Try.prog 53 = false := by kernel_rfl
theorem kkPointSums_1 : kinds Try.prog 56 = [.int .i64, .int .i64, .int .i64, .int .i64, .int .i64, .int .i64, .int .i64, .int .i64] := by kernel_rfl
theorem ffPointSums_1 : flatB Try.prog 20 12 56 = true := by kernel_rfl
theorem aaPointSums_1 : isAggT Try.prog 56 = true := by kernel_rfl
theorem kkPointSums_2 : kinds Try.prog 3 = [.int .i64] := by kernel_rfl
theorem ffPointSums_2 : flatB Try.prog 20 12 3 = true := by kernel_rfl
theorem aaPointSums_2 : isAggT Try.prog 3 = false := by kernel_rfl

set_option maxRecDepth 100000 in
theorem liftedPointSums (os : Os) (started : os.Started) (H : Type) (enc : TypeId × Value → H) :
    ReturnsInHanded {} Try.checked os 8 .any (Rows.pointSumsSpec.pre6 enc Try.prog Try.f8 Rows.pointSumsRow.domain false) (Rows.pointSumsSpec.post enc Try.prog Try.f8 false true false false) := by
  refine returnsInHanded_of_change (C := Try.checked) own started (by kernel_rfl) Try.func8
    (ChangeSpec.witness6 (enc := enc) (C := Try.checked) false ⟨#[], #[.slice none 0 0, .agg #[.int .i64 0, .int .i64 0, .int .i64 0, .int .i64 0, .int .i64 0, .int .i64 0, .int .i64 0, .int .i64 0], .int .i64 0], []⟩ 8 (by kernel_rfl) (by kernel_rfl) (by kernel_rfl) (by kernel_rfl)) ?_
  intro W base args ds gs before hval0 hW hcnd _
  have hval : ∀ (j : Nat) t v, Try.f8.params[j]? = some t → args[j]? = some v → Value.okWide Try.prog W .any base t v := hval0
  have hW' := hW
  obtain ⟨p, q, hA0, hV, rfl, hfz, hnd⟩ := hW
  have hA : DataW.TrodAll enc Try.prog W 0 (fun _ => true) true Try.f8.params.toList args.toList ds p := hA0
  rw [Try.params8] at hA hval
  obtain ⟨v0, vs0, d0, ds0, p0, q0, hargs, rfl, rfl, h0, r0⟩ := trodAll_cons hA
  obtain ⟨v1, vs1, d1, ds1, p1, q1, rfl, rfl, rfl, h1, r1⟩ := trodAll_cons r0
  obtain ⟨v2, vs2, d2, ds2, p2, q2, rfl, rfl, rfl, h2, r2⟩ := trodAll_cons r1
  obtain ⟨rfl, rfl, rfl⟩ := trodAll_nil r2
  obtain rfl : args = #[v0, v1, v2] := by cases args; simp_all
  obtain ⟨rfl, rfl⟩ := trodVars_none hV
  have lt0 : ∀ x ∈ p0, x.block < W.heap.size := by obtain ⟨m, hm⟩ := h0; exact DataW.trod_lt m _ _ _ hm
  have lt1 : ∀ x ∈ p1, x.block < W.heap.size := by obtain ⟨m, hm⟩ := h1; exact DataW.trod_lt m _ _ _ hm
  have lt2 : ∀ x ∈ p2, x.block < W.heap.size := by obtain ⟨m, hm⟩ := h2; exact DataW.trod_lt m _ _ _ hm
  obtain ⟨ps0, g0, fit0, e0⟩ := arg_rv (hval 0 53 v0 rfl rfl) h0 ffPointSums_0
  rw [kkPointSums_0] at g0
  obtain ⟨f0_0, x0_0, ps0_0, rfl, g0_0⟩ := wt_sl g0
  obtain rfl := wt_nil g0_0
  replace e0 := rv_one e0 aaPointSums_0
  obtain ⟨ps1, g1, fit1, e1⟩ := arg_rv (hval 1 56 v1 rfl rfl) h1 ffPointSums_1
  rw [kkPointSums_1] at g1
  obtain ⟨x1_0, ps1_0, rfl, g1_0⟩ := wt_int g1
  obtain ⟨x1_1, ps1_1, rfl, g1_1⟩ := wt_int g1_0
  obtain ⟨x1_2, ps1_2, rfl, g1_2⟩ := wt_int g1_1
  obtain ⟨x1_3, ps1_3, rfl, g1_3⟩ := wt_int g1_2
  obtain ⟨x1_4, ps1_4, rfl, g1_4⟩ := wt_int g1_3
  obtain ⟨x1_5, ps1_5, rfl, g1_5⟩ := wt_int g1_4
  obtain ⟨x1_6, ps1_6, rfl, g1_6⟩ := wt_int g1_5
  obtain ⟨x1_7, ps1_7, rfl, g1_7⟩ := wt_int g1_6
  obtain rfl := wt_nil g1_7
  replace e1 := rv_agg e1 aaPointSums_1
  obtain ⟨ps2, g2, fit2, e2⟩ := arg_rv (hval 2 3 v2 rfl rfl) h2 ffPointSums_2
  rw [kkPointSums_2] at g2
  obtain ⟨x2_0, ps2_0, rfl, g2_0⟩ := wt_int g2
  obtain rfl := wt_nil g2_0
  replace e2 := rv_one e2 aaPointSums_2
  have hcs : Cs Try.prog (Ctx.of W) [.lst f0_0 23 x0_0, .agg [iv x1_0, iv x1_1, iv x1_2, iv x1_3, iv x1_4, iv x1_5, iv x1_6, iv x1_7], iv x2_0] #[v0, v1, v2] := cs_three e0 e1 e2
  refine (law_calls ((law8 f0_0 (rng_of e0 (fit0 (.lst f0_0 23 x0_0) (by simp))) x1_0 x1_1 x1_2 x1_3 x1_4 x1_5 x1_6 x1_7 x2_0).2) hcs).mono fun e W' ⟨he, bel⟩ => ?_
  subst he
  exact ⟨_, rfl, _, _, _, [], _, [], hW', trodAll_mk1 (shut_bool Try.underlying4 _), (trodAll_cons_mk (Below.trod laidOut (by kernel_rfl) (of_decide_eq_true (by kernel_rfl)) h0 bel lt0) (trodAll_cons_mk (Below.trod laidOut (by kernel_rfl) (of_decide_eq_true (by kernel_rfl)) h1 bel lt1) (trodAll_cons_mk (Below.trod laidOut (by kernel_rfl) (of_decide_eq_true (by kernel_rfl)) h2 bel lt2) trodAll_mk0))), rfl, bel.frame _, fun h => by cases h⟩

theorem pointSums_holds : Rows.PointSumsSaid :=
  OpenClaim.holds_of_wide 8 Try.f8 rfl rfl rfl rfl rfl rfl rfl ⟨rfl, rfl, rfl, rfl, rfl⟩ rfl rfl rfl rfl rfl (by kernel_rfl) Try.func8 (by kernel_rfl)
    (of_decide_eq_true (by kernel_rfl)) (by unfold Func.isWrapper; first | (rw [if_pos (by decide +kernel)]; kernel_rfl) | (rw [if_neg (by decide +kernel)]; exact ⟨rfl, rfl⟩))
    (fun os started H enc _ => liftedPointSums os started H enc)
#print axioms pointSums_holds
end Go.Proofs.Ytneklpbkfmljfaa
