/- ViewParts returns true for every input, and its arguments read behind the call as they read before. No condition. -/
import Derived.Test.YtmcbhfkaedchdaaHvL6b
import Derived.Test.YtmcbhfkaedchdaaHvF
namespace Go.Proofs.Ytmcbhfkaedchdaa
open Go.ChangeShapes Go.WideShapes Go.ChangeAt Go.RowKit Go.Hx Go.Hv

theorem kk6_22 : kinds Try.prog 22 = [.sl 3] := by kernel_rfl
theorem ff6_22 : flatB Try.prog 20 12 22 = true := by kernel_rfl
theorem aa6_22 : isAggT Try.prog 22 = false := by kernel_rfl
theorem kk6_41 : kinds Try.prog 41 = [.int .i64, .int .i64, .int .i64, .int .i64] := by kernel_rfl
theorem ff6_41 : flatB Try.prog 20 12 41 = true := by kernel_rfl
theorem aa6_41 : isAggT Try.prog 41 = true := by kernel_rfl

set_option maxRecDepth 100000 in
theorem lifted6 (os : Os) (started : os.Started) (H : Type) (enc : TypeId × Value → H) :
    ReturnsInHanded {} Try.checked os 6 .any (Rows.viewPartsSpec.pre6 enc Try.prog Try.f6 Rows.viewPartsRow.domain false) (Rows.viewPartsSpec.post enc Try.prog Try.f6 false true false false) := by
  refine returnsInHanded_of_change (C := Try.checked) own started (by kernel_rfl) Try.func6
    (ChangeSpec.witness6 (enc := enc) (C := Try.checked) false ⟨#[], #[.slice none 0 0, .agg #[.int .i64 0, .int .i64 0, .int .i64 0, .int .i64 0]], []⟩ 8 (by kernel_rfl) (by kernel_rfl) (by kernel_rfl) (by kernel_rfl)) ?_
  intro W base args ds gs before hval0 hW hcnd _
  have hval : ∀ (j : Nat) t v, Try.f6.params[j]? = some t → args[j]? = some v → Value.okWide Try.prog W .any base t v := hval0
  have hW' := hW
  obtain ⟨p, q, hA0, hV, rfl, hfz, hnd⟩ := hW
  have hA : DataW.TrodAll enc Try.prog W 0 (fun _ => true) true Try.f6.params.toList args.toList ds p := hA0
  rw [Try.params6] at hA hval
  obtain ⟨v0, vs0, d0, ds0, p0, q0, hargs, rfl, rfl, h0, r0⟩ := trodAll_cons hA
  obtain ⟨v1, vs1, d1, ds1, p1, q1, rfl, rfl, rfl, h1, r1⟩ := trodAll_cons r0
  obtain ⟨rfl, rfl, rfl⟩ := trodAll_nil r1
  obtain rfl : args = #[v0, v1] := by cases args; simp_all
  obtain ⟨rfl, rfl⟩ := trodVars_none hV
  have lt0 : ∀ x ∈ p0, x.block < W.heap.size := by obtain ⟨m, hm⟩ := h0; exact DataW.trod_lt m _ _ _ hm
  have lt1 : ∀ x ∈ p1, x.block < W.heap.size := by obtain ⟨m, hm⟩ := h1; exact DataW.trod_lt m _ _ _ hm
  obtain ⟨ps0, g0, fit0, e0⟩ := arg_rv (hval 0 22 v0 rfl rfl) h0 ff6_22
  rw [kk6_22] at g0
  obtain ⟨f0_0, x0_0, ps0_0, rfl, g0_0⟩ := wt_sl g0
  obtain rfl := wt_nil g0_0
  replace e0 := rv_one e0 aa6_22
  obtain ⟨ps1, g1, fit1, e1⟩ := arg_rv (hval 1 41 v1 rfl rfl) h1 ff6_41
  rw [kk6_41] at g1
  obtain ⟨x1_0, ps1_0, rfl, g1_0⟩ := wt_int g1
  obtain ⟨x1_1, ps1_1, rfl, g1_1⟩ := wt_int g1_0
  obtain ⟨x1_2, ps1_2, rfl, g1_2⟩ := wt_int g1_1
  obtain ⟨x1_3, ps1_3, rfl, g1_3⟩ := wt_int g1_2
  obtain rfl := wt_nil g1_3
  replace e1 := rv_agg e1 aa6_41
  have hcs : Cs Try.prog (Ctx.of W) [.lst f0_0 3 x0_0, .agg [iv x1_0, iv x1_1, iv x1_2, iv x1_3]] #[v0, v1] := cs_two e0 e1
  refine (law_calls ((law6 f0_0 x0_0 x1_0 x1_1 x1_2 x1_3).2) hcs).mono fun e W' ⟨he, bel⟩ => ?_
  subst he
  exact ⟨_, rfl, _, _, _, [], _, [], hW', trodAll_mk1 (shut_bool Try.underlying4 _), (trodAll_cons_mk (Below.trod laidOut (by kernel_rfl) (of_decide_eq_true (by kernel_rfl)) h0 bel lt0) (trodAll_cons_mk (Below.trod laidOut (by kernel_rfl) (of_decide_eq_true (by kernel_rfl)) h1 bel lt1) trodAll_mk0)), rfl, bel.frame _, fun h => by cases h⟩

theorem viewParts_holds : Rows.ViewPartsSaid :=
  OpenClaim.holds_of_wide 6 Try.f6 rfl rfl rfl rfl rfl rfl rfl ⟨rfl, rfl, rfl, rfl, rfl⟩ rfl rfl rfl rfl rfl (by kernel_rfl) Try.func6 (by kernel_rfl)
    (of_decide_eq_true (by kernel_rfl)) (by unfold Func.isWrapper; first | (rw [if_pos (by decide +kernel)]; kernel_rfl) | (rw [if_neg (by decide +kernel)]; exact ⟨rfl, rfl⟩))
    (fun os started H enc _ => lifted6 os started H enc)
#print axioms viewParts_holds
end Go.Proofs.Ytmcbhfkaedchdaa
