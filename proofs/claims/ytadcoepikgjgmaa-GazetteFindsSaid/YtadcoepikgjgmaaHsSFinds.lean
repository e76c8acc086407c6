/- GazetteFinds returns true for every input, and its arguments read behind the call as they read before. No condition. -/
import Derived.Test.YtadcoepikgjgmaaPart6
namespace Go.Proofs.Ytadcoepikgjgmaa
open Go.ChangeShapes Go.WideShapes Go.ChangeAt Go.RowKit Go.Hx Go.Hs

theorem kkGazetteFinds_0 : kinds Try.prog 26 = [.sl 36] := by kernel_rfl
theorem ffGazetteFinds_0 : flatB Try.prog 20 12 26 = true := by kernel_rfl
theorem aaGazetteFinds_0 : isAggT Try.prog 26 = false := by kernel_rfl
theorem kkGazetteFinds_1 : kinds Try.prog 9 = [.str] := by kernel_rfl
theorem ffGazetteFinds_1 : flatB Try.prog 20 12 9 = true := by kernel_rfl
theorem aaGazetteFinds_1 : isAggT Try.prog 9 = false := by kernel_rfl

set_option maxRecDepth 100000 in
theorem liftedGazetteFinds (os : Os) (started : os.Started) (H : Type) (enc : TypeId × Value → H) :
    ReturnsInHanded {} Try.checked os 4 .any (Rows.gazetteFindsSpec.pre6 enc Try.prog Try.f4 Rows.gazetteFindsRow.domain false) (Rows.gazetteFindsSpec.post enc Try.prog Try.f4 false true false false) := by
  refine returnsInHanded_of_change (C := Try.checked) own started (by kernel_rfl) Try.func4
    (ChangeSpec.witness6 (enc := enc) (C := Try.checked) false ⟨#[], #[.slice none 0 0, .string .empty], []⟩ 8 (by kernel_rfl) (by kernel_rfl) (by kernel_rfl) (by kernel_rfl)) ?_
  intro W base args ds gs before hval0 hW hcnd _
  have hval : ∀ (j : Nat) t v, Try.f4.params[j]? = some t → args[j]? = some v → Value.okWide Try.prog W .any base t v := hval0
  have hW' := hW
  obtain ⟨p, q, hA0, hV, rfl, hfz, hnd⟩ := hW
  have hA : DataW.TrodAll enc Try.prog W 0 (fun _ => true) true Try.f4.params.toList args.toList ds p := hA0
  rw [Try.params4] at hA hval
  obtain ⟨v0, vs0, d0, ds0, p0, q0, hargs, rfl, rfl, h0, r0⟩ := trodAll_cons hA
  obtain ⟨v1, vs1, d1, ds1, p1, q1, rfl, rfl, rfl, h1, r1⟩ := trodAll_cons r0
  obtain ⟨rfl, rfl, rfl⟩ := trodAll_nil r1
  obtain rfl : args = #[v0, v1] := by cases args; simp_all
  obtain ⟨rfl, rfl⟩ := trodVars_none hV
  have lt0 : ∀ x ∈ p0, x.block < W.heap.size := by obtain ⟨m, hm⟩ := h0; exact DataW.trod_lt m _ _ _ hm
  have lt1 : ∀ x ∈ p1, x.block < W.heap.size := by obtain ⟨m, hm⟩ := h1; exact DataW.trod_lt m _ _ _ hm
  obtain ⟨ps0, g0, fit0, e0⟩ := arg_rv (hval 0 26 v0 rfl rfl) h0 ffGazetteFinds_0
  rw [kkGazetteFinds_0] at g0
  obtain ⟨f0_0, x0_0, ps0_0, rfl, g0_0⟩ := wt_sl g0
  obtain rfl := wt_nil g0_0
  replace e0 := rv_one e0 aaGazetteFinds_0
  obtain ⟨ps1, g1, fit1, e1⟩ := arg_rv (hval 1 9 v1 rfl rfl) h1 ffGazetteFinds_1
  rw [kkGazetteFinds_1] at g1
  obtain ⟨x1_0, ps1_0, rfl, g1_0⟩ := wt_str g1
  obtain rfl := wt_nil g1_0
  replace e1 := rv_one e1 aaGazetteFinds_1
  have hcs : Cs Try.prog (Ctx.of W) [.lst f0_0 36 x0_0, .val (.string x1_0)] #[v0, v1] := cs_two e0 e1
  refine (law_calls ((lawFinds f0_0 x0_0 x1_0).2) hcs).mono fun e W' ⟨he, bel⟩ => ?_
  subst he
  exact ⟨_, rfl, _, _, _, [], _, [], hW', trodAll_mk1 (shut_bool Try.underlying4 _), (trodAll_cons_mk (Below.trod laidOut (by kernel_rfl) (of_decide_eq_true (by kernel_rfl)) h0 bel lt0) (trodAll_cons_mk (Below.trod laidOut (by kernel_rfl) (of_decide_eq_true (by kernel_rfl)) h1 bel lt1) trodAll_mk0)), rfl, bel.frame _, fun h => by cases h⟩

theorem gazetteFinds_holds : Rows.GazetteFindsSaid :=
  OpenClaim.holds_of_wide 4 Try.f4 rfl rfl rfl rfl rfl rfl rfl ⟨rfl, rfl, rfl, rfl, rfl⟩ rfl rfl rfl rfl rfl (by kernel_rfl) Try.func4 (by kernel_rfl)
    (of_decide_eq_true (by kernel_rfl)) (by unfold Func.isWrapper; first | (rw [if_pos (by decide +kernel)]; kernel_rfl) | (rw [if_neg (by decide +kernel)]; exact ⟨rfl, rfl⟩))
    (fun os started H enc _ => liftedGazetteFinds os started H enc)
#print axioms gazetteFinds_holds
end Go.Proofs.Ytadcoepikgjgmaa
