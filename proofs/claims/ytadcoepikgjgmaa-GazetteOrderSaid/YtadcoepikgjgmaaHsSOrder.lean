/- GazetteOrder returns true for every input, and its arguments read behind the call as they read before. No condition. -/
import Derived.Test.YtadcoepikgjgmaaHsH
import Derived.Test.YtadcoepikgjgmaaHsF
namespace Go.Proofs.Ytadcoepikgjgmaa
open Go.ChangeShapes Go.WideShapes Go.ChangeAt Go.RowKit Go.Hx Go.Hs

theorem kkGazetteOrder_0 : kinds Try.prog 48 = [.str, .str, .str] := by kernel_rfl
theorem ffGazetteOrder_0 : flatB Try.prog 20 12 48 = true := by kernel_rfl
theorem aaGazetteOrder_0 : isAggT Try.prog 48 = true := by kernel_rfl

set_option maxRecDepth 100000 in
theorem liftedGazetteOrder (os : Os) (started : os.Started) (H : Type) (enc : TypeId × Value → H) :
    ReturnsInHanded {} Try.checked os 5 .any (Rows.gazetteOrderSpec.pre6 enc Try.prog Try.f5 Rows.gazetteOrderRow.domain false) (Rows.gazetteOrderSpec.post enc Try.prog Try.f5 false true false false) := by
  refine returnsInHanded_of_change (C := Try.checked) own started (by kernel_rfl) Try.func5
    (ChangeSpec.witness6 (enc := enc) (C := Try.checked) false ⟨#[], #[.agg #[.string .empty, .string .empty, .string .empty]], []⟩ 8 (by kernel_rfl) (by kernel_rfl) (by kernel_rfl) (by kernel_rfl)) ?_
  intro W base args ds gs before hval0 hW hcnd _
  have hval : ∀ (j : Nat) t v, Try.f5.params[j]? = some t → args[j]? = some v → Value.okWide Try.prog W .any base t v := hval0
  have hW' := hW
  obtain ⟨p, q, hA0, hV, rfl, hfz, hnd⟩ := hW
  have hA : DataW.TrodAll enc Try.prog W 0 (fun _ => true) true Try.f5.params.toList args.toList ds p := hA0
  rw [Try.params5] at hA hval
  obtain ⟨v0, vs0, d0, ds0, p0, q0, hargs, rfl, rfl, h0, r0⟩ := trodAll_cons hA
  obtain ⟨rfl, rfl, rfl⟩ := trodAll_nil r0
  obtain rfl : args = #[v0] := by cases args; simp_all
  obtain ⟨rfl, rfl⟩ := trodVars_none hV
  have lt0 : ∀ x ∈ p0, x.block < W.heap.size := by obtain ⟨m, hm⟩ := h0; exact DataW.trod_lt m _ _ _ hm
  obtain ⟨ps0, g0, fit0, e0⟩ := arg_rv (hval 0 48 v0 rfl rfl) h0 ffGazetteOrder_0
  rw [kkGazetteOrder_0] at g0
  obtain ⟨x0_0, ps0_0, rfl, g0_0⟩ := wt_str g0
  obtain ⟨x0_1, ps0_1, rfl, g0_1⟩ := wt_str g0_0
  obtain ⟨x0_2, ps0_2, rfl, g0_2⟩ := wt_str g0_1
  obtain rfl := wt_nil g0_2
  replace e0 := rv_agg e0 aaGazetteOrder_0
  have hcs : Cs Try.prog (Ctx.of W) [.agg [.val (.string x0_0), .val (.string x0_1), .val (.string x0_2)]] #[v0] := cs_one e0
  refine (law_calls ((lawOrder x0_0 x0_1 x0_2).2) hcs).mono fun e W' ⟨he, bel⟩ => ?_
  subst he
  exact ⟨_, rfl, _, _, _, [], _, [], hW', trodAll_mk1 (shut_bool Try.underlying4 _), (trodAll_cons_mk (Below.trod laidOut (by kernel_rfl) (of_decide_eq_true (by kernel_rfl)) h0 bel lt0) trodAll_mk0), rfl, bel.frame _, fun h => by cases h⟩

theorem gazetteOrder_holds : Rows.GazetteOrderSaid :=
  OpenClaim.holds_of_wide 5 Try.f5 rfl rfl rfl rfl rfl rfl rfl ⟨rfl, rfl, rfl, rfl, rfl⟩ rfl rfl rfl rfl rfl (by kernel_rfl) Try.func5 (by kernel_rfl)
    (of_decide_eq_true (by kernel_rfl)) (by unfold Func.isWrapper; first | (rw [if_pos (by decide +kernel)]; kernel_rfl) | (rw [if_neg (by decide +kernel)]; exact ⟨rfl, rfl⟩))
    (fun os started H enc _ => liftedGazetteOrder os started H enc)
#print axioms gazetteOrder_holds
end Go.Proofs.Ytadcoepikgjgmaa
