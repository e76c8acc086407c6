/- NetworkMore returns true for every input, and its arguments read behind the call as they read before. No condition. -/
import Derived.Test.YtlobfjeipgpleaaGreatPart9
import Derived.Test.YtlobfjeipgpleaaGreatHgF
namespace Go.Proofs.YtlobfjeipgpleaaGreat
open Go.ChangeShapes Go.WideShapes Go.ChangeAt Go.RowKit Go.Hx Go.Hg

theorem kkNetworkMore_0 : kinds Tryz.prog 22 = [.sl 3] := by kernel_rfl
theorem ffNetworkMore_0 : flatB Tryz.prog 20 12 22 = true := by kernel_rfl
theorem aaNetworkMore_0 : isAggT Tryz.prog 22 = false := by kernel_rfl

set_option maxRecDepth 100000 in
theorem liftedNetworkMore (os : Os) (started : os.Started) (H : Type) (enc : TypeId × Value → H) :
    ReturnsInHanded {} Tryz.checked os 6 .any (Rows.networkMoreSpec.pre6 enc Tryz.prog Tryz.f6 Rows.networkMoreRow.domain false) (Rows.networkMoreSpec.post enc Tryz.prog Tryz.f6 false true false false) := by
  refine returnsInHanded_of_change (C := Tryz.checked) own started (by kernel_rfl) Tryz.func6
    (ChangeSpec.witness6 (enc := enc) (C := Tryz.checked) false ⟨#[], #[.slice none 0 0], []⟩ 8 (by kernel_rfl) (by kernel_rfl) (by kernel_rfl) (by kernel_rfl)) ?_
  intro W base args ds gs before hval0 hW hcnd _
  have hval : ∀ (j : Nat) t v, Tryz.f6.params[j]? = some t → args[j]? = some v → Value.okWide Tryz.prog W .any base t v := hval0
  have hW' := hW
  obtain ⟨p, q, hA0, hV, rfl, hfz, hnd⟩ := hW
  have hA : DataW.TrodAll enc Tryz.prog W 0 (fun _ => true) true Tryz.f6.params.toList args.toList ds p := hA0
  rw [Tryz.params6] at hA hval
  obtain ⟨v0, vs0, d0, ds0, p0, q0, hargs, rfl, rfl, h0, r0⟩ := trodAll_cons hA
  obtain ⟨rfl, rfl, rfl⟩ := trodAll_nil r0
  obtain rfl : args = #[v0] := by cases args; simp_all
  obtain ⟨rfl, rfl⟩ := trodVars_none hV
  have lt0 : ∀ x ∈ p0, x.block < W.heap.size := by obtain ⟨m, hm⟩ := h0; exact DataW.trod_lt m _ _ _ hm
  obtain ⟨ps0, g0, fit0, e0⟩ := arg_rv (hval 0 22 v0 rfl rfl) h0 ffNetworkMore_0
  rw [kkNetworkMore_0] at g0
  obtain ⟨f0_0, x0_0, ps0_0, rfl, g0_0⟩ := wt_sl g0
  obtain rfl := wt_nil g0_0
  replace e0 := rv_one e0 aaNetworkMore_0
  have hcs : Cs Tryz.prog (Ctx.of W) [.lst f0_0 3 x0_0] #[v0] := cs_one e0
  refine (law_calls ((Go.Hn.law6 f0_0 x0_0).2) hcs).mono fun e W' ⟨he, bel⟩ => ?_
  subst he
  exact ⟨_, rfl, _, _, _, [], _, [], hW', trodAll_mk1 (shut_bool Tryz.underlying4 _), (trodAll_cons_mk (Below.trod laidOut (by kernel_rfl) (of_decide_eq_true (by kernel_rfl)) h0 bel lt0) trodAll_mk0), rfl, bel.frame _, fun h => by cases h⟩

theorem networkMore_holds : Rows.NetworkMoreSaid :=
  OpenClaim.holds_of_wide 6 Tryz.f6 rfl rfl rfl rfl rfl rfl rfl ⟨rfl, rfl, rfl, rfl, rfl⟩ rfl rfl rfl rfl rfl (by kernel_rfl) Tryz.func6 (by kernel_rfl)
    (of_decide_eq_true (by kernel_rfl)) (by unfold Func.isWrapper; first | (rw [if_pos (by decide +kernel)]; kernel_rfl) | (rw [if_neg (by decide +kernel)]; exact ⟨rfl, rfl⟩))
    (fun os started H enc _ => liftedNetworkMore os started H enc)
#print axioms networkMore_holds
end Go.Proofs.YtlobfjeipgpleaaGreat
