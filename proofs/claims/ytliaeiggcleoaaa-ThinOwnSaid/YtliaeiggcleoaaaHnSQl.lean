/- ThinOwn returns true for every input, and its arguments read behind the call as they read before. No condition. -/
import Derived.Test.YtliaeiggcleoaaaPart11
import Derived.Test.YtliaeiggcleoaaaHnTF
namespace Go.Proofs.Ytliaeiggcleoaaa
open Go.ChangeShapes Go.WideShapes Go.ChangeAt Go.RowKit Go.Hx Go.Hg

theorem kkThinOwn_0 : kinds Try.prog 22 = [.sl 3] := by kernel_rfl
theorem ffThinOwn_0 : flatB Try.prog 20 12 22 = true := by kernel_rfl
theorem aaThinOwn_0 : isAggT Try.prog 22 = false := by kernel_rfl
theorem kkThinOwn_1 : kinds Try.prog 23 = [.sl 5] := by kernel_rfl
theorem ffThinOwn_1 : flatB Try.prog 20 12 23 = true := by kernel_rfl
theorem aaThinOwn_1 : isAggT Try.prog 23 = false := by kernel_rfl
theorem kkThinOwn_2 : kinds Try.prog 3 = [.int .i64] := by kernel_rfl
theorem ffThinOwn_2 : flatB Try.prog 20 12 3 = true := by kernel_rfl
theorem aaThinOwn_2 : isAggT Try.prog 3 = false := by kernel_rfl

set_option maxRecDepth 100000 in
theorem liftedThinOwn (os : Os) (started : os.Started) (H : Type) (enc : TypeId × Value → H) :
    ReturnsInHanded {} Try.checked os 4 .any (Rows.thinOwnSpec.pre6 enc Try.prog Try.f4 Rows.thinOwnRow.domain false) (Rows.thinOwnSpec.post enc Try.prog Try.f4 false true false false) := by
  refine returnsInHanded_of_change (C := Try.checked) own started (by kernel_rfl) Try.func4
    (ChangeSpec.witness6 (enc := enc) (C := Try.checked) false ⟨#[], #[.slice none 0 0, .slice none 0 0, .int .i64 0], []⟩ 8 (by kernel_rfl) (by kernel_rfl) (by kernel_rfl) (by kernel_rfl)) ?_
  intro W base args ds gs before hval0 hW hcnd _
  have hval : ∀ (j : Nat) t v, Try.f4.params[j]? = some t → args[j]? = some v → Value.okWide Try.prog W .any base t v := hval0
  have hW' := hW
  obtain ⟨p, q, hA0, hV, rfl, hfz, hnd⟩ := hW
  have hA : DataW.TrodAll enc Try.prog W 0 (fun _ => true) true Try.f4.params.toList args.toList ds p := hA0
  rw [Try.params4] at hA hval
  obtain ⟨v0, vs0, d0, ds0, p0, q0, hargs, rfl, rfl, h0, r0⟩ := trodAll_cons hA
  obtain ⟨v1, vs1, d1, ds1, p1, q1, rfl, rfl, rfl, h1, r1⟩ := trodAll_cons r0
  obtain ⟨v2, vs2, d2, ds2, p2, q2, rfl, rfl, rfl, h2, r2⟩ := trodAll_cons r1
  obtain ⟨rfl, rfl, rfl⟩ := trodAll_nil r2
  obtain rfl : args = #[v0, v1, v2] := by cases args; simp_all
  obtain ⟨rfl, rfl⟩ := trodVars_none hV
  have lt0 : ∀ x ∈ p0, x.block < W.heap.size := by obtain ⟨m, hm⟩ := h0; exact DataW.trod_lt m _ _ _ hm
  have lt1 : ∀ x ∈ p1, x.block < W.heap.size := by obtain ⟨m, hm⟩ := h1; exact DataW.trod_lt m _ _ _ hm
  have lt2 : ∀ x ∈ p2, x.block < W.heap.size := by obtain ⟨m, hm⟩ := h2; exact DataW.trod_lt m _ _ _ hm
  obtain ⟨ps0, g0, fit0, e0⟩ := arg_rv (hval 0 22 v0 rfl rfl) h0 ffThinOwn_0
  rw [kkThinOwn_0] at g0
  obtain ⟨f0_0, x0_0, ps0_0, rfl, g0_0⟩ := wt_sl g0
  obtain rfl := wt_nil g0_0
  replace e0 := rv_one e0 aaThinOwn_0
  obtain ⟨ps1, g1, fit1, e1⟩ := arg_rv (hval 1 23 v1 rfl rfl) h1 ffThinOwn_1
  rw [kkThinOwn_1] at g1
  obtain ⟨f1_0, x1_0, ps1_0, rfl, g1_0⟩ := wt_sl g1
  obtain rfl := wt_nil g1_0
  replace e1 := rv_one e1 aaThinOwn_1
  obtain ⟨ps2, g2, fit2, e2⟩ := arg_rv (hval 2 3 v2 rfl rfl) h2 ffThinOwn_2
  rw [kkThinOwn_2] at g2
  obtain ⟨x2_0, ps2_0, rfl, g2_0⟩ := wt_int g2
  obtain rfl := wt_nil g2_0
  replace e2 := rv_one e2 aaThinOwn_2
  have hcs : Cs Try.prog (Ctx.of W) [.lst f0_0 3 x0_0, .lst f1_0 5 x1_0, iv x2_0] #[v0, v1, v2] := cs_three e0 e1 e2
  refine (law_calls ((Go.Hn.lawW4 f0_0 f1_0 x0_0 x1_0 x2_0 (okN_of e1 (fit1 (.lst f1_0 5 x1_0) (by simp)))).2) hcs).mono fun e W' ⟨he, bel⟩ => ?_
  subst he
  exact ⟨_, rfl, _, _, _, [], _, [], hW', trodAll_mk1 (shut_bool Try.underlying4 _), (trodAll_cons_mk (Below.trod laidOut (by kernel_rfl) (of_decide_eq_true (by kernel_rfl)) h0 bel lt0) (trodAll_cons_mk (Below.trod laidOut (by kernel_rfl) (of_decide_eq_true (by kernel_rfl)) h1 bel lt1) (trodAll_cons_mk (Below.trod laidOut (by kernel_rfl) (of_decide_eq_true (by kernel_rfl)) h2 bel lt2) trodAll_mk0))), rfl, bel.frame _, fun h => by cases h⟩

theorem thinOwn_holds : Rows.ThinOwnSaid :=
  OpenClaim.holds_of_wide 4 Try.f4 rfl rfl rfl rfl rfl rfl rfl ⟨rfl, rfl, rfl, rfl, rfl⟩ rfl rfl rfl rfl rfl (by kernel_rfl) Try.func4 (by kernel_rfl)
    (of_decide_eq_true (by kernel_rfl)) (by unfold Func.isWrapper; first | (rw [if_pos (by decide +kernel)]; kernel_rfl) | (rw [if_neg (by decide +kernel)]; exact ⟨rfl, rfl⟩))
    (fun os started H enc _ => liftedThinOwn os started H enc)
#print axioms thinOwn_holds
end Go.Proofs.Ytliaeiggcleoaaa
