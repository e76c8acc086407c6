/- ThinCans returns true for every input, and its arguments read behind the call as they read before. No condition. -/
import Derived.Test.YtliaeiggcleoaaaGreatPart12
import Derived.Test.YtliaeiggcleoaaaGreatHnTF
namespace Go.Proofs.YtliaeiggcleoaaaGreat
open Go.ChangeShapes Go.WideShapes Go.ChangeAt Go.RowKit Go.Hx Go.Hg

theorem kkThinCans_0 : kinds Tryz.prog 22 = [.sl 3] := by kernel_rfl
theorem ffThinCans_0 : flatB Tryz.prog 20 12 22 = true := by kernel_rfl
theorem aaThinCans_0 : Aj Tryz.prog 22 = false := by kernel_rfl
theorem kkThinCans_1 : kinds Tryz.prog 58 = [.sl 5] := by kernel_rfl
theorem ffThinCans_1 : flatB Tryz.prog 20 12 58 = true := by kernel_rfl
theorem aaThinCans_1 : Aj Tryz.prog 58 = false := by kernel_rfl
theorem kkThinCans_2 : kinds Tryz.prog 60 = [.sl 44, .int .i64, .int .i64] := by kernel_rfl
theorem ffThinCans_2 : flatB Tryz.prog 20 12 60 = true := by kernel_rfl
theorem aaThinCans_2 : Aj Tryz.prog 60 = true := by kernel_rfl

set_option maxRecDepth 100000 in
theorem liftedThinCans (os : Os) (started : os.Started) (H : Type) (enc : TypeId × Value → H) :
    ReturnsInHanded {} Tryz.checked os 8 .any (Rows.thinCansSpec.pre6 enc Tryz.prog Tryz.f8 Rows.thinCansRow.domain false) (Rows.thinCansSpec.post enc Tryz.prog Tryz.f8 false true false false) := by
  refine returnsInHanded_of_change (C := Tryz.checked) own started (by kernel_rfl) Tryz.func8
    (ChangeSpec.witness6 (enc := enc) (C := Tryz.checked) false ⟨#[], #[.slice none 0 0, .slice none 0 0, .agg #[.slice none 0 0, .int .i64 0, .int .i64 0]], []⟩ 8 (by kernel_rfl) (by kernel_rfl) (by kernel_rfl) (by kernel_rfl)) ?_
  intro W base args ds gs before hval0 hW hcnd _
  have hval : ∀ (j : Nat) t v, Tryz.f8.params[j]? = some t → args[j]? = some v → Value.okWide Tryz.prog W .any base t v := hval0
  have hW' := hW
  obtain ⟨p, q, hA0, hV, rfl, hfz, hnd⟩ := hW
  have hA : DataW.TrodAll enc Tryz.prog W 0 (fun _ => true) true Tryz.f8.params.toList args.toList ds p := hA0
  rw [Tryz.params8] at hA hval
  obtain ⟨v0, vs0, d0, ds0, p0, q0, hargs, rfl, rfl, h0, r0⟩ := trodAll_cons hA
  obtain ⟨v1, vs1, d1, ds1, p1, q1, rfl, rfl, rfl, h1, r1⟩ := trodAll_cons r0
  obtain ⟨v2, vs2, d2, ds2, p2, q2, rfl, rfl, rfl, h2, r2⟩ := trodAll_cons r1
  obtain ⟨rfl, rfl, rfl⟩ := trodAll_nil r2
  obtain rfl : args = #[v0, v1, v2] := by cases args; simp_all
  obtain ⟨rfl, rfl⟩ := trodVars_none hV
  have lt0 : ∀ x ∈ p0, x.block < W.heap.size := by obtain ⟨m, hm⟩ := h0; exact DataW.trod_lt m _ _ _ hm
  have lt1 : ∀ x ∈ p1, x.block < W.heap.size := by obtain ⟨m, hm⟩ := h1; exact DataW.trod_lt m _ _ _ hm
  have lt2 : ∀ x ∈ p2, x.block < W.heap.size := by obtain ⟨m, hm⟩ := h2; exact DataW.trod_lt m _ _ _ hm
  obtain ⟨ps0, g0, fit0, e0⟩ := arg_rv (hval 0 22 v0 rfl rfl) h0 ffThinCans_0
  rw [kkThinCans_0] at g0
  obtain ⟨f0_0, x0_0, ps0_0, rfl, g0_0⟩ := wt_sl g0
  obtain rfl := wt_nil g0_0
  replace e0 := rv_one e0 aaThinCans_0
  obtain ⟨ps1, g1, fit1, e1⟩ := arg_rv (hval 1 58 v1 rfl rfl) h1 ffThinCans_1
  rw [kkThinCans_1] at g1
  obtain ⟨f1_0, x1_0, ps1_0, rfl, g1_0⟩ := wt_sl g1
  obtain rfl := wt_nil g1_0
  replace e1 := rv_one e1 aaThinCans_1
  obtain ⟨ps2, g2, fit2, e2⟩ := arg_rv (hval 2 60 v2 rfl rfl) h2 ffThinCans_2
  rw [kkThinCans_2] at g2
  obtain ⟨f2_0, x2_0, ps2_0, rfl, g2_0⟩ := wt_sl g2
  obtain ⟨x2_1, ps2_1, rfl, g2_1⟩ := wt_int g2_0
  obtain ⟨x2_2, ps2_2, rfl, g2_2⟩ := wt_int g2_1
  obtain rfl := wt_nil g2_2
  replace e2 := rv_agg e2 aaThinCans_2
  have hcs : Cs Tryz.prog (Ctx.of W) [.Ac f0_0 3 x0_0, .Ac f1_0 5 x1_0, .agg [.Ac f2_0 44 x2_0, iv x2_1, iv x2_2]] #[v0, v1, v2] := cs_three e0 e1 e2
  refine (law_calls ((Go.Hn.lawZ f0_0 f1_0 f2_0 x0_0 x1_0 x2_0 x2_1 x2_2 (okN_of e1 (fit1 (.Ac f1_0 5 x1_0) (by simp)))).2) hcs).mono fun e W' ⟨he, bel⟩ => ?_
  subst he
  exact ⟨_, rfl, _, _, _, [], _, [], hW', trodAll_mk1 (shut_bool Tryz.underlying4 _), (trodAll_cons_mk (Below.trod laidOut (by kernel_rfl) (of_decide_eq_true (by kernel_rfl)) h0 bel lt0) (trodAll_cons_mk (Below.trod laidOut (by kernel_rfl) (of_decide_eq_true (by kernel_rfl)) h1 bel lt1) (trodAll_cons_mk (Below.trod laidOut (by kernel_rfl) (of_decide_eq_true (by kernel_rfl)) h2 bel lt2) trodAll_mk0))), rfl, bel.frame _, fun h => by cases h⟩

theorem thinCans_holds : Rows.ThinCansSaid :=
  OpenClaim.holds_of_wide 8 Tryz.f8 rfl rfl rfl rfl rfl rfl rfl ⟨rfl, rfl, rfl, rfl, rfl⟩ rfl rfl rfl rfl rfl (by kernel_rfl) Tryz.func8 (by kernel_rfl)
    (of_decide_eq_true (by kernel_rfl)) (by unfold Func.isWrapper; first | (rw [if_pos (by decide +kernel)]; kernel_rfl) | (rw [if_neg (by decide +kernel)]; exact ⟨rfl, rfl⟩))
    (fun os started H enc _ => liftedThinCans os started H enc)
#print axioms thinCans_holds
end Go.Proofs.YtliaeiggcleoaaaGreat
