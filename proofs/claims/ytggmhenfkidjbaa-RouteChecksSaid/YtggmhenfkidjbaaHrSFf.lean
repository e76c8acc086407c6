/- RouteChecks returns true for every input, and its arguments read behind the call as they read before. No condition. -/
import Derived.Test.YtggmhenfkidjbaaPart11
import Derived.Test.YtggmhenfkidjbaaHgF
namespace Go.Proofs.Ytggmhenfkidjbaa
open Go.ChangeShapes Go.WideShapes Go.ChangeAt Go.RowKit Go.Hx Go.Hg

theorem Qv : kinds Try.prog 25 = [.sl 38, .int .i64, .int .i64, .int .i64, .int .i64, .int .i64, .bool] := by kernel_rfl
theorem Qw : IJ Try.prog 20 12 25 = true := by kernel_rfl
theorem Qx : Dl Try.prog 25 = true := by kernel_rfl
theorem Qy : kinds Try.prog 28 = [.int .i64, .int .i64] := by kernel_rfl
theorem Qz : IJ Try.prog 20 12 28 = true := by kernel_rfl
theorem QA : Dl Try.prog 28 = true := by kernel_rfl
theorem QB : kinds Try.prog 38 = [.sl 3] := by kernel_rfl
theorem QC : IJ Try.prog 20 12 38 = true := by kernel_rfl
theorem QD : Dl Try.prog 38 = false := by kernel_rfl

set_option maxRecDepth 100000 in
theorem Oh (os : Os) (started : os.Started) (H : Type) (enc : TypeId × Value → H) :
    ReturnsInHanded {} Try.checked os 4 .any (Rows.routeChecksSpec.pre6 enc Try.prog Try.f4 Rows.routeChecksRow.domain false) (Rows.routeChecksSpec.post enc Try.prog Try.f4 false true false false) := by
  refine returnsInHanded_of_change (C := Try.checked) own started (by kernel_rfl) Try.func4
    (ChangeSpec.witness6 (enc := enc) (C := Try.checked) false ⟨#[], #[.agg #[.slice none 0 0, .int .i64 0, .int .i64 0, .int .i64 0, .int .i64 0, .int .i64 0, .bool false], .agg #[.int .i64 0, .int .i64 0], .slice none 0 0], []⟩ 8 (by kernel_rfl) (by kernel_rfl) (by kernel_rfl) (by kernel_rfl)) ?_
  intro W base args ds gs before hval0 hW hcnd _
  have hval : ∀ (j : Nat) t v, Try.f4.params[j]? = some t → args[j]? = some v → Value.okWide Try.prog W .any base t v := hval0
  have hW' := hW
  obtain ⟨p, q, hA0, hV, rfl, hfz, hnd⟩ := hW
  have hA : DataW.TrodAll enc Try.prog W 0 (fun _ => true) true Try.f4.params.toList args.toList ds p := hA0
  rw [Try.params4] at hA hval
  obtain ⟨v0, vs0, d0, ds0, p0, q0, hargs, rfl, rfl, h0, r0⟩ := trodAll_cons hA
  obtain ⟨v1, vs1, d1, ds1, p1, q1, rfl, rfl, rfl, h1, r1⟩ := trodAll_cons r0
  obtain ⟨v2, vs2, d2, ds2, p2, q2, rfl, rfl, rfl, h2, r2⟩ := trodAll_cons r1
  obtain ⟨rfl, rfl, rfl⟩ := trodAll_nil r2
  obtain rfl : args = #[v0, v1, v2] := by cases args; simp_all
  obtain ⟨rfl, rfl⟩ := trodVars_none hV
  have lt0 : ∀ x ∈ p0, x.block < W.heap.size := by obtain ⟨m, hm⟩ := h0; exact DataW.trod_lt m _ _ _ hm
  have lt1 : ∀ x ∈ p1, x.block < W.heap.size := by obtain ⟨m, hm⟩ := h1; exact DataW.trod_lt m _ _ _ hm
  have lt2 : ∀ x ∈ p2, x.block < W.heap.size := by obtain ⟨m, hm⟩ := h2; exact DataW.trod_lt m _ _ _ hm
  obtain ⟨ps0, g0, fit0, e0⟩ := Z4 (hval 0 25 v0 rfl rfl) h0 Qw
  rw [Qv] at g0
  obtain ⟨f0_0, x0_0, ps0_0, rfl, g0_0⟩ := tJ g0
  obtain ⟨x0_1, ps0_1, rfl, g0_1⟩ := Na g0_0
  obtain ⟨x0_2, ps0_2, rfl, g0_2⟩ := Na g0_1
  obtain ⟨x0_3, ps0_3, rfl, g0_3⟩ := Na g0_2
  obtain ⟨x0_4, ps0_4, rfl, g0_4⟩ := Na g0_3
  obtain ⟨x0_5, ps0_5, rfl, g0_5⟩ := Na g0_4
  obtain ⟨x0_6, ps0_6, rfl, g0_6⟩ := o7 g0_5
  obtain rfl := Z5 g0_6
  replace e0 := kZ e0 Qx
  obtain ⟨ps1, g1, fit1, e1⟩ := Z4 (hval 1 28 v1 rfl rfl) h1 Qz
  rw [Qy] at g1
  obtain ⟨x1_0, ps1_0, rfl, g1_0⟩ := Na g1
  obtain ⟨x1_1, ps1_1, rfl, g1_1⟩ := Na g1_0
  obtain rfl := Z5 g1_1
  replace e1 := kZ e1 QA
  obtain ⟨ps2, g2, fit2, e2⟩ := Z4 (hval 2 38 v2 rfl rfl) h2 QC
  rw [QB] at g2
  obtain ⟨f2_0, x2_0, ps2_0, rfl, g2_0⟩ := tJ g2
  obtain rfl := Z5 g2_0
  replace e2 := w9 e2 QD
  have hcs : Cs Try.prog (Ctx.of W) [.agg [.Db f0_0 38 x0_0, iv x0_1, iv x0_2, iv x0_3, iv x0_4, iv x0_5, bv x0_6], .agg [iv x1_0, iv x1_1], .Db f2_0 3 x2_0] #[v0, v1, v2] := k8 e0 e1 e2
  refine (eG ((Go.Hr.aic f0_0 x0_0 x0_1 x0_2 x0_3 x0_4 x0_5 x0_6 x1_0 x1_1 f2_0 x2_0).2) hcs).mono fun e W' ⟨he, bel⟩ => ?_
  subst he
  exact ⟨_, rfl, _, _, _, [], _, [], hW', trodAll_mk1 (shut_bool Try.underlying4 _), (trodAll_cons_mk (Below.trod laidOut (by kernel_rfl) (AO (by kernel_rfl)) h0 bel lt0) (trodAll_cons_mk (Below.trod laidOut (by kernel_rfl) (AO (by kernel_rfl)) h1 bel lt1) (trodAll_cons_mk (Below.trod laidOut (by kernel_rfl) (AO (by kernel_rfl)) h2 bel lt2) trodAll_mk0))), rfl, bel.frame _, fun h => by cases h⟩

theorem routeChecks_holds : Rows.RouteChecksSaid :=
  OpenClaim.holds_of_wide 4 Try.f4 rfl rfl rfl rfl rfl rfl rfl ⟨rfl, rfl, rfl, rfl, rfl⟩ rfl rfl rfl rfl rfl (by kernel_rfl) Try.func4 (by kernel_rfl)
    (AO (by kernel_rfl)) (by unfold Func.isWrapper; first | (rw [Ak (by decide +kernel)]; kernel_rfl) | (rw [Aq (by decide +kernel)]; exact ⟨rfl, rfl⟩))
    (fun os started H enc _ => Oh os started H enc)
#print axioms routeChecks_holds
end Go.Proofs.Ytggmhenfkidjbaa
