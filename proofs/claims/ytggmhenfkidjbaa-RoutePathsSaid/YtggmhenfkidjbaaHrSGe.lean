/- RoutePaths returns true for every input, and its arguments read behind the call as they read before. No condition. -/
import Derived.Test.YtggmhenfkidjbaaPart11
import Derived.Test.YtggmhenfkidjbaaHgF
namespace Go.Proofs.Ytggmhenfkidjbaa
open Go.ChangeShapes Go.WideShapes Go.ChangeAt Go.RowKit Go.Hx Go.Hg

theorem SZ : kinds Try.prog 25 = [.sl 38, .int .i64, .int .i64, .int .i64, .int .i64, .int .i64, .bool] := by kernel_rfl
theorem S4 : IL Try.prog 20 12 25 = true := by kernel_rfl
theorem S5 : Dh Try.prog 25 = true := by kernel_rfl
theorem S6 : kinds Try.prog 26 = [.sl 49] := by kernel_rfl
theorem S7 : IL Try.prog 20 12 26 = true := by kernel_rfl
theorem S8 : Dh Try.prog 26 = false := by kernel_rfl
theorem S9 : kinds Try.prog 30 = [.int .i64, .int .i64, .int .i64] := by kernel_rfl
theorem Ta : IL Try.prog 20 12 30 = true := by kernel_rfl
theorem Tb : Dh Try.prog 30 = true := by kernel_rfl

set_option maxRecDepth 100000 in
theorem O9 (os : Os) (started : os.Started) (H : Type) (enc : TypeId × Value → H) :
    ReturnsInHanded {} Try.checked os 3 .any (Rows.routePathsSpec.pre6 enc Try.prog Try.f3 Rows.routePathsRow.domain false) (Rows.routePathsSpec.post enc Try.prog Try.f3 false true false false) := by
  refine returnsInHanded_of_change (C := Try.checked) own started (by kernel_rfl) Try.func3
    (ChangeSpec.witness6 (enc := enc) (C := Try.checked) false ⟨#[], #[.agg #[.slice none 0 0, .int .i64 0, .int .i64 0, .int .i64 0, .int .i64 0, .int .i64 0, .bool false], .slice none 0 0, .agg #[.int .i64 0, .int .i64 0, .int .i64 0]], []⟩ 8 (by kernel_rfl) (by kernel_rfl) (by kernel_rfl) (by kernel_rfl)) ?_
  intro W base args ds gs before hval0 hW hcnd _
  have hval : ∀ (j : Nat) t v, Try.f3.params[j]? = some t → args[j]? = some v → Value.okWide Try.prog W .any base t v := hval0
  have hW' := hW
  obtain ⟨p, q, hA0, hV, rfl, hfz, hnd⟩ := hW
  have hA : DataW.TrodAll enc Try.prog W 0 (fun _ => true) true Try.f3.params.toList args.toList ds p := hA0
  rw [Try.params3] at hA hval
  obtain ⟨v0, vs0, d0, ds0, p0, q0, hargs, rfl, rfl, h0, r0⟩ := trodAll_cons hA
  obtain ⟨v1, vs1, d1, ds1, p1, q1, rfl, rfl, rfl, h1, r1⟩ := trodAll_cons r0
  obtain ⟨v2, vs2, d2, ds2, p2, q2, rfl, rfl, rfl, h2, r2⟩ := trodAll_cons r1
  obtain ⟨rfl, rfl, rfl⟩ := trodAll_nil r2
  obtain rfl : args = #[v0, v1, v2] := by cases args; simp_all
  obtain ⟨rfl, rfl⟩ := trodVars_none hV
  have lt0 : ∀ x ∈ p0, x.block < W.heap.size := by obtain ⟨m, hm⟩ := h0; exact DataW.trod_lt m _ _ _ hm
  have lt1 : ∀ x ∈ p1, x.block < W.heap.size := by obtain ⟨m, hm⟩ := h1; exact DataW.trod_lt m _ _ _ hm
  have lt2 : ∀ x ∈ p2, x.block < W.heap.size := by obtain ⟨m, hm⟩ := h2; exact DataW.trod_lt m _ _ _ hm
  obtain ⟨ps0, g0, fit0, e0⟩ := ah (hval 0 25 v0 rfl rfl) h0 S4
  rw [SZ] at g0
  obtain ⟨f0_0, x0_0, ps0_0, rfl, g0_0⟩ := tV g0
  obtain ⟨x0_1, ps0_1, rfl, g0_1⟩ := Lw g0_0
  obtain ⟨x0_2, ps0_2, rfl, g0_2⟩ := Lw g0_1
  obtain ⟨x0_3, ps0_3, rfl, g0_3⟩ := Lw g0_2
  obtain ⟨x0_4, ps0_4, rfl, g0_4⟩ := Lw g0_3
  obtain ⟨x0_5, ps0_5, rfl, g0_5⟩ := Lw g0_4
  obtain ⟨x0_6, ps0_6, rfl, g0_6⟩ := pn g0_5
  obtain rfl := ai g0_6
  replace e0 := lh e0 S5
  obtain ⟨ps1, g1, fit1, e1⟩ := ah (hval 1 26 v1 rfl rfl) h1 S7
  rw [S6] at g1
  obtain ⟨f1_0, x1_0, ps1_0, rfl, g1_0⟩ := tV g1
  obtain rfl := ai g1_0
  replace e1 := xq e1 S8
  obtain ⟨ps2, g2, fit2, e2⟩ := ah (hval 2 30 v2 rfl rfl) h2 Ta
  rw [S9] at g2
  obtain ⟨x2_0, ps2_0, rfl, g2_0⟩ := Lw g2
  obtain ⟨x2_1, ps2_1, rfl, g2_1⟩ := Lw g2_0
  obtain ⟨x2_2, ps2_2, rfl, g2_2⟩ := Lw g2_1
  obtain rfl := ai g2_2
  replace e2 := lh e2 Tb
  have hcs : Cs Try.prog (Ctx.of W) [.agg [.C9 f0_0 38 x0_0, iv x0_1, iv x0_2, iv x0_3, iv x0_4, iv x0_5, bv x0_6], .C9 f1_0 49 x1_0, .agg [iv x2_0, iv x2_1, iv x2_2]] #[v0, v1, v2] := lj e0 e1 e2
  refine (eT ((Go.Hr.ail f0_0 x0_0 x0_1 x0_2 x0_3 x0_4 x0_5 x0_6 f1_0 x1_0 x2_0 x2_1 x2_2).2) hcs).mono fun e W' ⟨he, bel⟩ => ?_
  subst he
  exact ⟨_, rfl, _, _, _, [], _, [], hW', trodAll_mk1 (shut_bool Try.underlying4 _), (trodAll_cons_mk (Below.trod laidOut (by kernel_rfl) (AN (by kernel_rfl)) h0 bel lt0) (trodAll_cons_mk (Below.trod laidOut (by kernel_rfl) (AN (by kernel_rfl)) h1 bel lt1) (trodAll_cons_mk (Below.trod laidOut (by kernel_rfl) (AN (by kernel_rfl)) h2 bel lt2) trodAll_mk0))), rfl, bel.frame _, fun h => by cases h⟩

theorem routePaths_holds : Rows.RoutePathsSaid :=
  OpenClaim.holds_of_wide 3 Try.f3 rfl rfl rfl rfl rfl rfl rfl ⟨rfl, rfl, rfl, rfl, rfl⟩ rfl rfl rfl rfl rfl (by kernel_rfl) Try.func3 (by kernel_rfl)
    (AN (by kernel_rfl)) (by unfold Func.isWrapper; first | (rw [Ak (by decide +kernel)]; kernel_rfl) | (rw [Aq (by decide +kernel)]; exact ⟨rfl, rfl⟩))
    (fun os started H enc _ => O9 os started H enc)
#print axioms routePaths_holds
end Go.Proofs.Ytggmhenfkidjbaa
