/- BrailleReads returns true for every input, and its arguments read behind the call as they read before. No condition. -/
import Derived.Test.YtooeeombopgghaaDoorPart7
namespace Go.Proofs.YtooeeombopgghaaDoor
open Go.ChangeShapes Go.WideShapes Go.ChangeAt Go.RowKit Go.Hx Go.Ht

theorem kkBrailleReads_0 : kinds Tryd.prog 22 = [.sl 3] := by kernel_rfl
theorem ffBrailleReads_0 : flatB Tryd.prog 20 12 22 = true := by kernel_rfl
theorem aaBrailleReads_0 : isAggT Tryd.prog 22 = false := by kernel_rfl
theorem kkBrailleReads_1 : kinds Tryd.prog 33 = [.int .u8, .int .u8, .str, .int .u8, .int .u8, .str] := by kernel_rfl
theorem ffBrailleReads_1 : flatB Tryd.prog 20 12 33 = true := by kernel_rfl
theorem aaBrailleReads_1 : isAggT Tryd.prog 33 = true := by kernel_rfl
theorem kkBrailleReads_2 : kinds Tryd.prog 34 = [.sl 5] := by kernel_rfl
theorem ffBrailleReads_2 : flatB Tryd.prog 20 12 34 = true := by kernel_rfl
theorem aaBrailleReads_2 : isAggT Tryd.prog 34 = false := by kernel_rfl

set_option maxRecDepth 100000 in
theorem liftedBrailleReads (os : Os) (started : os.Started) (H : Type) (enc : TypeId × Value → H) :
    ReturnsInHanded {} Tryd.checked os 4 .any (fun w args => (Rows.brailleReadsSpec.pre enc Tryd.prog Tryd.f4 [] false w args ∧ laidMetH Tryd.prog [("hachure/braille.none", Rows.laid_hachure_braille_none)] w) ∧ sizedMet enc Tryd.prog Tryd.f4 (OpenSpec.ofChange Rows.brailleReadsSpec) false w args)
      (Rows.brailleReadsSpec.post enc Tryd.prog Tryd.f4 false true false false) := by
  refine returnsInHanded_of_change_and (C := Tryd.checked) (X := fun w _ => laidMetH Tryd.prog [("hachure/braille.none", Rows.laid_hachure_braille_none)] w) (fun _ _ _ hh h => h.of_heap hh) own started (by kernel_rfl) Tryd.func4
    (ChangeSpec.witness_at (enc := enc) (C := Tryd.checked) (os := os) (X := fun w _ => laidMetH Tryd.prog [("hachure/braille.none", Rows.laid_hachure_braille_none)] w) false (laidWorld os) #[.slice none 0 0, .agg #[.int .u8 0, .int .u8 0, .string .empty, .int .u8 0, .int .u8 0, .string .empty], .slice none 0 0] 8 rfl (by kernel_rfl) (by kernel_rfl) (by kernel_rfl) (by kernel_rfl) (by kernel_rfl) (laid_met os _)) ?_
  intro W base args ds gs before hval0 hW _ _ hL _
  have hval : ∀ (j : Nat) t v, Tryd.f4.params[j]? = some t → args[j]? = some v → Value.okWide Tryd.prog W .any base t v := hval0
  have hW' := hW
  obtain ⟨p, q, hA0, hV, rfl, hfz, hnd⟩ := hW
  have hA : DataW.TrodAll enc Tryd.prog W 0 (fun _ => true) true Tryd.f4.params.toList args.toList ds p := hA0
  rw [Tryd.params4] at hA hval
  obtain ⟨v0, vs0, d0, ds0, p0, q0, hargs, rfl, rfl, h0, r0⟩ := trodAll_cons hA
  obtain ⟨v1, vs1, d1, ds1, p1, q1, rfl, rfl, rfl, h1, r1⟩ := trodAll_cons r0
  obtain ⟨v2, vs2, d2, ds2, p2, q2, rfl, rfl, rfl, h2, r2⟩ := trodAll_cons r1
  obtain ⟨rfl, rfl, rfl⟩ := trodAll_nil r2
  obtain rfl : args = #[v0, v1, v2] := by cases args; simp_all
  obtain ⟨rfl, rfl⟩ := trodVars_none hV
  have lt0 : ∀ x ∈ p0, x.block < W.heap.size := by obtain ⟨m, hm⟩ := h0; exact DataW.trod_lt m _ _ _ hm
  have lt1 : ∀ x ∈ p1, x.block < W.heap.size := by obtain ⟨m, hm⟩ := h1; exact DataW.trod_lt m _ _ _ hm
  have lt2 : ∀ x ∈ p2, x.block < W.heap.size := by obtain ⟨m, hm⟩ := h2; exact DataW.trod_lt m _ _ _ hm
  obtain ⟨ps0, g0, fit0, e0⟩ := arg_rv (hval 0 22 v0 rfl rfl) h0 ffBrailleReads_0
  rw [kkBrailleReads_0] at g0
  obtain ⟨f0_0, x0_0, ps0_0, rfl, g0_0⟩ := wt_sl g0
  obtain rfl := wt_nil g0_0
  replace e0 := rv_one e0 aaBrailleReads_0
  obtain ⟨ps1, g1, fit1, e1⟩ := arg_rv (hval 1 33 v1 rfl rfl) h1 ffBrailleReads_1
  rw [kkBrailleReads_1] at g1
  obtain ⟨x1_0, ps1_0, rfl, g1_0⟩ := wt_int g1
  obtain ⟨x1_1, ps1_1, rfl, g1_1⟩ := wt_int g1_0
  obtain ⟨x1_2, ps1_2, rfl, g1_2⟩ := wt_str g1_1
  obtain ⟨x1_3, ps1_3, rfl, g1_3⟩ := wt_int g1_2
  obtain ⟨x1_4, ps1_4, rfl, g1_4⟩ := wt_int g1_3
  obtain ⟨x1_5, ps1_5, rfl, g1_5⟩ := wt_str g1_4
  obtain rfl := wt_nil g1_5
  replace e1 := rv_agg e1 aaBrailleReads_1
  obtain ⟨ps2, g2, fit2, e2⟩ := arg_rv (hval 2 34 v2 rfl rfl) h2 ffBrailleReads_2
  rw [kkBrailleReads_2] at g2
  obtain ⟨f2_0, x2_0, ps2_0, rfl, g2_0⟩ := wt_sl g2
  obtain rfl := wt_nil g2_0
  replace e2 := rv_one e2 aaBrailleReads_2
  have hcs : Cs Tryd.prog (Ctx.of W) [.lst f0_0 3 x0_0, .agg [.val (.int .u8 x1_0), .val (.int .u8 x1_1), .val (.string x1_2), .val (.int .u8 x1_3), .val (.int .u8 x1_4), .val (.string x1_5)], .lst f2_0 5 x2_0] #[v0, v1, v2] := cs_three e0 e1 e2
  refine (law_calls (law4P f0_0 f2_0 x0_0 x2_0 x1_2 x1_5 (oR6_of (fit_u8 (fit1 _ (by simp)))) (oR6_of (fit_u8 (fit1 _ (by simp)))) (oR6_of (fit_u8 (fit1 _ (by simp)))) (oR6_of (fit_u8 (fit1 _ (by simp))))) hcs (glb_of_laid hL)).mono fun e W' ⟨he, bel⟩ => ?_
  subst he
  exact ⟨_, rfl, _, _, _, [], _, [], hW', trodAll_mk1 (shut_bool Tryd.underlying4 _), (trodAll_cons_mk (Below.trod laidOut (by kernel_rfl) (of_decide_eq_true (by kernel_rfl)) h0 bel lt0) (trodAll_cons_mk (Below.trod laidOut (by kernel_rfl) (of_decide_eq_true (by kernel_rfl)) h1 bel lt1) (trodAll_cons_mk (Below.trod laidOut (by kernel_rfl) (of_decide_eq_true (by kernel_rfl)) h2 bel lt2) trodAll_mk0))), rfl, bel.frame _, fun h => by cases h⟩

theorem brailleReads_row : Rows.BrailleReadsSaid :=
  OpenClaim.holds_of_wide 4 Tryd.f4 rfl rfl rfl rfl rfl rfl rfl ⟨rfl, rfl, rfl, rfl, rfl⟩ rfl rfl rfl rfl rfl (by kernel_rfl) Tryd.func4 (by kernel_rfl)
    (of_decide_eq_true (by kernel_rfl)) (by unfold Func.isWrapper; first | (rw [if_pos (by decide +kernel)]; kernel_rfl) | (rw [if_neg (by decide +kernel)]; exact ⟨rfl, rfl⟩))
    (fun os started H enc _ => liftedBrailleReads os started H enc)
theorem brailleReads_holds : Rows.BrailleReadsCardSaid :=
  Claim7.holds_tied_plain_at .later [] [.sentinel] true (true, "1a4d8e6e62973ba0332f957564796f631b3a02a418bc813e9ea1d781272536da") true
    brailleReads_row (fun _ h => by cases h) (by kernel_rfl) (fun _ h => by cases h) brailleReads_row_tie rfl ⟨rfl, rfl⟩ (by kernel_rfl) rfl
    (fun f fn hf hfn => by
      obtain rfl : f = 4 := Option.some.inj ((show Tryd.prog.funcNamed Rows.brailleReadsRow.func = some 4 by kernel_rfl).symm.trans hf) |>.symm
      obtain rfl : fn = Tryd.f4 := (Option.some.inj (Tryd.func4.symm.trans hfn)).symm
      refine ⟨by kernel_rfl, fun j t ht => ?_⟩
      rw [Tryd.params4] at ht
      exact wants_no (by kernel_rfl) ht)
    (by kernel_rfl)
#print axioms brailleReads_holds
end Go.Proofs.YtooeeombopgghaaDoor
