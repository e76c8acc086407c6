/- BrailleWords returns true for every input, and its arguments read behind the call as they read before. No condition. -/
import Derived.Test.YtooeeombopgghaaDoorPart6
namespace Go.Proofs.YtooeeombopgghaaDoor
open Go.ChangeShapes Go.WideShapes Go.ChangeAt Go.RowKit Go.Hx Go.Ht

theorem kkBrailleWords_0 : kinds Tryd.prog 5 = [.int .u8] := by kernel_rfl
theorem ffBrailleWords_0 : flatB Tryd.prog 20 12 5 = true := by kernel_rfl
theorem aaBrailleWords_0 : isAggT Tryd.prog 5 = false := by kernel_rfl
theorem kkBrailleWords_1 : kinds Tryd.prog 5 = [.int .u8] := by kernel_rfl
theorem ffBrailleWords_1 : flatB Tryd.prog 20 12 5 = true := by kernel_rfl
theorem aaBrailleWords_1 : isAggT Tryd.prog 5 = false := by kernel_rfl
theorem kkBrailleWords_2 : kinds Tryd.prog 40 = [.int .u16, .int .u16] := by kernel_rfl
theorem ffBrailleWords_2 : flatB Tryd.prog 20 12 40 = true := by kernel_rfl
theorem aaBrailleWords_2 : isAggT Tryd.prog 40 = true := by kernel_rfl

set_option maxRecDepth 100000 in
theorem liftedBrailleWords (os : Os) (started : os.Started) (H : Type) (enc : TypeId × Value → H) :
    ReturnsInHanded {} Tryd.checked os 7 .any (fun w args => (Rows.brailleWordsSpec.pre enc Tryd.prog Tryd.f7 [] false w args ∧ laidMetH Tryd.prog [("hachure/braille.none", Rows.laid_hachure_braille_none)] w) ∧ sizedMet enc Tryd.prog Tryd.f7 (OpenSpec.ofChange Rows.brailleWordsSpec) false w args)
      (Rows.brailleWordsSpec.post enc Tryd.prog Tryd.f7 false true false false) := by
  refine returnsInHanded_of_change_and (C := Tryd.checked) (X := fun w _ => laidMetH Tryd.prog [("hachure/braille.none", Rows.laid_hachure_braille_none)] w) (fun _ _ _ hh h => h.of_heap hh) own started (by kernel_rfl) Tryd.func7
    (ChangeSpec.witness_at (enc := enc) (C := Tryd.checked) (os := os) (X := fun w _ => laidMetH Tryd.prog [("hachure/braille.none", Rows.laid_hachure_braille_none)] w) false (laidWorld os) #[.int .u8 0, .int .u8 0, .agg #[.int .u16 0, .int .u16 0]] 8 rfl (by kernel_rfl) (by kernel_rfl) (by kernel_rfl) (by kernel_rfl) (by kernel_rfl) (laid_met os _)) ?_
  intro W base args ds gs before hval0 hW _ _ hL _
  have hval : ∀ (j : Nat) t v, Tryd.f7.params[j]? = some t → args[j]? = some v → Value.okWide Tryd.prog W .any base t v := hval0
  have hW' := hW
  obtain ⟨p, q, hA0, hV, rfl, hfz, hnd⟩ := hW
  have hA : DataW.TrodAll enc Tryd.prog W 0 (fun _ => true) true Tryd.f7.params.toList args.toList ds p := hA0
  rw [Tryd.params7] at hA hval
  obtain ⟨v0, vs0, d0, ds0, p0, q0, hargs, rfl, rfl, h0, r0⟩ := trodAll_cons hA
  obtain ⟨v1, vs1, d1, ds1, p1, q1, rfl, rfl, rfl, h1, r1⟩ := trodAll_cons r0
  obtain ⟨v2, vs2, d2, ds2, p2, q2, rfl, rfl, rfl, h2, r2⟩ := trodAll_cons r1
  obtain ⟨rfl, rfl, rfl⟩ := trodAll_nil r2
  obtain rfl : args = #[v0, v1, v2] := by cases args; simp_all
  obtain ⟨rfl, rfl⟩ := trodVars_none hV
  have lt0 : ∀ x ∈ p0, x.block < W.heap.size := by obtain ⟨m, hm⟩ := h0; exact DataW.trod_lt m _ _ _ hm
  have lt1 : ∀ x ∈ p1, x.block < W.heap.size := by obtain ⟨m, hm⟩ := h1; exact DataW.trod_lt m _ _ _ hm
  have lt2 : ∀ x ∈ p2, x.block < W.heap.size := by obtain ⟨m, hm⟩ := h2; exact DataW.trod_lt m _ _ _ hm
  obtain ⟨ps0, g0, fit0, e0⟩ := arg_rv (hval 0 5 v0 rfl rfl) h0 ffBrailleWords_0
  rw [kkBrailleWords_0] at g0
  obtain ⟨x0_0, ps0_0, rfl, g0_0⟩ := wt_int g0
  obtain rfl := wt_nil g0_0
  replace e0 := rv_one e0 aaBrailleWords_0
  obtain ⟨ps1, g1, fit1, e1⟩ := arg_rv (hval 1 5 v1 rfl rfl) h1 ffBrailleWords_1
  rw [kkBrailleWords_1] at g1
  obtain ⟨x1_0, ps1_0, rfl, g1_0⟩ := wt_int g1
  obtain rfl := wt_nil g1_0
  replace e1 := rv_one e1 aaBrailleWords_1
  obtain ⟨ps2, g2, fit2, e2⟩ := arg_rv (hval 2 40 v2 rfl rfl) h2 ffBrailleWords_2
  rw [kkBrailleWords_2] at g2
  obtain ⟨x2_0, ps2_0, rfl, g2_0⟩ := wt_int g2
  obtain ⟨x2_1, ps2_1, rfl, g2_1⟩ := wt_int g2_0
  obtain rfl := wt_nil g2_1
  replace e2 := rv_agg e2 aaBrailleWords_2
  have hcs : Cs Tryd.prog (Ctx.of W) [.val (.int .u8 x0_0), .val (.int .u8 x1_0), .agg [.val (.int .u16 x2_0), .val (.int .u16 x2_1)]] #[v0, v1, v2] := cs_three e0 e1 e2
  refine (law_calls (law7P (fit_u8 (fit0 _ (by simp))) (fit_u8 (fit1 _ (by simp))) (fit_u16 (fit2 _ (by simp))) (fit_u16 (fit2 _ (by simp)))) hcs (glb_of_laid hL)).mono fun e W' ⟨he, bel⟩ => ?_
  subst he
  exact ⟨_, rfl, _, _, _, [], _, [], hW', trodAll_mk1 (shut_bool Tryd.underlying4 _), (trodAll_cons_mk (Below.trod laidOut (by kernel_rfl) (of_decide_eq_true (by kernel_rfl)) h0 bel lt0) (trodAll_cons_mk (Below.trod laidOut (by kernel_rfl) (of_decide_eq_true (by kernel_rfl)) h1 bel lt1) (trodAll_cons_mk (Below.trod laidOut (by kernel_rfl) (of_decide_eq_true (by kernel_rfl)) h2 bel lt2) trodAll_mk0))), rfl, bel.frame _, fun h => by cases h⟩

theorem brailleWords_row : Rows.BrailleWordsSaid :=
  OpenClaim.holds_of_wide 7 Tryd.f7 rfl rfl rfl rfl rfl rfl rfl ⟨rfl, rfl, rfl, rfl, rfl⟩ rfl rfl rfl rfl rfl (by kernel_rfl) Tryd.func7 (by kernel_rfl)
    (of_decide_eq_true (by kernel_rfl)) (by unfold Func.isWrapper; first | (rw [if_pos (by decide +kernel)]; kernel_rfl) | (rw [if_neg (by decide +kernel)]; exact ⟨rfl, rfl⟩))
    (fun os started H enc _ => liftedBrailleWords os started H enc)
theorem brailleWords_holds : Rows.BrailleWordsCardSaid :=
  Claim7.holds_tied_plain_at .later [] [.sentinel] true (true, "1a4d8e6e62973ba0332f957564796f631b3a02a418bc813e9ea1d781272536da") true
    brailleWords_row (fun _ h => by cases h) (by kernel_rfl) (fun _ h => by cases h) brailleWords_row_tie rfl ⟨rfl, rfl⟩ (by kernel_rfl) rfl
    (fun f fn hf hfn => by
      obtain rfl : f = 7 := Option.some.inj ((show Tryd.prog.funcNamed Rows.brailleWordsRow.func = some 7 by kernel_rfl).symm.trans hf) |>.symm
      obtain rfl : fn = Tryd.f7 := (Option.some.inj (Tryd.func7.symm.trans hfn)).symm
      refine ⟨by kernel_rfl, fun j t ht => ?_⟩
      rw [Tryd.params7] at ht
      exact wants_no (by kernel_rfl) ht)
    (by kernel_rfl)
#print axioms brailleWords_holds
end Go.Proofs.YtooeeombopgghaaDoor
