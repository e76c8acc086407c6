/- ViewLimits returns true for every input, and its arguments read behind the call as they read before. No condition. -/
import Derived.Test.YtmcbhfkaedchdaaRows
import Derived.Test.YtmcbhfkaedchdaaHvL8
import Derived.Test.YtmcbhfkaedchdaaHxFrame
namespace Go.Proofs.Ytmcbhfkaedchdaa
open Go.ChangeShapes Go.WideShapes Go.ChangeAt Go.RowKit Go.Hx Go.Hv

theorem own : ownKnob Try.prog.godebug = none := by kernel_rfl
theorem laidOut : laidOutB Try.prog = true := by kernel_rfl
theorem k22 : kinds Try.prog 22 = [.sl 3] := by kernel_rfl
theorem f22 : flatB Try.prog 20 12 22 = true := by kernel_rfl
theorem a22 : isAggT Try.prog 22 = false := by kernel_rfl
theorem sl_of {e : TypeId} {ps : List PV} (h : wtcs [.sl e] ps = true) : ∃ f es, ps = [.lst f e es] := by
  match ps, h with
  | [p], h =>
    simp only [wtcs, Bool.and_true] at h
    unfold wtc at h
    split at h <;> simp_all
  | [], h => simp [wtcs] at h
  | _ :: _ :: _, h => simp [wtcs] at h
theorem int_of {k : IntKind} {ps : List PV} (h : wtcs [.int k] ps = true) : ∃ n, ps = [.val (.int k n)] := by
  match ps, h with
  | [p], h =>
    simp only [wtcs, Bool.and_true] at h
    unfold wtc at h
    split at h <;> simp_all
  | [], h => simp [wtcs] at h
  | _ :: _ :: _, h => simp [wtcs] at h

set_option maxRecDepth 100000 in
theorem lifted8 (os : Os) (started : os.Started) (H : Type) (enc : TypeId × Value → H) :
    ReturnsInHanded {} Try.checked os 8 .any (Rows.viewLimitsSpec.pre6 enc Try.prog Try.f8 Rows.viewLimitsRow.domain false) (Rows.viewLimitsSpec.post enc Try.prog Try.f8 false true false false) := by
  refine returnsInHanded_of_change (C := Try.checked) own started (by kernel_rfl) Try.func8
    (ChangeSpec.witness6 (enc := enc) (C := Try.checked) false ⟨#[], #[.slice none 0 0, .int .u8 0], []⟩ 8 (by kernel_rfl) (by kernel_rfl) (by kernel_rfl) (by kernel_rfl)) ?_
  intro W base args ds gs before hval0 hW hcnd _
  have hval : ∀ (j : Nat) t v, Try.f8.params[j]? = some t → args[j]? = some v → Value.okWide Try.prog W .any base t v := hval0
  have hW' := hW
  obtain ⟨p, q, hA0, hV, rfl, hfz, hnd⟩ := hW
  have hA : DataW.TrodAll enc Try.prog W 0 (fun _ => true) true Try.f8.params.toList args.toList ds p := hA0
  rw [Try.params8] at hA hval
  obtain ⟨v0, vs0, d0, ds0, p0, q0, hargs, rfl, rfl, h0, r0⟩ := trodAll_cons hA
  obtain ⟨v1, vs1, d1, ds1, p1, q1, rfl, rfl, rfl, h1, r1⟩ := trodAll_cons r0
  obtain ⟨rfl, rfl, rfl⟩ := trodAll_nil r1
  obtain rfl : args = #[v0, v1] := by cases args; simp_all
  obtain ⟨rfl, rfl⟩ := trodVars_none hV
  have k0 := h0
  have k1 := h1
  have lt0 : ∀ x ∈ p0, x.block < W.heap.size := by obtain ⟨m, hm⟩ := k0; exact DataW.trod_lt m _ _ _ hm
  have lt1 : ∀ x ∈ p1, x.block < W.heap.size := by obtain ⟨m, hm⟩ := k1; exact DataW.trod_lt m _ _ _ hm
  obtain ⟨ps0, g0, _, e0⟩ := arg_rv (hval 0 22 v0 rfl rfl) h0 f22
  rw [k22] at g0
  obtain ⟨f, es, rfl⟩ := sl_of g0
  unfold mkE at e0
  rw [a22] at e0
  obtain ⟨n, rfl, rfl, rfl, wn⟩ := open_int (k := .u8) (by kernel_rfl) (hval 1 5 v1 rfl rfl) h1
  clear hA0 hval0
  have hn : 0 ≤ n ∧ n < 256 := by have := bounds_u8 wn; omega
  have hcs : Cs Try.prog (Ctx.of W) [.lst f 3 es, .val (.int .u8 n)] #[v0, .int .u8 n] := by
    refine ⟨rfl, fun j c v a b => ?_⟩
    match j with
    | 0 => simp at a b; subst a; subst b; exact e0
    | 1 => simp at a b; subst a; subst b; exact .val
    | j + 2 => simp at a
  refine (law_calls (law8 f es hn).2 hcs).mono fun e W' ⟨he, bel⟩ => ?_
  subst he
  exact ⟨_, rfl, _, _, _, [], _, [], hW', trodAll_mk1 (shut_bool Try.underlying4 _), (trodAll_cons_mk (Below.trod laidOut (by kernel_rfl) (of_decide_eq_true (by kernel_rfl)) k0 bel lt0) (trodAll_cons_mk (Below.trod laidOut (by kernel_rfl) (of_decide_eq_true (by kernel_rfl)) k1 bel lt1) trodAll_mk0)), rfl, bel.frame _, fun h => by cases h⟩

theorem viewLimits_holds : Rows.ViewLimitsSaid :=
  OpenClaim.holds_of_wide 8 Try.f8 rfl rfl rfl rfl rfl rfl rfl ⟨rfl, rfl, rfl, rfl, rfl⟩ rfl rfl rfl rfl rfl (by kernel_rfl) Try.func8 (by kernel_rfl)
    (of_decide_eq_true (by kernel_rfl)) (by unfold Func.isWrapper; first | (rw [if_pos (by decide +kernel)]; kernel_rfl) | (rw [if_neg (by decide +kernel)]; exact ⟨rfl, rfl⟩))
    (fun os started H enc _ => lifted8 os started H enc)
#print axioms viewLimits_holds
end Go.Proofs.Ytmcbhfkaedchdaa
