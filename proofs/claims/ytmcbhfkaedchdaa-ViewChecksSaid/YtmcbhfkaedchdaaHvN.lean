/- The view: the loops' bodies, by name. -/
import Derived.Test.YtmcbhfkaedchdaaHvM
namespace Go.Hv
open Go.Hx Go.Proofs
noncomputable def bod (fn : Func) : Code := fn.body.getD .skip
noncomputable def lpb (fn : Func) (i : Nat) : Code := ((loops (bod fn)).filter fun b => rid b == i).headD .skip
theorem byShape_inv {s : St} {f : List Lf → List Lf → Option (DT (PX × List PV × List Row))} {ro : Nat} {S : List PV} {H : List Row} {d : DT (PX × List PV × List Row)} (h : byShape s f ro S H = some d) : ∃ a b, ro = 0 ∧ s.get S (nrmH H) = some (a, b) ∧ f a b = some d := by
  unfold byShape at h
  split at h
  · split at h
    · rename_i x hx; exact ⟨x.1, x.2, rfl, hx, h⟩
    · cases h
  · cases h
theorem run_br {α : Type} {b : Bool} {a r : α} (h : (DT.br b (.leaf a) .no).run = some r) : b = true ∧ a = r := by
  cases b
  · cases h
  · exact ⟨rfl, Option.some.inj h⟩
def madeB (ax ay ux uy w h hr : Int) : Bool :=
  decide ((0 ≤ ax ∧ ax < 300) ∧ (0 ≤ ay ∧ ay < 200) ∧ (-700 ≤ ux ∧ ux ≤ 700) ∧ (-700 ≤ uy ∧ uy ≤ 700) ∧ ¬ (ux = 0 ∧ uy = 0) ∧ (1 ≤ w ∧ w ≤ 12) ∧ (1 ≤ h ∧ h ≤ 12) ∧ (0 ≤ hr ∧ hr ≤ 23))
theorem madeB_iff {ax ay ux uy w h hr : Int} : madeB ax ay ux uy w h hr = true ↔ MadeOK ax ay ux uy w h hr := by
  unfold madeB
  rw [decide_eq_true_iff]
  exact ⟨fun ⟨a, b, c, d, e, f, g, i⟩ => ⟨a, b, c, d, e, f, g, i⟩, fun ⟨a, b, c, d, e, f, g, i⟩ => ⟨a, b, c, d, e, f, g, i⟩⟩
abbrev i64 : Sh := .cell (.int .i64)
abbrev i64s (n : Nat) : Sh := .agg (List.replicate n (.int .i64))
end Go.Hv
