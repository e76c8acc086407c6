/- Geometry: rings: the sanity of chapter 06. -/
import Derived.Test.YtneklpbkfmljfaaHgR
namespace Go.Hg
open Go.Hx Go.Proofs
noncomputable def E31 : EnvK := (E30.addK 104).addK 119
theorem ok31 : EnvOK Try.prog E31.env := (ok30.addK 104).addK 119
theorem qSan6 : runP Try.prog E31 100 54 [] = some (bv true) := by kernel_rfl
theorem oSan6 (args : List PV) (r : PV) (h : cSan args = some r) : Enters Try.prog 54 ∧ PCall Try.prog 54 args r := by
  unfold cSan at h; split at h
  · cases h; exact runP_sound ok31 (n := 100) qSan6
  · cases h
noncomputable def E32 : EnvK := E31.addO 54 cSan
theorem ok32 : EnvOK Try.prog E32.env := ok31.addO oSan6
end Go.Hg
