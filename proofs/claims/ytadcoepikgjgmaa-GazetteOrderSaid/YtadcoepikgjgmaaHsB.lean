/- Strings (gazette): the sanity of chapter 09. -/
import Derived.Test.YtadcoepikgjgmaaHsA
namespace Go.Hs
open Go.Hx Go.Proofs
noncomputable def E1 : EnvK := ((((E0.addK 31).addK 39).addK 40).addK 42).addK 44
theorem ok1 : EnvOK Try.prog E1.env := ((((ok0.addK 31).addK 39).addK 40).addK 42).addK 44
theorem qSan : runP Try.prog E1 100 9 [] = some (bv true) := by kernel_rfl
def cSan : List PV → Option PV | [] => some (bv true) | _ => none
theorem oSan (args : List PV) (r : PV) (h : cSan args = some r) : Enters Try.prog 9 ∧ PCall Try.prog 9 args r := by
  unfold cSan at h; split at h
  · cases h; exact runP_sound ok1 (n := 100) qSan
  · cases h
noncomputable def E2 : EnvK := E1.addO 9 cSan
theorem ok2 : EnvOK Try.prog E2.env := ok1.addO oSan
end Go.Hs
