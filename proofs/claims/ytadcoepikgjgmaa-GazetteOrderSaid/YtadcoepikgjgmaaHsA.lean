/- Strings (gazette): the base. -/
import Derived.Test.YtadcoepikgjgmaaProg
import Derived.Test.YtadcoepikgjgmaaHsP
import Derived.KernelRfl
namespace Go.Hs
open Go.Hx Go.Proofs
abbrev iv (n : Int) : PV := PV.val (.int .i64 n)
abbrev cv (n : Int) : PV := PV.val (.int .u8 n)
abbrev bv (b : Bool) : PV := PV.val (.bool b)
abbrev sv (s : ByteArray) : PV := PV.val (.string s)
abbrev W (n : Int) : Int := IntKind.wrap .i64 n
abbrev B8 (n : Int) : Int := IntKind.wrap .u8 n
theorem W_eq (n : Int) : W n = (n + 9223372036854775808) % 18446744073709551616 - 9223372036854775808 := by
  show (if (true && decide (n % (2 ^ 64 : Int) ≥ (2 ^ 63 : Int))) = true then n % (2 ^ 64 : Int) - (2 ^ 64 : Int) else n % (2 ^ 64 : Int)) = _
  simp only [Bool.true_and, decide_eq_true_eq]
  split <;> omega
theorem W_id {n : Int} (h1 : -9223372036854775808 ≤ n) (h2 : n < 9223372036854775808) : W n = n := by rw [W_eq]; omega
theorem B8_eq (n : Int) : B8 n = n % 256 := by
  show (if (false && decide (n % (2 ^ 8 : Int) ≥ (2 ^ 7 : Int))) = true then n % (2 ^ 8 : Int) - (2 ^ 8 : Int) else n % (2 ^ 8 : Int)) = _
  simp
noncomputable def E0 : EnvK := {}
theorem ok0 : EnvOK Try.prog E0.env := envOK_zero
end Go.Hs
