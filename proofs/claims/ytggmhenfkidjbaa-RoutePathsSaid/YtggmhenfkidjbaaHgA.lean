import Derived.Test.YtggmhenfkidjbaaProg
import Derived.Test.YtggmhenfkidjbaaPart4
import Derived.KernelRfl
import Derived.WalkSmall
namespace Go.Hg
open Go.Hx Go.Proofs
abbrev iv(n:Int):PV:=PV.val (.int .i64 n)
abbrev uv(n:Int):PV:=PV.val (.int .u64 n)
abbrev bv(b:Bool):PV:=PV.val (.bool b)
abbrev F0(x y:Int):PV:=.agg [iv x,iv y]
abbrev W(n:Int):Int:=IntKind.wrap .i64 n
abbrev U(n:Int):Int:=IntKind.wrap .u64 n
theorem yK(n:Int):W n=(n+9223372036854775808) % 18446744073709551616-9223372036854775808:=by
 show(if (true&&decide (n % (2 ^ 64:Int) ≥ (2 ^ 63:Int)))=true then n % (2 ^ 64:Int)-(2 ^ 64:Int) else n % (2 ^ 64:Int))=_
 simp only[BY,Ab];split <;> omega
theorem Dx{n:Int}(h1:-9223372036854775808<=n)(h2:n<9223372036854775808):W n=n:=by rw[yK];omega
theorem mv(n:Int):-9223372036854775808<=W n/\W n<9223372036854775808:=by rw[yK];omega
def P5(n:Int):Int:=if n<0 then -1 else if n > 0 then 1 else 0
def sz(n:Int):Int:=if n<0 then U (0-U n) else U n
def J3(a b:Int):Int:=U ((U ((U ((Int.fdiv a 4294967296)*(Int.fdiv b 4294967296)))+(Int.fdiv (U ((U ((Int.fdiv a 4294967296)*(bits .and .u64 b 4294967295)))+(Int.fdiv (U ((bits .and .u64 a 4294967295)*(bits .and .u64 b 4294967295))) 4294967296))) 4294967296)))+(Int.fdiv (U ((U ((bits .and .u64 a 4294967295)*(Int.fdiv b 4294967296)))+(bits .and .u64 (U ((U ((Int.fdiv a 4294967296)*(bits .and .u64 b 4294967295)))+(Int.fdiv (U ((bits .and .u64 a 4294967295)*(bits .and .u64 b 4294967295))) 4294967296))) 4294967295))) 4294967296))
end Go.Hg
