/- Geometry: line.Check of any length: its inner loop. -/
import Derived.Test.YtneklpbkfmljfaaHgW3
namespace Go.Hg
open Go.Hx Go.Proofs
noncomputable def E34 : EnvK := ((E33.addO 103 cChk).addV 102 7 [1, 3, 4, 25]).addV 102 12 [1, 3, 4, 5, 6, 37]
theorem ok34 : EnvOK Try.prog E34.env := ((ok33.addO oRChk).addV 102 7 [1, 3, 4, 25]).addV 102 12 [1, 3, 4, 5, 6, 37]
abbrev sgf (i : Nat) : PV := .fn (.func 152) [] [.ptr i 1 0 0]
noncomputable def lrO (st : LSt) : Row := lrow 102 Try.f102 7 (tm 63 [(1, .ptr 0 1 0 0), (3, .ptr 1 1 0 0), (4, .ptr 2 1 0 0), (25, sgf 3)]) st
noncomputable def lrI (st : LSt) : Row := lrow 102 Try.f102 12 (tm 63 [(1, .ptr 0 1 0 0), (3, .ptr 1 1 0 0), (4, .ptr 2 1 0 0), (5, .ptr 5 1 0 0), (6, .ptr 6 1 0 0), (37, sgf 7)]) st
def shC : S1 := ⟨25, [(0, .yld 8), (1, .ptr 7 1 0 0), (3, I64)], [.one 53 1 (.lst 23), .one 66 1 I64, .one 3 1 I64, .one 53 1 (.lst 23), .raw, .one 3 1 I64, .one 135 4 (.agg [I64, I64, I64, I64]), .one 53 1 (.lst 23), .raw]⟩
abbrev lC (f : Bool) (es : List PV) (er cl : Int) (f3 : Bool) (es3 : List PV) (r4 : Row) (i a b c d : Int) (f2 : Bool) (es2 : List PV) (r8 : Row) (k : Int) : LS := ([.i k], [.l f es, .i er, .i cl, .l f3 es3, .r r4, .i i, .i a, .i b, .i c, .i d, .l f2 es2, .r r8])
noncomputable abbrev hC (f : Bool) (es : List PV) (er cl : Int) (f3 : Bool) (es3 : List PV) (i a b c d : Int) (f2 : Bool) (es2 : List PV) (r8 : Row) : List Row := (shC.put (lC f es er cl f3 es3 (lrO .busy) i a b c d f2 es2 r8 0)).2
def mqs (a b c d : Int) (es : List PV) (k l : Int) : Int := mt a b c d (qX es k) (qY es k) (qX es l) (qY es l)
noncomputable def pairC (f : Bool) (es : List PV) (er cl : Int) (f3 : Bool) (es3 : List PV) (i a b c d : Int) (f2 : Bool) (es2 : List PV) (k w : Int) : Option (PX × List PV × List Row) :=
  bif mqs a b c d es2 k (W (k + 1)) != w then some (.ret, tm 25 [], hC f es 11 cl f3 es3 i a b c d f2 es2 (lrI (.done (.exit 0)))) else some (.normal, shC.put (lC f es er cl f3 es3 (lrO .busy) i a b c d f2 es2 (lrI .ready) (W (k + 1))))
theorem qC (f : Bool) (es : List PV) (er cl : Int) (f3 : Bool) (es3 : List PV) (i a b c d : Int) (f2 : Bool) (es2 : List PV) (k : Int) : runB Try.prog E34 60 152 (lpb Try.f152 1) [0, 1, 3] [] (shC.put (lC f es er cl f3 es3 (lrO .busy) i a b c d f2 es2 (lrI .ready) k)).1 (shC.put (lC f es er cl f3 es3 (lrO .busy) i a b c d f2 es2 (lrI .ready) k)).2 =
  bif decide (W (k + 1) < (es2.length : Int)) then bif inr es2 k then bif inr es2 (W (k + 1)) then
    bif i == W (k + 1) then pairC f es er cl f3 es3 i a b c d f2 es2 k 1 else bif k == 0 then bif i == cl then bif big es then bif cls es then pairC f es er cl f3 es3 i a b c d f2 es2 k 1 else pairC f es er cl f3 es3 i a b c d f2 es2 k 0 else none else pairC f es er cl f3 es3 i a b c d f2 es2 k 0 else pairC f es er cl f3 es3 i a b c d f2 es2 k 0
  else none else none else some (.exit 0, tm 25 [], hC f es er cl f3 es3 i a b c d f2 es2 (lrI .ready)) := by kernel_rfl
end Go.Hg
