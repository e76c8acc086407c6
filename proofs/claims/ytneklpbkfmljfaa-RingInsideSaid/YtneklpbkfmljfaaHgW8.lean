/- Geometry: Area2 and Inside of rings of any length: rounds. -/
import Derived.Test.YtneklpbkfmljfaaHgW7
namespace Go.Hg
open Go.Hx Go.Proofs
noncomputable def E37 : EnvK := (E36.addV 60 3 [3, 7]).addV 62 5 [3, 4, 5, 12]
theorem ok37 : EnvOK Try.prog E37.env := (ok36.addV 60 3 [3, 7]).addV 62 5 [3, 4, 5, 12]
abbrev sgg (i : Nat) : PV := .fn (.func 145) [] [.ptr i 1 0 0]
noncomputable def lrA (st : LSt) : Row := lrow 60 Try.f60 3 (tm 16 [(3, .ptr 0 1 0 0), (7, sgg 1)]) st
def shA : S1 := ⟨25, [(0, .yld 2), (1, .ptr 1 1 0 0), (5, .lst 23), (6, I64), (7, I64)], [.one 3 1 I64, .one 53 1 (.lst 23), .raw]⟩
abbrev lA (f : Bool) (es : List PV) (l i sum : Int) (f2 : Bool) (es2 : List PV) (r : Row) : LS := ([.l f es, .i l, .i i], [.i sum, .l f2 es2, .r r])
noncomputable abbrev hA (sum : Int) (f2 : Bool) (es2 : List PV) (r : Row) : List Row := (shA.put (lA true [] 0 0 sum f2 es2 r)).2
def nxW (es : List PV) (i : Int) : Int := Int.tmod (W (i + 1)) (es.length : Int)
def crW (es : List PV) (i j : Int) : Int := W (W (qX es i * qY es j) - W (qY es i * qX es j))
def nz (es : List PV) : Bool := !decide ((es.length : Int) = 0)
theorem qA (f : Bool) (es : List PV) (l i sum : Int) (f2 : Bool) : runB Try.prog E37 60 145 (lpb Try.f145 1) [0, 1, 5, 6, 7] [] (shA.put (lA f es l i sum f2 es (lrA .ready))).1 (shA.put (lA f es l i sum f2 es (lrA .ready))).2 =
  bif decide (i < l) then bif inr es i then bif nz es then bif inr es (nxW es i) then some (.normal, shA.put (lA f es l (W (i + 1)) (W (sum + crW es i (nxW es i))) f2 es (lrA .ready))) else none else none else none
  else some (.exit 0, tm 25 [], hA sum f2 es (lrA .ready)) := by kernel_rfl
def shB : S1 := ⟨22, [(0, .lst 23), (3, I64), (4, I64)], []⟩
theorem qB (f : Bool) (es : List PV) (sum i : Int) : runB Try.prog E37 60 61 (lpb Try.f61 3) [0, 3, 4] [3] (shB.put ([.l f es, .i sum, .i i], [])).1 (shB.put ([.l f es, .i sum, .i i], [])).2 =
  bif decide (i < (es.length : Int)) then bif inr es i then bif nz es then bif inr es (nxW es i) then some (.normal, shB.put ([.l f es, .i (W (sum + crW es i (nxW es i))), .i (W (i + 1))], [])) else none else none else none
  else some (.exit 0, tm 22 [(3, iv sum)], []) := by kernel_rfl
noncomputable def lrN (st : LSt) : Row := lrow 62 Try.f62 5 (tm 27 [(3, .ptr 0 1 0 0), (4, .ptr 1 1 0 0), (5, .ptr 2 1 0 0), (12, sgg 3)]) st
def shN : S1 := ⟨25, [(0, .yld 4), (1, .ptr 3 1 0 0), (5, .lst 23), (6, I64), (7, I64)], [.one 23 2 (.agg [I64, I64]), .one 3 1 I64, .one 3 1 I64, .one 53 1 (.lst 23), .raw]⟩
abbrev lN (f : Bool) (es : List PV) (l i x y res sum : Int) (f2 : Bool) (es2 : List PV) (r : Row) : LS := ([.l f es, .i l, .i i], [.i x, .i y, .i res, .i sum, .l f2 es2, .r r])
noncomputable abbrev hN (x y res sum : Int) (f2 : Bool) (es2 : List PV) (r : Row) : List Row := (shN.put (lN true [] 0 0 x y res sum f2 es2 r)).2
def onq (es : List PV) (i j x y : Int) : Bool := onX (qX es i) (qY es i) (qX es j) (qY es j) x y
def ryq (es : List PV) (i j x y : Int) : Int := ray (qX es i) (qY es i) (qX es j) (qY es j) x y
theorem qN (f : Bool) (es : List PV) (l i x y res sum : Int) (f2 : Bool) : runB Try.prog E37 60 145 (lpb Try.f145 1) [0, 1, 5, 6, 7] [] (shN.put (lN f es l i x y res sum f2 es (lrN .ready))).1 (shN.put (lN f es l i x y res sum f2 es (lrN .ready))).2 =
  bif decide (i < l) then bif inr es i then bif nz es then bif inr es (nxW es i) then
    bif onq es i (nxW es i) x y then some (.ret, tm 25 [], hN x y 0 sum f2 es (lrN (.done .ret)))
    else some (.normal, shN.put (lN f es l (W (i + 1)) x y res (W (sum + ryq es i (nxW es i) x y)) f2 es (lrN .ready))) else none else none else none
  else some (.exit 0, tm 25 [], hN x y res sum f2 es (lrN .ready)) := by kernel_rfl
def shM : S1 := ⟨40, [(0, .lst 23), (3, .ptr 0 1 0 0), (5, I64), (6, I64)], [.one 23 2 (.agg [I64, I64])]⟩
theorem qM (f : Bool) (es : List PV) (sum i x y : Int) : runB Try.prog E37 60 63 (lpb Try.f63 5) [0, 3, 5, 6] [4, 5] (shM.put ([.l f es, .i sum, .i i], [.i x, .i y])).1 (shM.put ([.l f es, .i sum, .i i], [.i x, .i y])).2 =
  bif decide (i < (es.length : Int)) then bif inr es i then bif nz es then bif inr es (nxW es i) then
    bif onq es i (nxW es i) x y then some (.ret, tm 40 [(4, iv 0), (5, iv sum)], (shM.put ([.l f es, .i sum, .i i], [.i x, .i y])).2)
    else bif inr es i then bif nz es then bif inr es (nxW es i) then some (.normal, shM.put ([.l f es, .i (W (sum + ryq es i (nxW es i) x y)), .i (W (i + 1))], [.i x, .i y])) else none else none else none else none else none else none
  else some (.exit 0, tm 40 [(5, iv sum)], (shM.put ([.l f es, .i sum, .i i], [.i x, .i y])).2) := by kernel_rfl
end Go.Hg
