/- Geometry: PointSpots: what it comes to. -/
import Derived.Test.YtneklpbkfmljfaaHgT2
import Derived.Test.YtneklpbkfmljfaaHgL5
namespace Go.Hg
open Go.Hx Go.Proofs
noncomputable def E27 : EnvK := E21.addO 29 cCut
theorem oCut' (args : List PV) (r : PV) (h : cCut args = some r) : Enters Try.prog 29 ∧ PCall Try.prog 29 args r := oCut args r h
theorem ok27 : EnvOK Try.prog E27.env := ok21.addO oCut'
structure P3 where
  x : Int
  y : Int
  d : Int
/-- The moved spot. -/
def mvS (a b : P3) (n m : Int) : P3 :=
  ⟨bif mvP a.x a.y a.d b.x b.y b.d n m then W (Int.tdiv (mvX a.x b.x a.d b.d n m) (mvG a.x a.y a.d b.x b.y b.d n m)) else 0,
   bif mvP a.x a.y a.d b.x b.y b.d n m then W (Int.tdiv (mvX a.y b.y a.d b.d n m) (mvG a.x a.y a.d b.x b.y b.d n m)) else 0,
   bif mvP a.x a.y a.d b.x b.y b.d n m then W (Int.tdiv (mvD a.d b.d m) (mvG a.x a.y a.d b.x b.y b.d n m)) else 0⟩
def mvB (a b : P3) (n m : Int) : Bool := mvP a.x a.y a.d b.x b.y b.d n m
def sp (a b q : P3) : Int := ssd a.x a.y a.d b.x b.y b.d q.x q.y q.d
def no7 : Option PV := some (bv false)
def tail7 (a b s w q : P3) (g : Int) (plain same : Bool) : Option PV :=
  bif g == 1 then bif plain then bif same then bif sp a b s == 0 then bif sp w b q == sp a b q then some (bv (sp b a q == W (0 - sp a b q))) else no7 else no7 else no7 else no7 else no7
def all7 (a b : P3) (px py N M k : Int) : Option PV :=
  let s := mvS a b N M
  let f := mvS a b 0 M
  let t := mvS a b M M
  let n := W (Int.tmod (W k) 30 + 1)
  let w : P3 := ⟨W (n * a.x), W (n * a.y), W (n * a.d)⟩
  let q : P3 := ⟨px, py, 1⟩
  let g := gcdX (gcdX s.x s.y) s.d
  let vx := Int.tmod a.x 1000
  let vy := Int.tmod b.y 1000
  let plain := ssd (sm px) (sm py) 1 vx vy 1 px py 1 == sd (sm px) (sm py) vx vy px py
  bif !mvB a b N M then no7 else bif !mvB a b 0 M then no7 else bif !mvB a b M M then no7 else bif decide (s.d < 1) then no7 else
  bif W (f.x * a.d) == W (a.x * f.d) then bif W (f.y * a.d) == W (a.y * f.d) then bif W (t.x * b.d) == W (b.x * t.d) then tail7 a b s w q g plain (W (t.y * b.d) == W (b.y * t.d))
  else tail7 a b s w q g plain false else tail7 a b s w q g plain false else tail7 a b s w q g plain false
def ma (a b c : Int) : P3 := ⟨cutX a (bits .and .i64 c 31), cutX b (bits .and .i64 c 31), cutD (bits .and .i64 c 31)⟩
theorem q7 (a b c d e f n m x y k : Int) : runP Try.prog E27 60 7 [.agg [iv a, iv b, iv c, iv d, iv e, iv f, iv n, iv m], ptv x y, .val (.int .u8 k)] =
  bif decide (0 < W (W (m % 64 + 1) + 1)) && decide (W (W (m % 64 + 1) + 1) ≤ 4611686018427387904) then
    all7 (ma a b c) (ma d e f) (Int.tmod x 1000) (Int.tmod y 1000) (n % W (W (m % 64 + 1) + 1)) (W (m % 64 + 1)) k else none := by kernel_rfl
end Go.Hg
