/- The view: another view (odd). -/
import Derived.Test.YtmcbhfkaedchdaaHvR4
namespace Go.Hv
open Go.Hx Go.Proofs
def odAx (ax q0 q1 : Int) : Int := bif q0 % 7 == 0 then q1 else ax
def odAy (ay q0 q1 : Int) : Int := bif q0 % 7 == 1 then W (1048576 - q1 % 3000) else ay
def odUx (ux q0 q1 : Int) : Int := bif q0 % 7 == 2 then q1 else bif q0 % 7 == 3 then W (1000 + q1 % 30) else ux
def odUy (uy q0 q1 : Int) : Int := bif q0 % 7 == 3 then W (Int.tdiv q1 30) % 250 else uy
def odW (w q0 q1 : Int) : Int := bif q0 % 7 == 4 then q1 % 70 else w
def odH (h q0 q1 : Int) : Int := bif q0 % 7 == 5 then q1 % 70 else h
def odHr (hr q0 q1 : Int) : Int := bif q0 % 7 == 6 then q1 else hr
theorem q11 (ax ay ux uy w h hr q0 q1 : Int) : runP Try.prog E9 60 11 [vwv ax ay ux uy w h hr, .agg [iv q0, iv q1]] =
  bif q0 % 7 == 0 then some (vwv q1 ay ux uy w h hr)
  else bif q0 % 7 == 1 then some (vwv ax (W (1048576 - q1 % 3000)) ux uy w h hr)
  else bif q0 % 7 == 2 then some (vwv ax ay q1 uy w h hr)
  else bif q0 % 7 == 3 then some (vwv ax ay (W (1000 + q1 % 30)) (W (Int.tdiv q1 30) % 250) w h hr)
  else bif q0 % 7 == 4 then some (vwv ax ay ux uy (q1 % 70) h hr)
  else bif q0 % 7 == 5 then some (vwv ax ay ux uy w (q1 % 70) hr)
  else bif q0 % 7 == 6 then some (vwv ax ay ux uy w h q1)
  else some (vwv ax ay ux uy w h hr) := by kernel_rfl
def c11 : List PV → Option PV
  | [.agg [.val (.int .i64 ax), .val (.int .i64 ay), .val (.int .i64 ux), .val (.int .i64 uy), .val (.int .i64 w), .val (.int .i64 h), .val (.int .i64 hr)], .agg [.val (.int .i64 q0), .val (.int .i64 q1)]] =>
    some (vwv (odAx ax q0 q1) (odAy ay q0 q1) (odUx ux q0 q1) (odUy uy q0 q1) (odW w q0 q1) (odH h q0 q1) (odHr hr q0 q1))
  | _ => none
theorem o11 (args : List PV) (r : PV) (h : c11 args = some r) : Enters Try.prog 11 ∧ PCall Try.prog 11 args r := by
  unfold c11 at h; split at h
  · rename_i ax ay ux uy w h' hr q0 q1
    cases h
    refine runP_sound ok9 (n := 60) ?_
    rw [q11]
    unfold odAx odAy odUx odUy odW odH odHr
    have h7 : q0 % 7 = 0 ∨ q0 % 7 = 1 ∨ q0 % 7 = 2 ∨ q0 % 7 = 3 ∨ q0 % 7 = 4 ∨ q0 % 7 = 5 ∨ q0 % 7 = 6 := by omega
    rcases h7 with g | g | g | g | g | g | g <;> rw [g] <;> rfl
  · cases h
def E10 : EnvK := E9 |>.addO 22 c21 |>.addO 24 c23 |>.addO 11 c11
theorem ok10 : EnvOK Try.prog E10.env := ((ok9.addO o22).addO o24).addO o11
end Go.Hv
