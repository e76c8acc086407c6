/- The view: Check, Turned, Box, Pixel, Part. -/
import Derived.Test.YtmcbhfkaedchdaaHvA
namespace Go.Hv
open Go.Hx Go.Proofs
def E1 : EnvK := ({} : EnvK) |>.addD 25 d25 |>.addO 26 c26 |>.addO 27 c27 |>.addO 28 c28 |>.addO 42 c42 |>.addO 29 c29 |>.addO 32 c32 |>.addO 33 c33 |>.addO 37 c37 |>.addO 14 c14 |>.addO 15 c14 |>.addO 38 c38 |>.addO 41 c41 |>.addO 39 c39
theorem ok1 : EnvOK Try.prog E1.env := (((((((((((((envOK_zero.addD e25 o25).addO o26).addO o27).addO o28).addO o42).addO o29).addO o32).addO o33).addO o37).addO o14).addO o15).addO o38).addO o41).addO o39
theorem ci (b : Bool) (x y : Int) : (bif b then some (iv x) else some (iv y)) = some (iv (bif b then x else y)) := by cases b <;> rfl
theorem cb (b : Bool) (x y : Bool) : (bif b then some (bv x) else some (bv y)) = some (bv (bif b then x else y)) := by cases b <;> rfl
/-- What view.Check says. -/
def ck (ax ay ux uy w h hr : Int) : Int :=
  bif ((ux == 0) && ((uy == 0) && true)) then 1
  else bif bey ux 1024 then 3 else bif bey uy 1024 then 3 else bif decide (dotX ux uy ux uy > 1048576) then 3
  else bif decide (w < 1) then 3 else bif decide (w > 64) then 3 else bif decide (h < 1) then 3 else bif decide (h > 64) then 3 else bif decide (hr < 0) then 3 else bif decide (hr > 23) then 3
  else bif farX ax ay then 10
  else bif farX (wx ax ux uy 0 0) (wy ay ux uy 0 0) then 10
  else bif farX (wx ax ux uy (W (w - 1)) 0) (wy ay ux uy (W (w - 1)) 0) then 10
  else bif farX (wx ax ux uy 0 (W (h - 1))) (wy ay ux uy 0 (W (h - 1))) then 10
  else bif farX (wx ax ux uy (W (w - 1)) (W (h - 1))) (wy ay ux uy (W (w - 1)) (W (h - 1))) then 10
  else 0
theorem q12 (ax ay ux uy w h hr : Int) : runP Try.prog E1 60 12 [vwv ax ay ux uy w h hr] =
  bif ((ux == 0) && ((uy == 0) && true)) then some (iv 1)
  else bif bey ux 1024 then some (iv 3) else bif bey uy 1024 then some (iv 3) else bif decide (dotX ux uy ux uy > 1048576) then some (iv 3)
  else bif decide (w < 1) then some (iv 3) else bif decide (w > 64) then some (iv 3) else bif decide (h < 1) then some (iv 3) else bif decide (h > 64) then some (iv 3) else bif decide (hr < 0) then some (iv 3) else bif decide (hr > 23) then some (iv 3)
  else bif farX ax ay then some (iv 10)
  else bif farX (wx ax ux uy 0 0) (wy ay ux uy 0 0) then some (iv 10)
  else bif farX (wx ax ux uy (W (w - 1)) 0) (wy ay ux uy (W (w - 1)) 0) then some (iv 10)
  else bif farX (wx ax ux uy 0 (W (h - 1))) (wy ay ux uy 0 (W (h - 1))) then some (iv 10)
  else bif farX (wx ax ux uy (W (w - 1)) (W (h - 1))) (wy ay ux uy (W (w - 1)) (W (h - 1))) then some (iv 10)
  else some (iv 0) := by kernel_rfl
def c12 : List PV → Option PV
  | [.agg [.val (.int .i64 ax), .val (.int .i64 ay), .val (.int .i64 ux), .val (.int .i64 uy), .val (.int .i64 w), .val (.int .i64 h), .val (.int .i64 hr)]] => some (iv (ck ax ay ux uy w h hr))
  | _ => none
theorem o12 (args : List PV) (r : PV) (h : c12 args = some r) : Enters Try.prog 12 ∧ PCall Try.prog 12 args r := by
  unfold c12 at h; split at h
  · cases h; exact runP_sound ok1 (n := 60) (by rw [q12]; simp only [ci]; rfl)
  · cases h
def c18 : List PV → Option PV
  | [.agg [.val (.int .i64 ax), .val (.int .i64 ay), .val (.int .i64 ux), .val (.int .i64 uy), .val (.int .i64 w), .val (.int .i64 h), .val (.int .i64 hr)], .val (.int .i64 n)] => some (vwv ax ay (tpx ux uy n) (tpy ux uy n) w h hr)
  | _ => none
theorem o18 (args : List PV) (r : PV) (h : c18 args = some r) : Enters Try.prog 18 ∧ PCall Try.prog 18 args r := by
  unfold c18 at h; split at h
  · cases h; exact runP_sound ok1 (n := 60) (by kernel_rfl)
  · cases h
def c19 : List PV → Option PV
  | [.agg [.val (.int .i64 ax), .val (.int .i64 ay), .val (.int .i64 ux), .val (.int .i64 uy), .val (.int .i64 w), .val (.int .i64 h), .val (.int .i64 hr)], .val (.int .i64 n)] => some (vwv ax ay (trx ux uy n) (tryy ux uy n) w h hr)
  | _ => none
theorem o19 (args : List PV) (r : PV) (h : c19 args = some r) : Enters Try.prog 19 ∧ PCall Try.prog 19 args r := by
  unfold c19 at h; split at h
  · cases h; exact runP_sound ok1 (n := 60) (by kernel_rfl)
  · cases h
def E2 : EnvK := ((E1.addO 12 c12).addO 18 c18).addO 19 c19
theorem ok2 : EnvOK Try.prog E2.env := ((ok1.addO o12).addO o18).addO o19
end Go.Hv
