/- The view: ViewFinds answers true. -/
import Derived.Test.YtmcbhfkaedchdaaHvR5
namespace Go.Hv
open Go.Hx Go.Proofs
abbrev S4 (hd : Bool) (k n m : Int) (a b : Nat) : List PV := tm 178 [(4, .ptr 0 1 0 0), (5, .ptr 1 1 0 0), (7, bv hd), (8, .ptr 2 1 0 0), (10, .ptr 4 1 0 0), (11, iv k), (38, .sl 3 a 0 b), (39, iv n), (40, iv m)]
abbrev T4 (hd : Bool) (n m : Int) (a b : Nat) : List PV := tm 178 [(4, .ptr 0 1 0 0), (5, .ptr 1 1 0 0), (7, bv hd), (8, .ptr 2 1 0 0), (10, .ptr 4 1 0 0), (38, .sl 3 a 0 b), (39, iv n), (40, iv m)]
abbrev H4 (f : Bool) (es vs : List PV) (nl : Bool) (n0 n1 n2 n3 o0 o1 qx qy qu qv qw qh qr ax ay ux uy w h hr bx by' vx vy z g br : Int) : List Row :=
  [r1 44 7 (.agg [iv n0, iv n1, iv n2, iv n3, iv o0, iv o1, .lst f 26 es]), r1 28 7 (vwv qx qy qu qv qw qh qr), r1 28 7 (vwv ax ay ux uy w h hr), rN 28 7 nl vs, r1 28 7 (vwv bx by' vx vy z g br)]
def lx (es : List PV) (k : Int) (j : Nat) : Int := ((es.getD k.toNat .any).cells[j]?.getD .any).getI
def same3 {α : Type} (bx by' vx vy z g br x y : Int) (r t : α) : α :=
  let c := pin bx by' vx vy z g br x y
  bif (bif c then px0 bx by' vx vy x y else 0) != (bif c then px0 bx by' vx vy x y else 0) then r
  else bif (bif c then px1 bx by' vx vy x y else 0) != (bif c then px1 bx by' vx vy x y else 0) then r
  else bif (!((c : Bool) == c)) then r else t
theorem same3_eq {α : Type} (bx by' vx vy z g br x y : Int) (r t : α) : same3 bx by' vx vy z g br x y r t = t := by unfold same3; simp
theorem q4k (hd : Bool) (k n m : Int) (a b : Nat) (f : Bool) (es vs : List PV) (nl : Bool) (n0 n1 n2 n3 o0 o1 qx qy qu qv qw qh qr ax ay ux uy w h hr bx by' vx vy z g br : Int) :
   runB Try.prog E10 60 4 (lpb Try.f4 7) [4, 5, 7, 8, 10, 11, 38, 39, 40] [4, 5, 7, 8, 10, 38, 39, 40] (S4 hd k n m a b) (H4 f es vs nl n0 n1 n2 n3 o0 o1 qx qy qu qv qw qh qr ax ay ux uy w h hr bx by' vx vy z g br) =
   bif decide (k < ((es.length : Nat) : Int)) then bif decide (k < 6) then bif decide (0 ≤ k) && decide (k < ((es.length : Nat) : Int)) then
    same3 bx by' vx vy z g br (lx es k 0) (lx es k 1) (some (.ret, T4 hd n m a b, H4 f es vs nl n0 n1 n2 n3 o0 o1 qx qy qu qv qw qh qr ax ay ux uy w h hr bx by' vx vy z g br))
    (same3 bx by' vx vy z g br (W (bx + Int.tmod (lx es k 0) 40)) (W (by' + Int.tmod (lx es k 1) 40)) (some (.ret, T4 hd n m a b, H4 f es vs nl n0 n1 n2 n3 o0 o1 qx qy qu qv qw qh qr ax ay ux uy w h hr bx by' vx vy z g br))
    (same3 bx by' vx vy z g br (wx bx vx vy (Int.tmod (lx es k 0) 14) (Int.tmod (lx es k 1) 14)) (wy by' vx vy (Int.tmod (lx es k 0) 14) (Int.tmod (lx es k 1) 14)) (some (.ret, T4 hd n m a b, H4 f es vs nl n0 n1 n2 n3 o0 o1 qx qy qu qv qw qh qr ax ay ux uy w h hr bx by' vx vy z g br))
     (some (.normal, S4 hd (W (k + 1)) n m a b, H4 f es vs nl n0 n1 n2 n3 o0 o1 qx qy qu qv qw qh qr ax ay ux uy w h hr bx by' vx vy z g br))))
   else none else some (.exit 2, T4 hd n m a b, H4 f es vs nl n0 n1 n2 n3 o0 o1 qx qy qu qv qw qh qr ax ay ux uy w h hr bx by' vx vy z g br) else some (.exit 2, T4 hd n m a b, H4 f es vs nl n0 n1 n2 n3 o0 o1 qx qy qu qv qw qh qr ax ay ux uy w h hr bx by' vx vy z g br) := by kernel_rfl
def s4k : St := ⟨178, [(4, .ptr 0 1 0 0), (5, .ptr 1 1 0 0), (7, .cell .bool), (8, .ptr 2 1 0 0), (10, .ptr 4 1 0 0), (11, i64), (38, .sl 3), (39, i64), (40, i64)], [.one 44 7 (.agg [.int .i64, .int .i64, .int .i64, .int .i64, .int .i64, .int .i64, .lst 26]), .one 28 7 (i64s 7), .one 28 7 (i64s 7), .many 28 7, .one 28 7 (i64s 7)]⟩
def c4k : List Lf → List Lf → Option (DT (PX × List PV × List Row))
  | [.b hd, .i k, .n a, .n b, .i n, .i m], [.i n0, .i n1, .i n2, .i n3, .i o0, .i o1, .l f es, .i qx, .i qy, .i qu, .i qv, .i qw, .i qh, .i qr, .i ax, .i ay, .i ux, .i uy, .i w, .i h, .i hr, .l nl vs, .i bx, .i by', .i vx, .i vy, .i z, .i g, .i br] =>
    some (.br (decide (0 ≤ k)) (.leaf (.exit 2, T4 hd n m a b, H4 f es vs nl n0 n1 n2 n3 o0 o1 qx qy qu qv qw qh qr ax ay ux uy w h hr bx by' vx vy z g br)) .no)
  | _, _ => none
theorem g4k (hd : Bool) (k n m : Int) (a b : Nat) (f : Bool) (es vs : List PV) (nl : Bool) (n0 n1 n2 n3 o0 o1 qx qy qu qv qw qh qr ax ay ux uy w h hr bx by' vx vy z g br : Int) :
    s4k.get (S4 hd k n m a b) (H4 f es vs nl n0 n1 n2 n3 o0 o1 qx qy qu qv qw qh qr ax ay ux uy w h hr bx by' vx vy z g br) = some ([.b hd, .i k, .n a, .n b, .i n, .i m], [.i n0, .i n1, .i n2, .i n3, .i o0, .i o1, .l f es, .i qx, .i qy, .i qu, .i qv, .i qw, .i qh, .i qr, .i ax, .i ay, .i ux, .i uy, .i w, .i h, .i hr, .l nl vs, .i bx, .i by', .i vx, .i vy, .i z, .i g, .i br]) := by kernel_rfl
theorem w4k (hsub : SubCode Try.prog 4 (.loop (lpb Try.f4 7))) (ro : Nat) (S : List PV) (H : List Row) (d : DT (PX × List PV × List Row)) (x : PX) (S' : List PV) (H' : List Row) (hc : byShape s4k c4k ro S H = some d) (hd : d.run = some (x, S', H')) :
    WpTo Try.prog (.loop (lpb Try.f4 7)) ro S H x S' H' := by
  obtain ⟨a, b, rfl, hg, hf⟩ := byShape_inv hc
  unfold c4k at hf
  split at hf
  · rename_i b0 k a b n m n0 n1 n2 n3 o0 o1 f es qx qy qu qv qw qh qr ax ay ux uy w h hr nl vs bx by' vx vy z g br
    cases hf
    obtain ⟨hcond, he⟩ := run_br hd
    cases he
    obtain ⟨rfl, hH⟩ := St.inj hg (g4k b0 k n m a b f es vs nl n0 n1 n2 n3 o0 o1 qx qy qu qv qw qh qr ax ay ux uy w h hr bx by' vx vy z g br)
    refine wpTo_nrm ?_
    rw [hH]
    simp only [decide_eq_true_eq] at hcond
    refine Rnds.loop (by simp) ?_
    have hbody := hsub.sub (.loop .here)
    clear hc hg hd hH
    generalize hn : (6 - k).toNat = c
    induction c generalizing k with
    | zero =>
      refine .stop (runB_sound ok10 hbody (n := 60) (l := [4, 5, 7, 8, 10, 11, 38, 39, 40]) (l' := [4, 5, 7, 8, 10, 38, 39, 40]) ?_)
      rw [q4k]
      have : decide (k < 6) = false := by simp; omega
      rw [this]
      cases decide (k < ((es.length : Nat) : Int)) <;> rfl
    | succ c ih =>
      cases hl : decide (k < ((es.length : Nat) : Int)) with
      | false =>
        refine .stop (runB_sound ok10 hbody (n := 60) (l := [4, 5, 7, 8, 10, 11, 38, 39, 40]) (l' := [4, 5, 7, 8, 10, 38, 39, 40]) ?_)
        rw [q4k, hl]; rfl
      | true =>
        refine .go (runB_sound ok10 hbody (n := 60) (l := [4, 5, 7, 8, 10, 11, 38, 39, 40]) (l' := [4, 5, 7, 8, 10, 38, 39, 40]) (S' := S4 b0 (k + 1) n m a b) ?_) (ih (k + 1) (by omega) (by omega))
        have e : decide (k < 6) = true := by simp; omega
        have e2 : decide (0 ≤ k) = true := by simp; omega
        rw [q4k, hl, e, e2, same3_eq, same3_eq, same3_eq, W_id (n := k + 1) (by omega) (by omega)]; rfl
  · cases hf
noncomputable def E4a : EnvK := E10.addL 4 7 [4, 5, 7, 8, 10, 11, 38, 39, 40] (byShape s4k c4k)
theorem ok4a : EnvOK Try.prog E4a.env := ok10.addL Try.func4 (show Try.f4.body = some (bod Try.f4) by kernel_rfl) (show (loops (bod Try.f4)).filter (fun b => rid b == 7) = [lpb Try.f4 7] by kernel_rfl) w4k
end Go.Hv
