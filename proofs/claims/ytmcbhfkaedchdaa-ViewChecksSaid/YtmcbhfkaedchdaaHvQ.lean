/- The view's references: the box of a list of points; the list of all points. -/
import Derived.Test.YtmcbhfkaedchdaaHvR5
import Derived.Test.YtmcbhfkaedchdaaHxTurn
namespace Go.Hv
open Go.Hx Go.Proofs
def lz (es : List PV) (k : Int) (j : Nat) : Int := ((es.getD k.toNat .any).cells[j]?.getD .any).getI
abbrev S40 (f : Bool) (es : List PV) (k : Int) : List PV := tm 66 [(0, .lst f 26 es), (2, .ptr 0 1 0 0), (3, .ptr 1 1 0 0), (4, iv k)]
abbrev T40 (f : Bool) (es : List PV) : List PV := tm 66 [(0, .lst f 26 es), (2, .ptr 0 1 0 0), (3, .ptr 1 1 0 0)]
abbrev H40 (z0 z1 z2 z3 a b c d : Int) : List Row := [r1 37 4 (rcv z0 z1 z2 z3), r1 37 4 (rcv a b c d)]
def in40 {α : Type} (k : Int) (es : List PV) (x : Option α) : Option α := bif decide (0 ≤ k) && decide (k < ((es.length : Nat) : Int)) then x else none
theorem q40l (f : Bool) (es : List PV) (k z0 z1 z2 z3 a b c d : Int) : runB Try.prog E10 60 40 (lpb Try.f40 5) [0, 2, 3, 4] [0, 2, 3] (S40 f es k) (H40 z0 z1 z2 z3 a b c d) =
  bif decide (k < ((es.length : Nat) : Int)) then
    in40 k es (in40 k es (in40 k es (in40 k es (some (.normal, S40 f es (W (k + 1)), H40 z0 z1 z2 z3 (mnI a (lz es k 0)) (mnI b (lz es k 1)) (mxI c (lz es k 0)) (mxI d (lz es k 1)))))))
  else some (.exit 0, T40 f es, H40 z0 z1 z2 z3 a b c d) := by kernel_rfl
/-- The least, the greatest from a place on. -/
def fmn (es : List PV) (j : Nat) : Nat → Int → Int → Int
  | 0, _, a => a
  | n + 1, k, a => fmn es j n (k + 1) (mnI a (lz es k j))
def fmx (es : List PV) (j : Nat) : Nat → Int → Int → Int
  | 0, _, a => a
  | n + 1, k, a => fmx es j n (k + 1) (mxI a (lz es k j))
structure M40 where
  f : Bool
  es : List PV
  k : Int
  z : Int × Int × Int × Int
  r : Int × Int × Int × Int
def e40 (s : M40) : List PV × List Row := (S40 s.f s.es s.k, H40 s.z.1 s.z.2.1 s.z.2.2.1 s.z.2.2.2 s.r.1 s.r.2.1 s.r.2.2.1 s.r.2.2.2)
def s40 : St := ⟨66, [(0, .cell (.lst 26)), (2, .ptr 0 1 0 0), (3, .ptr 1 1 0 0), (4, i64)], [.one 37 4 (i64s 4), .one 37 4 (i64s 4)]⟩
def d40 : List Lf → List Lf → Option M40
  | [.l f es, .i k], [.i z0, .i z1, .i z2, .i z3, .i a, .i b, .i c, .i d] => some ⟨f, es, k, (z0, z1, z2, z3), (a, b, c, d)⟩
  | _, _ => none
theorem g40 : ∀ x y s, d40 x y = some s → s40.get (e40 s).1 (e40 s).2 = some (x, y) := by
  intro x y s h
  unfold d40 at h
  split at h
  · cases h; kernel_rfl
  · cases h
def p40 (s : M40) : Bool := decide (0 ≤ s.k) && decide (s.es.length ≤ 1000000)
def n40 (s : M40) : Nat := (((s.es.length : Nat) : Int) - s.k).toNat
def f40 (s : M40) : DT (PX × List PV × List Row) :=
  .leaf (.exit 0, T40 s.f s.es, H40 s.z.1 s.z.2.1 s.z.2.2.1 s.z.2.2.2 (fmn s.es 0 (n40 s) s.k s.r.1) (fmn s.es 1 (n40 s) s.k s.r.2.1) (fmx s.es 0 (n40 s) s.k s.r.2.2.1) (fmx s.es 1 (n40 s) s.k s.r.2.2.2))
noncomputable def E40a : EnvK := E10.addL 40 5 [0, 2, 3, 4] (byModel [true, true] (ofSt s40 d40) p40 f40)
theorem ok40a : EnvOK Try.prog E40a.env :=
  ok10.addM (n := 60) Try.func40 (show Try.f40.body = some (bod Try.f40) by kernel_rfl) (show (loops (bod Try.f40)).filter (fun b => rid b == 5) = [lpb Try.f40 5] by kernel_rfl) [0, 2, 3, 4] [0, 2, 3] e40 (ofSt_emb g40) n40 (fun s r hp hr => by
    obtain ⟨f, es, k, ⟨z0, z1, z2, z3⟩, a, b, c, d⟩ := s
    obtain rfl := Option.some.inj hr
    simp only [p40, Bool.and_eq_true, decide_eq_true_eq] at hp
    obtain ⟨h1, h2⟩ := hp
    refine ⟨by simp, ?_⟩
    unfold e40
    dsimp only
    rw [q40l]
    by_cases hk : k < ((es.length : Nat) : Int)
    · right
      refine ⟨⟨f, es, k + 1, (z0, z1, z2, z3), mnI a (lz es k 0), mnI b (lz es k 1), mxI c (lz es k 0), mxI d (lz es k 1)⟩, ?_, ?_, ?_, ?_⟩
      · rw [decide_eq_true hk, W_id (n := k + 1) (by omega) (by omega)]
        unfold in40
        rw [decide_eq_true hk, decide_eq_true h1]
        rfl
      · simp only [p40, Bool.and_eq_true, decide_eq_true_eq]; omega
      · simp only [n40]; omega
      · have e : n40 ⟨f, es, k, (z0, z1, z2, z3), (a, b, c, d)⟩ = n40 ⟨f, es, k + 1, (z0, z1, z2, z3), (mnI a (lz es k 0), mnI b (lz es k 1), mxI c (lz es k 0), mxI d (lz es k 1))⟩ + 1 := by simp only [n40]; omega
        unfold f40
        rw [e]
        rfl
    · left
      rw [decide_eq_false hk]
      have e : n40 ⟨f, es, k, (z0, z1, z2, z3), (a, b, c, d)⟩ = 0 := by simp only [n40]; omega
      rw [e]
      rfl)
def box40 (es : List PV) : PV := rcv (fmn es 0 (es.length - 1) 1 (lz es 0 0)) (fmn es 1 (es.length - 1) 1 (lz es 0 1)) (fmx es 0 (es.length - 1) 1 (lz es 0 0)) (fmx es 1 (es.length - 1) 1 (lz es 0 1))
theorem q40 (f : Bool) (es : List PV) : runP Try.prog E40a 60 40 [.lst f 26 es] =
  bif ((es.length : Nat) : Int) == 0 then some (rcv 0 0 0 0) else
  in40 0 es (in40 0 es (in40 0 es (in40 0 es (bif decide ((0 : Int) ≤ 1) && decide (es.length ≤ 1000000) then
    some (rcv (fmn es 0 (((es.length : Nat) : Int) - 1).toNat 1 (lz es 0 0)) (fmn es 1 (((es.length : Nat) : Int) - 1).toNat 1 (lz es 0 1)) (fmx es 0 (((es.length : Nat) : Int) - 1).toNat 1 (lz es 0 0)) (fmx es 1 (((es.length : Nat) : Int) - 1).toNat 1 (lz es 0 1))) else none)))) := by kernel_rfl
end Go.Hv
