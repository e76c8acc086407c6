/- Geometry: line.Check of any length. -/
import Derived.Test.YtneklpbkfmljfaaHgW4
namespace Go.Hg
open Go.Hx Go.Proofs
def wantC (es : List PV) (cl i k : Int) : Int := bif i == k + 1 then 1 else bif (k == 0) && ((i == cl) && cls es) then 1 else 0
def allC (es : List PV) (cl i a b c d : Int) (es2 : List PV) (k : Int) : Nat → Bool
  | 0 => true
  | n + 1 => (mqs a b c d es2 k (k + 1) == wantC es cl i k) && allC es cl i a b c d es2 (k + 1) n
noncomputable def pC : LS → Bool
  | ([.i k], [.l _ es, .i _, .i _, .l _ _, .r r4, .i _, .i _, .i _, .i _, .i _, .l _ es2, .r r8]) => decide (0 ≤ k) && decide (k + 1 ≤ (es2.length : Int)) && big es && big es2 && (same r4 (lrO .busy) && same r8 (lrI .ready))
  | _ => false
noncomputable def fC : LS → DT (PX × List PV × List Row)
  | ([.i k], [.l f es, .i er, .i cl, .l f3 es3, .r _, .i i, .i a, .i b, .i c, .i d, .l f2 es2, .r _]) => .br (allC es cl i a b c d es2 k ((es2.length : Int) - (k + 1)).toNat)
      (.leaf (.exit 0, tm 25 [], hC f es er cl f3 es3 i a b c d f2 es2 (lrI .ready))) (.leaf (.ret, tm 25 [], hC f es 11 cl f3 es3 i a b c d f2 es2 (lrI (.done (.exit 0)))))
  | _ => .no
def mC : LS → Nat
  | ([.i k], [.l _ _, .i _, .i _, .l _ _, .r _, .i _, .i _, .i _, .i _, .i _, .l _ es2, .r _]) => ((es2.length : Int) - (k + 1)).toNat
  | _ => 0
theorem pairC_eq {f : Bool} {es : List PV} {er cl : Int} {f3 : Bool} {es3 : List PV} {i a b c d : Int} {f2 : Bool} {es2 : List PV} {k w : Int} (hw : W (k + 1) = k + 1) : pairC f es er cl f3 es3 i a b c d f2 es2 k w =
    bif mqs a b c d es2 k (k + 1) == w then some (.normal, shC.put (lC f es er cl f3 es3 (lrO .busy) i a b c d f2 es2 (lrI .ready) (k + 1))) else some (.ret, tm 25 [], hC f es 11 cl f3 es3 i a b c d f2 es2 (lrI (.done (.exit 0)))) := by
  unfold pairC; rw [hw]; unfold bne
  cases mqs a b c d es2 k (k + 1) == w <;> rfl
theorem sC : ∀ s r, pC s = true → (fC s).run = some r → r.1 ≠ .normal ∧ (runB Try.prog E34 60 152 (lpb Try.f152 1) [0, 1, 3] [] (shC.put s).1 (shC.put s).2 = some r ∨
      ∃ s', runB Try.prog E34 60 152 (lpb Try.f152 1) [0, 1, 3] [] (shC.put s).1 (shC.put s).2 = some (.normal, shC.put s') ∧ pC s' = true ∧ mC s' < mC s ∧ (fC s').run = some r) := by
  intro s r hp hr
  unfold pC at hp; split at hp
  · rename_i k f es er cl f3 es3 r4 i a b c d f2 es2 r8
    simp only [Bool.and_eq_true, decide_eq_true_eq, same_iff] at hp
    obtain ⟨⟨⟨⟨h1, h2⟩, h3⟩, h4⟩, rfl, rfl⟩ := hp
    have hr' := run_br2 hr
    refine ⟨by rw [hr']; cases allC es cl i a b c d es2 k ((es2.length : Int) - (k + 1)).toNat <;> simp, ?_⟩
    rw [qC]
    have hw := W_id (n := k + 1) (by omega) (by omega)
    rw [hw]
    by_cases hi : k + 1 < (es2.length : Int)
    · rw [decide_eq_true hi, cond_true, inr_of h1 (by omega), inr_of (by omega) hi, show big es = true by simp [big]; omega, pairC_eq hw, pairC_eq hw]
      obtain ⟨n, hn⟩ : ∃ n, ((es2.length : Int) - (k + 1)).toNat = n + 1 := ⟨((es2.length : Int) - (k + 1)).toNat - 1, by omega⟩
      rw [hn] at hr'
      simp only [allC] at hr'
      generalize hX : (some (PX.normal, shC.put (lC f es er cl f3 es3 (lrO .busy) i a b c d f2 es2 (lrI .ready) (k + 1))) : Option (PX × List PV × List Row)) = X
      generalize hY : (some (PX.ret, tm 25 [], hC f es 11 cl f3 es3 i a b c d f2 es2 (lrI (.done (.exit 0)))) : Option (PX × List PV × List Row)) = Y
      have key : (bif true then bif true then bif i == k + 1 then (bif mqs a b c d es2 k (k + 1) == 1 then X else Y) else bif k == 0 then bif i == cl then bif true then bif cls es then (bif mqs a b c d es2 k (k + 1) == 1 then X else Y) else (bif mqs a b c d es2 k (k + 1) == 0 then X else Y) else none else (bif mqs a b c d es2 k (k + 1) == 0 then X else Y) else (bif mqs a b c d es2 k (k + 1) == 0 then X else Y) else none else none)
          = bif mqs a b c d es2 k (k + 1) == wantC es cl i k then X else Y := by
        unfold wantC
        cases i == k + 1 <;> cases cls es <;> cases k == 0 <;> cases i == cl <;> rfl
      rw [key]
      cases hR : mqs a b c d es2 k (k + 1) == wantC es cl i k with
      | false => rw [hR] at hr'; exact .inl (by rw [cond_false, ← hY, hr']; rfl)
      | true =>
        rw [hR] at hr'
        refine .inr ⟨lC f es er cl f3 es3 (lrO .busy) i a b c d f2 es2 (lrI .ready) (k + 1), by rw [cond_true, ← hX], by simp [pC, same_self]; omega, by simp only [mC]; omega, ?_⟩
        rw [hr']
        simp only [fC]
        rw [show ((es2.length : Int) - (k + 1 + 1)).toNat = n by omega]
        cases allC es cl i a b c d es2 (k + 1) n <;> rfl
    · rw [decide_eq_false hi]
      rw [show ((es2.length : Int) - (k + 1)).toNat = 0 by omega] at hr'
      exact .inl (by rw [hr']; rfl)
  · cases hp
noncomputable def E34a : EnvK := E34.addW 152 1 [0, 1, 3] [] shC pC fC
theorem ok34a : EnvOK Try.prog E34a.env :=
  ok34.addW (n := 60) Try.func152 (show Try.f152.body = some (bod Try.f152) by kernel_rfl) (show (loops (bod Try.f152)).filter (fun b => rid b == 1) = [lpb Try.f152 1] by kernel_rfl) [0, 1, 3] [] [] shC mC sC
def shD : S1 := ⟨25, [(0, .yld 4), (1, .ptr 3 1 0 0), (3, I64)], [.one 53 1 (.lst 23), .one 66 1 I64, .one 3 1 I64, .one 53 1 (.lst 23), .raw]⟩
abbrev lD (f : Bool) (es : List PV) (er cl : Int) (f3 : Bool) (es3 : List PV) (r4 : Row) (i : Int) : LS := ([.i i], [.l f es, .i er, .i cl, .l f3 es3, .r r4])
noncomputable abbrev hD (f : Bool) (es : List PV) (er cl : Int) (f3 : Bool) (es3 : List PV) (r4 : Row) : List Row := (shD.put (lD f es er cl f3 es3 r4 0)).2
def eqe (es : List PV) (i j : Int) : Bool := (qX es i == qX es j) && ((qY es i == qY es j) && true)
noncomputable def retD (f : Bool) (es : List PV) (cl : Int) (f3 : Bool) (es3 : List PV) : Option (PX × List PV × List Row) := some (.ret, tm 25 [], hD f es 11 cl f3 es3 (lrO (.done (.exit 0))))
theorem qD (f : Bool) (es : List PV) (er cl : Int) (f3 : Bool) (es3 : List PV) (i : Int) : runB Try.prog E34a 60 152 (lpb Try.f152 1) [0, 1, 3] [] (shD.put (lD f es er cl f3 es3 (lrO .ready) i)).1 (shD.put (lD f es er cl f3 es3 (lrO .ready) i)).2 =
  bif decide (W (i + 1) < (es3.length : Int)) then bif inr es3 i then bif inr es3 (W (i + 1)) then
    bif eqe es3 i (W (i + 1)) then retD f es cl f3 es3
    else bif decide ((0 : Int) ≤ 0) && decide ((0 : Int) ≤ W (i + 1)) && decide (W (i + 1) ≤ (es.length : Int)) then
      bif pC (lC f es er cl f3 es3 (lrO .busy) i (qX es3 i) (qY es3 i) (qX es3 (W (i + 1))) (qY es3 (W (i + 1))) false (es.take (W (i + 1)).toNat) (lrI .ready) 0) then
        bif allC es cl i (qX es3 i) (qY es3 i) (qX es3 (W (i + 1))) (qY es3 (W (i + 1))) (es.take (W (i + 1)).toNat) 0 (((es.take (W (i + 1)).toNat).length : Int) - (0 + 1)).toNat
        then some (.normal, shD.put (lD f es er cl f3 es3 (lrO .ready) (W (i + 1)))) else retD f es cl f3 es3
      else none
    else none
  else none else none else some (.exit 0, tm 25 [], hD f es er cl f3 es3 (lrO .ready)) := by kernel_rfl
end Go.Hg
