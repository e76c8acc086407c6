/- Geometry: line.Check of any length: as the reference's. -/
import Derived.Test.YtneklpbkfmljfaaHgW5
import Derived.Test.YtneklpbkfmljfaaHgT2
namespace Go.Hg
open Go.Hx Go.Proofs
def allO (es : List PV) (cl i : Int) : Nat → Bool
  | 0 => true
  | n + 1 => !eqe es i (i + 1) && (allC es cl i (qX es i) (qY es i) (qX es (i + 1)) (qY es (i + 1)) (es.take (i + 1).toNat) 0 i.toNat && allO es cl (i + 1) n)
noncomputable def pD : LS → Bool
  | ([.i i], [.l _ es, .i _, .i cl, .l _ es3, .r r4]) => decide (0 ≤ i) && decide (i + 1 ≤ (es.length : Int)) && decide (cl + 2 = (es.length : Int)) && big es && (same r4 (lrO .ready) && same es3 es)
  | _ => false
noncomputable def fD : LS → DT (PX × List PV × List Row)
  | ([.i i], [.l f es, .i er, .i cl, .l f3 es3, .r _]) => .br (allO es cl i ((es.length : Int) - (i + 1)).toNat)
      (.leaf (.exit 0, tm 25 [], hD f es er cl f3 es3 (lrO .ready))) (.leaf (.ret, tm 25 [], hD f es 11 cl f3 es3 (lrO (.done (.exit 0)))))
  | _ => .no
def mD : LS → Nat
  | ([.i i], [.l _ es, .i _, .i _, .l _ _, .r _]) => ((es.length : Int) - (i + 1)).toNat
  | _ => 0
theorem sD : ∀ s r, pD s = true → (fD s).run = some r → r.1 ≠ .normal ∧ (runB Try.prog E34a 60 152 (lpb Try.f152 1) [0, 1, 3] [] (shD.put s).1 (shD.put s).2 = some r ∨
      ∃ s', runB Try.prog E34a 60 152 (lpb Try.f152 1) [0, 1, 3] [] (shD.put s).1 (shD.put s).2 = some (.normal, shD.put s') ∧ pD s' = true ∧ mD s' < mD s ∧ (fD s').run = some r) := by
  intro s r hp hr
  unfold pD at hp; split at hp
  · rename_i i f es er cl f3 es3 r4
    simp only [Bool.and_eq_true, decide_eq_true_eq, same_iff] at hp
    obtain ⟨⟨⟨⟨h1, h2⟩, h3⟩, h4⟩, rfl, rfl⟩ := hp
    have hr' := run_br2 hr
    refine ⟨by rw [hr']; cases allO es3 cl i ((es3.length : Int) - (i + 1)).toNat <;> simp, ?_⟩
    rw [qD]
    have hw := W_id (n := i + 1) (by omega) (by omega)
    rw [hw]
    by_cases hi : i + 1 < (es3.length : Int)
    · have hl : (es3.take (i + 1).toNat).length = (i + 1).toNat := by rw [List.length_take]; omega
      have hp : pC (lC f es3 er cl f3 es3 (lrO .busy) i (qX es3 i) (qY es3 i) (qX es3 (i + 1)) (qY es3 (i + 1)) false (es3.take (i + 1).toNat) (lrI .ready) 0) = true := by
        simp only [pC, same_self, hl, Bool.and_true, Bool.and_eq_true, decide_eq_true_eq]; omega
      rw [decide_eq_true hi, cond_true, inr_of h1 (by omega), inr_of (by omega) hi, hp, hl, show (((i + 1).toNat : Int) - (0 + 1)).toNat = i.toNat by omega,
        show (decide ((0 : Int) ≤ 0) && decide ((0 : Int) ≤ i + 1) && decide (i + 1 ≤ (es3.length : Int))) = true by simp; omega]
      obtain ⟨n, hn⟩ : ∃ n, ((es3.length : Int) - (i + 1)).toNat = n + 1 := ⟨((es3.length : Int) - (i + 1)).toNat - 1, by omega⟩
      rw [hn] at hr'
      simp only [allO] at hr'
      simp only [cond_true]
      cases hE : eqe es3 i (i + 1) with
      | true => rw [hE] at hr'; exact .inl (by rw [hr']; rfl)
      | false =>
        rw [hE] at hr'
        cases hR : allC es3 cl i (qX es3 i) (qY es3 i) (qX es3 (i + 1)) (qY es3 (i + 1)) (es3.take (i + 1).toNat) 0 i.toNat with
        | false => rw [hR] at hr'; exact .inl (by rw [hr']; rfl)
        | true =>
          rw [hR] at hr'
          refine .inr ⟨lD f es3 er cl f3 es3 (lrO .ready) (i + 1), rfl, by simp [pD, same_self]; omega, by simp only [mD]; omega, ?_⟩
          rw [hr']
          simp only [fD]
          rw [show ((es3.length : Int) - (i + 1 + 1)).toNat = n by omega]
          cases allO es3 cl (i + 1) n <;> rfl
    · rw [decide_eq_false hi]
      rw [show ((es3.length : Int) - (i + 1)).toNat = 0 by omega] at hr'
      exact .inl (by rw [hr']; rfl)
  · cases hp
noncomputable def E34b : EnvK := E34a.addW 152 1 [0, 1, 3] [] shD pD fD
theorem ok34b : EnvOK Try.prog E34b.env :=
  ok34a.addW (n := 60) Try.func152 (show Try.f152.body = some (bod Try.f152) by kernel_rfl) (show (loops (bod Try.f152)).filter (fun b => rid b == 1) = [lpb Try.f152 1] by kernel_rfl) [0, 1, 3] [] [] shD mD sD
noncomputable def chkL (f : Bool) (es : List PV) : Option PV := bif big es then bif !fin es then some (iv 10) else bif pD (lD f es 0 (W ((es.length : Int) - 2)) f es (lrO .ready) 0) then bif allO es (W ((es.length : Int) - 2)) 0 ((es.length : Int) - (0 + 1)).toNat then some (iv 0) else some (iv 11) else none else none
theorem qChk (f : Bool) (es : List PV) : runP Try.prog E34b 60 102 [.lst f 23 es] =
  bif decide ((es.length : Int) < 2) then some (iv 2) else bif decide ((es.length : Int) > 40) then some (iv 2) else chkL f es := by kernel_rfl
end Go.Hg
