/- Geometry: contracts: Area2 and Inside of rings, both. -/
import Derived.Test.YtneklpbkfmljfaaPart5
import Derived.Test.YtneklpbkfmljfaaPart4
import Derived.Test.YtneklpbkfmljfaaRows
namespace Go.Hg
open Go.Hx Go.Proofs
def nx (es : List PV) (i : Int) : Int := Int.tmod (i + 1) (es.length : Int)
theorem nx_range {es : List PV} {i : Int} (h0 : 0 ≤ i) (h1 : i < (es.length : Int)) : 0 ≤ nx es i ∧ nx es i < (es.length : Int) := by
  unfold nx
  exact ⟨Int.tmod_nonneg _ (by omega), Int.tmod_lt_of_pos _ (by omega)⟩
theorem nx_inr {es : List PV} {i : Int} (h0 : 0 ≤ i) (h1 : i < (es.length : Int)) : inr es (nx es i) = true := by
  have := nx_range h0 h1
  exact inr_of this.1 this.2
theorem nxW_eq {es : List PV} {i : Int} (h0 : 0 ≤ i) (h1 : i < (es.length : Int)) (h : es.length ≤ 1000000) : nxW es i = nx es i := by unfold nxW nx; rw [W_id (by omega) (by omega)]
theorem nz_of {es : List PV} {i : Int} (h0 : 0 ≤ i) (h1 : i < (es.length : Int)) : nz es = true := by unfold nz; simp; intro h; subst h; simp at h1; omega
/-- The sum of the cross products from i on. -/
def arS (es : List PV) (i : Int) : Nat → Int → Int
  | 0, acc => acc
  | n + 1, acc => arS es (i + 1) n (W (acc + crW es i (nx es i)))
def onS (es : List PV) (x y i : Int) : Nat → Bool
  | 0 => false
  | n + 1 => onq es i (nx es i) x y || onS es x y (i + 1) n
def smS (es : List PV) (x y i : Int) : Nat → Int → Int
  | 0, acc => acc
  | n + 1, acc => smS es x y (i + 1) n (W (acc + ryq es i (nx es i) x y))
/-- The sum when a segment's on is met. -/
def smU (es : List PV) (x y i : Int) : Nat → Int → Int
  | 0, acc => acc
  | n + 1, acc => bif onq es i (nx es i) x y then acc else smU es x y (i + 1) n (W (acc + ryq es i (nx es i) x y))

noncomputable def pA : LS → Bool
  | ([.l _ es, .i l, .i i], [.i sum, .l f2 es2, .r r]) => decide (0 ≤ i) && decide (i ≤ (es.length : Int)) && big es && (decide (l = (es.length : Int)) && (same r (lrA .ready) && same es es2))
  | _ => false
noncomputable def fA : LS → DT (PX × List PV × List Row)
  | ([.l _ es, .i l, .i i], [.i sum, .l f2 es2, .r r]) => .leaf (.exit 0, tm 25 [], hA (arS es i ((es.length : Int) - i).toNat sum) f2 es2 r)
  | _ => .no
def mA : LS → Nat
  | ([.l _ es, .i l, .i i], [.i sum, .l f2 es2, .r r]) => ((es.length : Int) - i).toNat
  | _ => 0
theorem sA : ∀ s r, pA s = true → (fA s).run = some r → r.1 ≠ .normal ∧ (runB Try.prog E37 60 145 (lpb Try.f145 1) [0, 1, 5, 6, 7] [] (shA.put s).1 (shA.put s).2 = some r ∨
      ∃ s', runB Try.prog E37 60 145 (lpb Try.f145 1) [0, 1, 5, 6, 7] [] (shA.put s).1 (shA.put s).2 = some (.normal, shA.put s') ∧ pA s' = true ∧ mA s' < mA s ∧ (fA s').run = some r) := by
  intro s r hp hr
  unfold pA at hp; split at hp
  · rename_i f es l i sum f2 es2 r0
    simp only [Bool.and_eq_true, decide_eq_true_eq, same_iff] at hp
    obtain ⟨⟨⟨h1, h2⟩, h3⟩, rfl, rfl, rfl⟩ := hp
    have hr' := (Option.some.inj hr).symm
    refine ⟨by rw [hr']; simp, ?_⟩
    rw [qA]
    have hw := W_id (n := i + 1) (by omega) (by omega)
    by_cases hi : i < (es.length : Int)
    · rw [decide_eq_true hi, cond_true, inr_of h1 hi, nz_of h1 hi, nxW_eq h1 hi h3, nx_inr h1 hi, hw]
      simp only [cond_true]
      obtain ⟨n, hn⟩ : ∃ n, ((es.length : Int) - i).toNat = n + 1 := ⟨((es.length : Int) - i).toNat - 1, by omega⟩
      rw [hn] at hr'
      simp only [arS] at hr'
      refine .inr ⟨lA f es (es.length : Int) (i + 1) (W (sum + crW es i (nx es i))) f2 es (lrA .ready), rfl, by simp [pA, same_self]; omega, by simp only [mA]; omega, ?_⟩
      rw [hr']
      simp only [fA]
      rw [show ((es.length : Int) - (i + 1)).toNat = n by omega]
      rfl
    · rw [decide_eq_false hi]
      rw [show ((es.length : Int) - i).toNat = 0 by omega] at hr'
      exact .inl (by rw [hr']; rfl)
  · cases hp
noncomputable def E37a : EnvK := E37.addW 145 1 [0, 1, 5, 6, 7] [] shA pA fA
theorem ok37a : EnvOK Try.prog E37a.env :=
  ok37.addW (n := 60) Try.func145 (show Try.f145.body = some (bod Try.f145) by kernel_rfl) (show (loops (bod Try.f145)).filter (fun b => rid b == 1) = [lpb Try.f145 1] by kernel_rfl) [0, 1, 5, 6, 7] [] [] shA mA sA
noncomputable def pB : LS → Bool
  | ([.l _ es, .i sum, .i i], []) => decide (0 ≤ i) && decide (i ≤ (es.length : Int)) && big es
  | _ => false
noncomputable def fB : LS → DT (PX × List PV × List Row)
  | ([.l _ es, .i sum, .i i], []) => .leaf (.exit 0, tm 22 [(3, iv (arS es i ((es.length : Int) - i).toNat sum))], [])
  | _ => .no
def mB : LS → Nat
  | ([.l _ es, .i sum, .i i], []) => ((es.length : Int) - i).toNat
  | _ => 0
theorem sB : ∀ s r, pB s = true → (fB s).run = some r → r.1 ≠ .normal ∧ (runB Try.prog E37 60 61 (lpb Try.f61 3) [0, 3, 4] [3] (shB.put s).1 (shB.put s).2 = some r ∨
      ∃ s', runB Try.prog E37 60 61 (lpb Try.f61 3) [0, 3, 4] [3] (shB.put s).1 (shB.put s).2 = some (.normal, shB.put s') ∧ pB s' = true ∧ mB s' < mB s ∧ (fB s').run = some r) := by
  intro s r hp hr
  unfold pB at hp; split at hp
  · rename_i f es sum i
    simp only [Bool.and_eq_true, decide_eq_true_eq, same_iff] at hp
    obtain ⟨⟨h1, h2⟩, h3⟩ := hp
    have hr' := (Option.some.inj hr).symm
    refine ⟨by rw [hr']; simp, ?_⟩
    rw [qB]
    have hw := W_id (n := i + 1) (by omega) (by omega)
    by_cases hi : i < (es.length : Int)
    · rw [decide_eq_true hi, cond_true, inr_of h1 hi, nz_of h1 hi, nxW_eq h1 hi h3, nx_inr h1 hi, hw]
      simp only [cond_true]
      obtain ⟨n, hn⟩ : ∃ n, ((es.length : Int) - i).toNat = n + 1 := ⟨((es.length : Int) - i).toNat - 1, by omega⟩
      rw [hn] at hr'
      simp only [arS] at hr'
      refine .inr ⟨([.l f es, .i (W (sum + crW es i (nx es i))), .i (i + 1)], []), rfl, by simp [pB, same_self]; omega, by simp only [mB]; omega, ?_⟩
      rw [hr']
      simp only [fB]
      rw [show ((es.length : Int) - (i + 1)).toNat = n by omega]
      rfl
    · rw [decide_eq_false hi]
      rw [show ((es.length : Int) - i).toNat = 0 by omega] at hr'
      exact .inl (by rw [hr']; rfl)
  · cases hp
noncomputable def E37b : EnvK := E37.addW 61 3 [0, 3, 4] [] shB pB fB
theorem ok37b : EnvOK Try.prog E37b.env :=
  ok37.addW (n := 60) Try.func61 (show Try.f61.body = some (bod Try.f61) by kernel_rfl) (show (loops (bod Try.f61)).filter (fun b => rid b == 3) = [lpb Try.f61 3] by kernel_rfl) [0, 3, 4] [3] [] shB mB sB
noncomputable def pN : LS → Bool
  | ([.l _ es, .i l, .i i], [.i x, .i y, .i res, .i sum, .l f2 es2, .r r]) => decide (0 ≤ i) && decide (i ≤ (es.length : Int)) && big es && (decide (l = (es.length : Int)) && (same r (lrN .ready) && same es es2))
  | _ => false
noncomputable def fN : LS → DT (PX × List PV × List Row)
  | ([.l _ es, .i l, .i i], [.i x, .i y, .i res, .i sum, .l f2 es2, .r r]) => .br (onS es x y i ((es.length : Int) - i).toNat) (.leaf (.ret, tm 25 [], hN x y 0 (smU es x y i ((es.length : Int) - i).toNat sum) f2 es2 (lrN (.done .ret)))) (.leaf (.exit 0, tm 25 [], hN x y res (smS es x y i ((es.length : Int) - i).toNat sum) f2 es2 r))
  | _ => .no
def mN : LS → Nat
  | ([.l _ es, .i l, .i i], [.i x, .i y, .i res, .i sum, .l f2 es2, .r r]) => ((es.length : Int) - i).toNat
  | _ => 0
theorem sN : ∀ s r, pN s = true → (fN s).run = some r → r.1 ≠ .normal ∧ (runB Try.prog E37 60 145 (lpb Try.f145 1) [0, 1, 5, 6, 7] [] (shN.put s).1 (shN.put s).2 = some r ∨
      ∃ s', runB Try.prog E37 60 145 (lpb Try.f145 1) [0, 1, 5, 6, 7] [] (shN.put s).1 (shN.put s).2 = some (.normal, shN.put s') ∧ pN s' = true ∧ mN s' < mN s ∧ (fN s').run = some r) := by
  intro s r hp hr
  unfold pN at hp; split at hp
  · rename_i f es l i x y res sum f2 es2 r0
    simp only [Bool.and_eq_true, decide_eq_true_eq, same_iff] at hp
    obtain ⟨⟨⟨h1, h2⟩, h3⟩, rfl, rfl, rfl⟩ := hp
    have hr' := run_br2 hr
    refine ⟨by rw [hr']; cases onS es x y i ((es.length : Int) - i).toNat <;> simp, ?_⟩
    rw [qN]
    have hw := W_id (n := i + 1) (by omega) (by omega)
    by_cases hi : i < (es.length : Int)
    · rw [decide_eq_true hi, cond_true, inr_of h1 hi, nz_of h1 hi, nxW_eq h1 hi h3, nx_inr h1 hi, hw]
      simp only [cond_true]
      obtain ⟨n, hn⟩ : ∃ n, ((es.length : Int) - i).toNat = n + 1 := ⟨((es.length : Int) - i).toNat - 1, by omega⟩
      rw [hn] at hr'
      simp only [onS, smS, smU] at hr'
      cases hE : onq es i (nx es i) x y with
      | true => rw [hE] at hr'; exact .inl (by rw [hr']; rfl)
      | false =>
        rw [hE] at hr'
        refine .inr ⟨lN f es (es.length : Int) (i + 1) x y res (W (sum + ryq es i (nx es i) x y)) f2 es (lrN .ready), rfl, by simp [pN, same_self]; omega, by simp only [mN]; omega, ?_⟩
        rw [hr']
        simp only [fN]
        rw [show ((es.length : Int) - (i + 1)).toNat = n by omega]
        simp only [Bool.false_or, cond_false]
        cases onS es x y (i + 1) n <;> rfl
    · rw [decide_eq_false hi]
      rw [show ((es.length : Int) - i).toNat = 0 by omega] at hr'
      exact .inl (by rw [hr']; rfl)
  · cases hp
noncomputable def E37c : EnvK := E37.addW 145 1 [0, 1, 5, 6, 7] [] shN pN fN
theorem ok37c : EnvOK Try.prog E37c.env :=
  ok37.addW (n := 60) Try.func145 (show Try.f145.body = some (bod Try.f145) by kernel_rfl) (show (loops (bod Try.f145)).filter (fun b => rid b == 1) = [lpb Try.f145 1] by kernel_rfl) [0, 1, 5, 6, 7] [] [] shN mN sN
noncomputable def pM : LS → Bool
  | ([.l f es, .i sum, .i i], [.i x, .i y]) => decide (0 ≤ i) && decide (i ≤ (es.length : Int)) && big es
  | _ => false
noncomputable def fM : LS → DT (PX × List PV × List Row)
  | ([.l f es, .i sum, .i i], [.i x, .i y]) => .br (onS es x y i ((es.length : Int) - i).toNat) (.leaf (.ret, tm 40 [(4, iv 0), (5, iv (smU es x y i ((es.length : Int) - i).toNat sum))], (shM.put ([.l f es, .i sum, .i i], [.i x, .i y])).2)) (.leaf (.exit 0, tm 40 [(5, iv (smS es x y i ((es.length : Int) - i).toNat sum))], (shM.put ([.l f es, .i sum, .i i], [.i x, .i y])).2))
  | _ => .no
def mM : LS → Nat
  | ([.l f es, .i sum, .i i], [.i x, .i y]) => ((es.length : Int) - i).toNat
  | _ => 0
theorem sM : ∀ s r, pM s = true → (fM s).run = some r → r.1 ≠ .normal ∧ (runB Try.prog E37 60 63 (lpb Try.f63 5) [0, 3, 5, 6] [4, 5] (shM.put s).1 (shM.put s).2 = some r ∨
      ∃ s', runB Try.prog E37 60 63 (lpb Try.f63 5) [0, 3, 5, 6] [4, 5] (shM.put s).1 (shM.put s).2 = some (.normal, shM.put s') ∧ pM s' = true ∧ mM s' < mM s ∧ (fM s').run = some r) := by
  intro s r hp hr
  unfold pM at hp; split at hp
  · rename_i f es sum i x y
    simp only [Bool.and_eq_true, decide_eq_true_eq, same_iff] at hp
    obtain ⟨⟨h1, h2⟩, h3⟩ := hp
    have hr' := run_br2 hr
    refine ⟨by rw [hr']; cases onS es x y i ((es.length : Int) - i).toNat <;> simp, ?_⟩
    rw [qM]
    have hw := W_id (n := i + 1) (by omega) (by omega)
    by_cases hi : i < (es.length : Int)
    · rw [decide_eq_true hi, cond_true, inr_of h1 hi, nz_of h1 hi, nxW_eq h1 hi h3, nx_inr h1 hi, hw]
      simp only [cond_true]
      obtain ⟨n, hn⟩ : ∃ n, ((es.length : Int) - i).toNat = n + 1 := ⟨((es.length : Int) - i).toNat - 1, by omega⟩
      rw [hn] at hr'
      simp only [onS, smS, smU] at hr'
      cases hE : onq es i (nx es i) x y with
      | true => rw [hE] at hr'; exact .inl (by rw [hr']; rfl)
      | false =>
        rw [hE] at hr'
        refine .inr ⟨([.l f es, .i (W (sum + ryq es i (nx es i) x y)), .i (i + 1)], [.i x, .i y]), rfl, by simp [pM, same_self]; omega, by simp only [mM]; omega, ?_⟩
        rw [hr']
        simp only [fM]
        rw [show ((es.length : Int) - (i + 1)).toNat = n by omega]
        simp only [Bool.false_or, cond_false]
        cases onS es x y (i + 1) n <;> rfl
    · rw [decide_eq_false hi]
      rw [show ((es.length : Int) - i).toNat = 0 by omega] at hr'
      exact .inl (by rw [hr']; rfl)
  · cases hp
noncomputable def E37d : EnvK := E37.addW 63 5 [0, 3, 5, 6] [] shM pM fM
theorem ok37d : EnvOK Try.prog E37d.env :=
  ok37.addW (n := 60) Try.func63 (show Try.f63.body = some (bod Try.f63) by kernel_rfl) (show (loops (bod Try.f63)).filter (fun b => rid b == 5) = [lpb Try.f63 5] by kernel_rfl) [0, 3, 5, 6] [4, 5] [] shM mM sM
def ar2 (es : List PV) : Int := arS es 0 es.length 0
noncomputable def arT (f : Bool) (es : List PV) : Option PV := bif pA (lA f es (es.length : Int) 0 0 f es (lrA .ready)) then some (iv (arS es 0 ((es.length : Int) - 0).toNat 0)) else none
theorem qArea (f : Bool) (es : List PV) : runP Try.prog E37a 60 60 [.lst f 23 es] = arT f es := by kernel_rfl
theorem qRArea (f : Bool) (es : List PV) : runP Try.prog E37b 60 61 [.lst f 23 es] = bif pB ([.l f es, .i 0, .i 0], []) then some (iv (arS es 0 ((es.length : Int) - 0).toNat 0)) else none := by kernel_rfl
theorem qArea' (f : Bool) (es : List PV) (h : big es = true) : runP Try.prog E37a 60 60 [.lst f 23 es] = some (iv (ar2 es)) := by
  rw [qArea]; unfold arT ar2
  rw [show pA (lA f es (es.length : Int) 0 0 f es (lrA .ready)) = true by simp [pA, same_self]; simpa using h, show ((es.length : Int) - 0).toNat = es.length by omega]; rfl
theorem qRArea' (f : Bool) (es : List PV) (h : big es = true) : runP Try.prog E37b 60 61 [.lst f 23 es] = some (iv (ar2 es)) := by
  rw [qRArea]; unfold ar2
  rw [show pB ([.l f es, .i 0, .i 0], []) = true by simp [pB]; simpa using h, show ((es.length : Int) - 0).toNat = es.length by omega]; rfl
def cArea : List PV → Option (DT PV) | [.lst _ 23 es] => some (.br (big es) (.leaf (iv (ar2 es))) .no) | _ => none
theorem eArea : Enters Try.prog 60 := (runP_sound ok37a (qArea' true [] rfl)).1
theorem eRArea : Enters Try.prog 61 := (runP_sound ok37b (qRArea' true [] rfl)).1
theorem oArea (args : List PV) (d : DT PV) (r : PV) (h : cArea args = some d) (hr : d.run = some r) : PCall Try.prog 60 args r := by
  unfold cArea at h; split at h
  · rename_i f es; cases h; obtain ⟨h1, rfl⟩ := run_br hr; exact (runP_sound ok37a (qArea' f es h1)).2
  · cases h
theorem oRArea (args : List PV) (d : DT PV) (r : PV) (h : cArea args = some d) (hr : d.run = some r) : PCall Try.prog 61 args r := by
  unfold cArea at h; split at h
  · rename_i f es; cases h; obtain ⟨h1, rfl⟩ := run_br hr; exact (runP_sound ok37b (qRArea' f es h1)).2
  · cases h
/-- P6.5. -/
def ins (es : List PV) (x y : Int) : Int := bif rchk es != 0 then -1 else bif onS es x y 0 es.length then 0 else bif smS es x y 0 es.length 0 == 0 then -1 else 1
noncomputable def insT (f : Bool) (es : List PV) (x y : Int) : Option PV := bif rchk es != 0 then some (iv (-1)) else bif pN (lN f es (es.length : Int) 0 x y 0 0 f es (lrN .ready)) then
    bif onS es x y 0 ((es.length : Int) - 0).toNat then some (iv 0) else bif smS es x y 0 ((es.length : Int) - 0).toNat 0 == 0 then some (iv (-1)) else some (iv 1) else none
theorem qIns (f : Bool) (es : List PV) (x y : Int) : runP Try.prog E37c 60 62 [.lst f 23 es, ptv x y] = insT f es x y := by kernel_rfl
theorem qRIns (f : Bool) (es : List PV) (x y : Int) : runP Try.prog E37d 60 63 [.lst f 23 es, ptv x y] = bif rchk es != 0 then some (iv (-1)) else bif pM ([.l f es, .i 0, .i 0], [.i x, .i y]) then
    bif onS es x y 0 ((es.length : Int) - 0).toNat then some (iv 0) else bif smS es x y 0 ((es.length : Int) - 0).toNat 0 == 0 then some (iv (-1)) else some (iv 1) else none := by kernel_rfl
theorem qIns' (f : Bool) (es : List PV) (x y : Int) (h : big es = true) : runP Try.prog E37c 60 62 [.lst f 23 es, ptv x y] = some (iv (ins es x y)) := by
  rw [qIns]; unfold insT ins
  rw [show pN (lN f es (es.length : Int) 0 x y 0 0 f es (lrN .ready)) = true by simp [pN, same_self]; simpa using h, show ((es.length : Int) - 0).toNat = es.length by omega]
  cases rchk es != 0 <;> cases onS es x y 0 es.length <;> cases smS es x y 0 es.length 0 == 0 <;> rfl
theorem qRIns' (f : Bool) (es : List PV) (x y : Int) (h : big es = true) : runP Try.prog E37d 60 63 [.lst f 23 es, ptv x y] = some (iv (ins es x y)) := by
  rw [qRIns]; unfold ins
  rw [show pM ([.l f es, .i 0, .i 0], [.i x, .i y]) = true by simp [pM]; simpa using h, show ((es.length : Int) - 0).toNat = es.length by omega]
  cases rchk es != 0 <;> cases onS es x y 0 es.length <;> cases smS es x y 0 es.length 0 == 0 <;> rfl
def cIns : List PV → Option (DT PV) | [.lst _ 23 es, .agg [.val (.int .i64 x), .val (.int .i64 y)]] => some (.br (big es) (.leaf (iv (ins es x y))) .no) | _ => none
theorem eIns : Enters Try.prog 62 := (runP_sound ok37c (qIns' true [] 0 0 rfl)).1
theorem eRIns : Enters Try.prog 63 := (runP_sound ok37d (qRIns' true [] 0 0 rfl)).1
theorem oIns (args : List PV) (d : DT PV) (r : PV) (h : cIns args = some d) (hr : d.run = some r) : PCall Try.prog 62 args r := by
  unfold cIns at h; split at h
  · rename_i f es x y; cases h; obtain ⟨h1, rfl⟩ := run_br hr; exact (runP_sound ok37c (qIns' f es x y h1)).2
  · cases h
theorem oRIns (args : List PV) (d : DT PV) (r : PV) (h : cIns args = some d) (hr : d.run = some r) : PCall Try.prog 63 args r := by
  unfold cIns at h; split at h
  · rename_i f es x y; cases h; obtain ⟨h1, rfl⟩ := run_br hr; exact (runP_sound ok37d (qRIns' f es x y h1)).2
  · cases h
noncomputable def E38 : EnvK := (((E36.addF 60 cArea).addF 61 cArea).addF 62 cIns).addF 63 cIns
theorem ok38 : EnvOK Try.prog E38.env := (((ok36.addF eArea oArea).addF eRArea oRArea).addF eIns oIns).addF eRIns oRIns
end Go.Hg
/- Geometry: numbers that are drawn from a list; made rings. -/
namespace Go.Hg
open Go.Hx Go.Proofs
/-- The number at a place. -/
def dv (es : List PV) (k : Nat) : Int := ((es.getD k .any).cellAt 0).getI
def dn (es : List PV) (k : Nat) (n : Int) : Int := if es.length ≤ k then 0 else dv es k % n
def da (es : List PV) (k : Nat) : Nat := if es.length ≤ k then k else k + 1
abbrev drw (f : Bool) (es : List PV) (k : Nat) : Row := r1 117 2 (.agg [.lst f 3 es, .val (.int .i64 (Int.ofNat k))])
/-- The number that is drawn; the first one as it is known. -/
def dnr (r : Int) (es : List PV) (k : Nat) (n : Int) : Int := bif decide (k = 0) then r else dn es k n
def ckc (r : Int) (es : List PV) (k : Nat) (n : Int) : Bool := decide (0 < n) && decide (n ≤ 4611686018427387904) && decide (k < 4611686018427387904) && decide (dnr r es k n = dn es k n)
def cNxt (r : Int) : List PV → List Row → Option (DT (PV × List Row))
  | [.ptr 0 1 0 0, .val (.int .i64 n)], [⟨[.agg [.lst f 3 es, .val (.int .i64 (.ofNat k))]], 2, 117, true, true, false, none⟩] =>
    some (.br (ckc r es k n) (.leaf (iv (dnr r es k n), [drw f es (da es k)])) .no)
  | _, _ => none
theorem qNxt (es : List PV) (k : Nat) (f : Bool) (n : Int) : runR Try.prog E38 60 0 101 [.ptr 0 1 0 0, iv n] [drw f es k] =
  bif decide (((k : Nat) : Int) ≥ ((es.length : Nat) : Int)) then some (iv 0, [drw f es k])
  else bif decide (0 ≤ W (W ((k : Int) + 1) - 1)) && decide (W (W ((k : Int) + 1) - 1) < ((es.length : Nat) : Int)) then
    bif decide (0 < n) && decide (n ≤ 4611686018427387904) then some (iv (dv es (W (W ((k : Int) + 1) - 1)).toNat % n), [r1 117 2 (.agg [.lst f 3 es, iv (W ((k : Int) + 1))])]) else none
  else none := by kernel_rfl
theorem eNxt : Enters Try.prog 101 := (runR_sound ok38 (n := 60) (ro := 0) (args := [.ptr 0 1 0 0, iv 1]) (H := [drw true [] 0]) (p := iv 0) (H' := [drw true [] 0]) (by kernel_rfl)).1
theorem oNxt (r : Int) (args : List PV) (H : List Row) (d : DT (PV × List Row)) (p : PV) (H' : List Row) (h : cNxt r args H = some d) (hd : d.run = some (p, H')) : RCall Try.prog 0 101 args H p H' := by
  unfold cNxt at h; split at h
  · rename_i n f es k
    cases h
    obtain ⟨hc, he⟩ := run_br hd
    cases he
    unfold ckc at hc
    simp only [Bool.and_eq_true, decide_eq_true_eq] at hc
    obtain ⟨⟨⟨h1, h2⟩, h3⟩, h4⟩ := hc
    refine (runR_sound ok38 (n := 60) ?_).2
    rw [qNxt, h4]
    have hw : W (W ((k : Int) + 1) - 1) = k := by rw [W_id (n := (k : Int) + 1) (by omega) (by omega), W_id (by omega) (by omega)]; omega
    have hw1 : W ((k : Int) + 1) = Int.ofNat (k + 1) := by rw [W_id (by omega) (by omega)]; rfl
    unfold dn da
    rcases Nat.lt_or_ge k es.length with hk | hk
    · have g1 : decide (((k : Nat) : Int) ≥ ((es.length : Nat) : Int)) = false := by simp; omega
      have g2 : (decide (0 ≤ (k : Int)) && decide ((k : Int) < ((es.length : Nat) : Int))) = true := by simp; omega
      rw [g1, hw, g2, hw1, if_neg (by omega), if_neg (by omega)]
      simp only [h1, h2, decide_true, Bool.and_true, cond_true, cond_false, Int.toNat_natCast]
    · have g1 : decide (((k : Nat) : Int) ≥ ((es.length : Nat) : Int)) = true := by simp; omega
      rw [g1, if_pos hk, if_pos hk]; rfl
  · cases h
noncomputable def EM (r : Int) : EnvK := E38.addR 101 (cNxt r)
theorem okM (r : Int) : EnvOK Try.prog (EM r).env := ok38.addR eNxt (oNxt r)
def pos (es : List PV) : Nat → Nat | 0 => 0 | j + 1 => da es (pos es j)
theorem pos_le (es : List PV) : ∀ j, pos es j ≤ j
  | 0 => Nat.le_refl _
  | j + 1 => by simp only [pos, da]; have := pos_le es j; split <;> omega
theorem dn_ge (es : List PV) (k : Nat) {n : Int} (h : 0 < n) : 0 ≤ dn es k n := by unfold dn; split; exact Int.le_refl _; exact Int.emod_nonneg _ (by omega)
theorem dn_lt (es : List PV) (k : Nat) {n : Int} (h : 0 < n) : dn es k n < n := by unfold dn; split; exact h; exact Int.emod_lt_of_pos _ h
/-- The j-th number that is drawn. -/
def dr (es : List PV) (j : Nat) (n : Int) : Int := dn es (pos es j) n
theorem da_pos {es : List PV} (h : 0 < es.length) (k : Nat) : da es k ≠ 0 := by unfold da; split <;> omega
theorem pos_zero {es : List PV} (h : 0 < es.length) (j : Nat) : pos es (j + 1) ≠ 0 := da_pos h _
theorem dnr_eq {r : Int} {es : List PV} (h : dr es 0 4 = r) (j : Nat) {n : Int} (hn : j = 0 → n = 4) : dnr r es (pos es j) n = dr es j n := by
  unfold dnr dr
  by_cases h0 : pos es j = 0
  · rw [decide_eq_true h0, cond_true, ← h]
    cases j with
    | zero => rw [hn rfl]; rfl
    | succ j =>
      have : es.length = 0 := by
        rcases Nat.eq_zero_or_pos es.length with g | g
        · exact g
        · exact absurd h0 (pos_zero g j)
      unfold dr dn; rw [if_pos (by omega), if_pos (by omega)]
  · rw [decide_eq_false h0]; rfl
theorem ckc_of {r : Int} {es : List PV} (h : dr es 0 4 = r) (j : Nat) {n : Int} (hn : j = 0 → n = 4) (h0 : 0 < n) (h1 : n ≤ 4611686018427387904) (hj : j < 1000) : ckc r es (pos es j) n = true := by
  unfold ckc
  have := pos_le es j
  simp only [Bool.and_eq_true, decide_eq_true_eq]
  exact ⟨⟨⟨h0, h1⟩, by omega⟩, dnr_eq h j hn⟩
/-- The columns of a made ring: where it is, the lower point, the upper one. -/
def mxF (g : Nat → Int → Int) : Nat → Int
  | 0 => W (g 2 8 - 4)
  | k + 1 => W (W (mxF g k + 1) + g (5 + 3 * k) 4)
def myF (g : Nat → Int → Int) (k : Nat) : Int := W (g (3 + 3 * k) 9 - 4)
def mhF (g : Nat → Int → Int) (k : Nat) : Int := W (W (myF g k + 1) + g (4 + 3 * k) 7)
def tp (t x y : Int) : PV := ptv (trx x y t) (tryy x y t)
def mdF (g : Nat → Int → Int) (n : Nat) : List PV := ((List.range n).map fun k => tp (g 1 4) (mxF g k) (myF g k)) ++ ((List.range n).reverse.map fun k => tp (g 1 4) (mxF g k) (mhF g k))
def gr (r : Int) (es : List PV) (j : Nat) (n : Int) : Int := dnr r es (pos es j) n
def ck (r : Int) (es : List PV) (j : Nat) (n : Int) (t : Option PV) : Option PV := bif ckc r es (pos es j) n then t else none
/-- The points of a made ring. -/
def madeL (es : List PV) : List PV := mdF (dr es) (2 + (dr es 0 4).toNat)

theorem qMade0 (f : Bool) (es : List PV) : runP Try.prog (EM 0) 100 55 [.lst f 3 es] = ck 0 es 0 4 (ck 0 es 1 4 (ck 0 es 2 8 (ck 0 es 3 9 (ck 0 es 4 7 (ck 0 es 5 4 (ck 0 es 6 9 (ck 0 es 7 7 (ck 0 es 8 4 (some (.lst false 23 (mdF (gr 0 es) 2))))))))))) := by kernel_rfl
theorem qMade1 (f : Bool) (es : List PV) : runP Try.prog (EM 1) 100 55 [.lst f 3 es] = ck 1 es 0 4 (ck 1 es 1 4 (ck 1 es 2 8 (ck 1 es 3 9 (ck 1 es 4 7 (ck 1 es 5 4 (ck 1 es 6 9 (ck 1 es 7 7 (ck 1 es 8 4 (ck 1 es 9 9 (ck 1 es 10 7 (ck 1 es 11 4 (some (.lst false 23 (mdF (gr 1 es) 3)))))))))))))) := by kernel_rfl
theorem qMade2 (f : Bool) (es : List PV) : runP Try.prog (EM 2) 100 55 [.lst f 3 es] = ck 2 es 0 4 (ck 2 es 1 4 (ck 2 es 2 8 (ck 2 es 3 9 (ck 2 es 4 7 (ck 2 es 5 4 (ck 2 es 6 9 (ck 2 es 7 7 (ck 2 es 8 4 (ck 2 es 9 9 (ck 2 es 10 7 (ck 2 es 11 4 (ck 2 es 12 9 (ck 2 es 13 7 (ck 2 es 14 4 (some (.lst false 23 (mdF (gr 2 es) 4))))))))))))))))) := by kernel_rfl
theorem qMade3 (f : Bool) (es : List PV) : runP Try.prog (EM 3) 100 55 [.lst f 3 es] = ck 3 es 0 4 (ck 3 es 1 4 (ck 3 es 2 8 (ck 3 es 3 9 (ck 3 es 4 7 (ck 3 es 5 4 (ck 3 es 6 9 (ck 3 es 7 7 (ck 3 es 8 4 (ck 3 es 9 9 (ck 3 es 10 7 (ck 3 es 11 4 (ck 3 es 12 9 (ck 3 es 13 7 (ck 3 es 14 4 (ck 3 es 15 9 (ck 3 es 16 7 (ck 3 es 17 4 (some (.lst false 23 (mdF (gr 3 es) 5)))))))))))))))))))) := by kernel_rfl
theorem mdF_congr {g h : Nat → Int → Int} (e : ∀ j n, (j = 0 → n = 4) → g j n = h j n) (n : Nat) : mdF g n = mdF h n := by
  have hx : ∀ k, mxF g k = mxF h k := fun k => by
    induction k with
    | zero => simp only [mxF]; rw [e 2 8 (by omega)]
    | succ k ih => simp only [mxF]; rw [ih, e _ 4 (by omega)]
  have hy : ∀ k, myF g k = myF h k := fun k => by unfold myF; rw [e _ 9 (by omega)]
  have hh : ∀ k, mhF g k = mhF h k := fun k => by unfold mhF; rw [hy, e _ 7 (by omega)]
  unfold mdF
  rw [e 1 4 (by omega)]
  simp only [hx, hy, hh]
theorem madeT_eq {r : Int} {es : List PV} (h : dr es 0 4 = r) (n : Nat) (hn : 2 + r.toNat = n) : mdF (gr r es) n = madeL es := by
  unfold madeL
  rw [h, hn]
  exact mdF_congr (fun j m hj => dnr_eq h j hj) n
theorem ck_of {r : Int} {es : List PV} (h : dr es 0 4 = r) (j : Nat) (n : Int) (t : Option PV) (hn : j = 0 → n = 4) (h0 : 0 < n) (h1 : n ≤ 1000) (hj : j < 1000) : ck r es j n t = t := by
  unfold ck; rw [ckc_of h j hn h0 (by omega) hj]; rfl
def cMade : List PV → Option PV | [.lst _ 3 es] => some (.lst false 23 (madeL es)) | _ => none
theorem oMade (args : List PV) (r : PV) (h : cMade args = some r) : Enters Try.prog 55 ∧ PCall Try.prog 55 args r := by
  unfold cMade at h; split at h
  · rename_i f es
    cases h
    have h1 := dn_ge es (pos es 0) (n := 4) (by omega)
    have h2 := dn_lt es (pos es 0) (n := 4) (by omega)
    have h4 : dr es 0 4 = 0 ∨ dr es 0 4 = 1 ∨ dr es 0 4 = 2 ∨ dr es 0 4 = 3 := by unfold dr; omega
    rcases h4 with h | h | h | h
    · exact runP_sound (okM 0) (n := 100) (by rw [qMade0, ck_of h 0 4 _ (by omega) (by omega) (by omega) (by omega), ck_of h 1 4 _ (by omega) (by omega) (by omega) (by omega), ck_of h 2 8 _ (by omega) (by omega) (by omega) (by omega), ck_of h 3 9 _ (by omega) (by omega) (by omega) (by omega), ck_of h 4 7 _ (by omega) (by omega) (by omega) (by omega), ck_of h 5 4 _ (by omega) (by omega) (by omega) (by omega), ck_of h 6 9 _ (by omega) (by omega) (by omega) (by omega), ck_of h 7 7 _ (by omega) (by omega) (by omega) (by omega), ck_of h 8 4 _ (by omega) (by omega) (by omega) (by omega), madeT_eq h 2 (by rfl)])
    · exact runP_sound (okM 1) (n := 100) (by rw [qMade1, ck_of h 0 4 _ (by omega) (by omega) (by omega) (by omega), ck_of h 1 4 _ (by omega) (by omega) (by omega) (by omega), ck_of h 2 8 _ (by omega) (by omega) (by omega) (by omega), ck_of h 3 9 _ (by omega) (by omega) (by omega) (by omega), ck_of h 4 7 _ (by omega) (by omega) (by omega) (by omega), ck_of h 5 4 _ (by omega) (by omega) (by omega) (by omega), ck_of h 6 9 _ (by omega) (by omega) (by omega) (by omega), ck_of h 7 7 _ (by omega) (by omega) (by omega) (by omega), ck_of h 8 4 _ (by omega) (by omega) (by omega) (by omega), ck_of h 9 9 _ (by omega) (by omega) (by omega) (by omega), ck_of h 10 7 _ (by omega) (by omega) (by omega) (by omega), ck_of h 11 4 _ (by omega) (by omega) (by omega) (by omega), madeT_eq h 3 (by rfl)])
    · exact runP_sound (okM 2) (n := 100) (by rw [qMade2, ck_of h 0 4 _ (by omega) (by omega) (by omega) (by omega), ck_of h 1 4 _ (by omega) (by omega) (by omega) (by omega), ck_of h 2 8 _ (by omega) (by omega) (by omega) (by omega), ck_of h 3 9 _ (by omega) (by omega) (by omega) (by omega), ck_of h 4 7 _ (by omega) (by omega) (by omega) (by omega), ck_of h 5 4 _ (by omega) (by omega) (by omega) (by omega), ck_of h 6 9 _ (by omega) (by omega) (by omega) (by omega), ck_of h 7 7 _ (by omega) (by omega) (by omega) (by omega), ck_of h 8 4 _ (by omega) (by omega) (by omega) (by omega), ck_of h 9 9 _ (by omega) (by omega) (by omega) (by omega), ck_of h 10 7 _ (by omega) (by omega) (by omega) (by omega), ck_of h 11 4 _ (by omega) (by omega) (by omega) (by omega), ck_of h 12 9 _ (by omega) (by omega) (by omega) (by omega), ck_of h 13 7 _ (by omega) (by omega) (by omega) (by omega), ck_of h 14 4 _ (by omega) (by omega) (by omega) (by omega), madeT_eq h 4 (by rfl)])
    · exact runP_sound (okM 3) (n := 100) (by rw [qMade3, ck_of h 0 4 _ (by omega) (by omega) (by omega) (by omega), ck_of h 1 4 _ (by omega) (by omega) (by omega) (by omega), ck_of h 2 8 _ (by omega) (by omega) (by omega) (by omega), ck_of h 3 9 _ (by omega) (by omega) (by omega) (by omega), ck_of h 4 7 _ (by omega) (by omega) (by omega) (by omega), ck_of h 5 4 _ (by omega) (by omega) (by omega) (by omega), ck_of h 6 9 _ (by omega) (by omega) (by omega) (by omega), ck_of h 7 7 _ (by omega) (by omega) (by omega) (by omega), ck_of h 8 4 _ (by omega) (by omega) (by omega) (by omega), ck_of h 9 9 _ (by omega) (by omega) (by omega) (by omega), ck_of h 10 7 _ (by omega) (by omega) (by omega) (by omega), ck_of h 11 4 _ (by omega) (by omega) (by omega) (by omega), ck_of h 12 9 _ (by omega) (by omega) (by omega) (by omega), ck_of h 13 7 _ (by omega) (by omega) (by omega) (by omega), ck_of h 14 4 _ (by omega) (by omega) (by omega) (by omega), ck_of h 15 9 _ (by omega) (by omega) (by omega) (by omega), ck_of h 16 7 _ (by omega) (by omega) (by omega) (by omega), ck_of h 17 4 _ (by omega) (by omega) (by omega) (by omega), madeT_eq h 5 (by rfl)])
  · cases h
noncomputable def E39 : EnvK := E38.addO 55 cMade
theorem ok39 : EnvOK Try.prog E39.env := ok38.addO oMade
theorem madeL_len (es : List PV) : 4 ≤ (madeL es).length ∧ (madeL es).length ≤ 10 := by
  have h1 := dn_ge es (pos es 0) (n := 4) (by omega)
  have h2 := dn_lt es (pos es 0) (n := 4) (by omega)
  unfold madeL mdF dr
  simp only [List.length_append, List.length_map, List.length_range, List.length_reverse]
  omega
end Go.Hg
/- Geometry: plain laws: a ray's sum and turns. -/
namespace Go.Hg
open Go.Hx Go.Proofs
/-- A ray by numbers seen from the point. -/
def rayN (a b c d : Int) : Int := if b ≤ 0 ∧ 0 < d ∧ a * d - b * c < 0 then 1 else if d ≤ 0 ∧ 0 < b ∧ 0 < a * d - b * c then -1 else 0
def phi (a b : Int) : Int := if a ≤ 0 ∧ 0 < b then 1 else 0
def offN (a b c d : Int) : Prop := ¬ ((a ≤ 0 ∧ 0 ≤ c ∨ c ≤ 0 ∧ 0 ≤ a) ∧ (b ≤ 0 ∧ 0 ≤ d ∨ d ≤ 0 ∧ 0 ≤ b) ∧ a * d - b * c = 0)
theorem mnn {u v : Int} (h : u ≤ 0) (k : v ≤ 0) : 0 ≤ u * v := Int.mul_nonneg_of_nonpos_of_nonpos h k
theorem mnp {u v : Int} (h : u ≤ 0) (k : 0 < v) : u * v ≤ 0 := Int.mul_nonpos_of_nonpos_of_nonneg h (by omega)
theorem mpn {u v : Int} (h : 0 < u) (k : v ≤ 0) : u * v ≤ 0 := Int.mul_nonpos_of_nonneg_of_nonpos (by omega) k
theorem mnp0 {u v : Int} (k : 0 < v) (e : u * v = 0) : u = 0 := by rcases Int.mul_eq_zero.1 e with g | g <;> omega
theorem mpn0 {u v : Int} (k : 0 < u) (e : u * v = 0) : v = 0 := by rcases Int.mul_eq_zero.1 e with g | g <;> omega
theorem rayN_rot {a b c d : Int} (h : offN a b c d) : rayN (-b) a (-d) c = rayN a b c d + phi a b - phi c d := by
  unfold offN at h
  unfold rayN phi
  have e : -b * c - a * -d = a * d - b * c := by rw [Int.neg_mul, Int.mul_neg]; omega
  rw [e]
  by_cases hA : a ≤ 0 <;> by_cases hC : c ≤ 0 <;> by_cases hB : b ≤ 0 <;> by_cases hD : d ≤ 0 <;> simp only [hA, hB, hC, hD, Int.not_le, true_and, false_and, if_false, if_true, Int.not_lt, and_true, and_false, ite_self]
  · simp [show ¬ 0 < c by omega, show ¬ 0 < a by omega, show ¬ 0 < b by omega, show ¬ 0 < d by omega]
  · have p := mnp hA (show 0 < d by omega)
    have q := mnn hB hC
    have z := mnp0 (u := a) (v := d) (by omega)
    have : a * d - b * c < 0 := by
      rcases Int.lt_or_le (a * d - b * c) 0 with g | g
      · exact g
      · exact absurd ⟨.inr ⟨hC, by have := z (by omega); omega⟩, .inl ⟨hB, by omega⟩, by omega⟩ h
    simp [show ¬ 0 < c by omega, show ¬ 0 < a by omega, show ¬ 0 < b by omega, show 0 < d by omega, this]
  · have p := mnn hA hD
    have q := mpn (show 0 < b by omega) hC
    have z := mpn0 (u := b) (v := c) (by omega)
    have : 0 < a * d - b * c := by
      rcases Int.lt_or_le 0 (a * d - b * c) with g | g
      · exact g
      · exact absurd ⟨.inl ⟨hA, by have := z (by omega); omega⟩, .inr ⟨hD, by omega⟩, by omega⟩ h
    simp [show ¬ 0 < c by omega, show ¬ 0 < a by omega, show 0 < b by omega, show ¬ 0 < d by omega, show b * c < a * d by omega]
  · simp [show ¬ 0 < c by omega, show ¬ 0 < a by omega, show 0 < b by omega, show 0 < d by omega]
  · have p := mnn hA hD
    have q : b * c ≤ 0 := mnp hB (by omega)
    simp [show 0 < c by omega, show ¬ 0 < a by omega, show ¬ 0 < b by omega, show ¬ 0 < d by omega, show ¬ a * d - b * c < 0 by omega]
  · simp [show 0 < c by omega, show ¬ 0 < a by omega, show ¬ 0 < b by omega, show 0 < d by omega]
  · have hx : a * d - b * c ≠ 0 := fun g => h ⟨.inl ⟨hA, by omega⟩, .inr ⟨hD, by omega⟩, g⟩
    simp only [show 0 < c by omega, show ¬ 0 < a by omega, show 0 < b by omega, show ¬ 0 < d by omega, true_and, false_and, if_false, if_true]
    (repeat' split) <;> omega
  · have p := mnp hA (show 0 < d by omega)
    have q := Int.mul_pos (show 0 < b by omega) (show 0 < c by omega)
    simp [show 0 < c by omega, show ¬ 0 < a by omega, show 0 < b by omega, show 0 < d by omega, show a * d - b * c < 0 by omega]
  · have p := mpn (show 0 < a by omega) hD
    have q := mnn hB hC
    simp [show ¬ 0 < c by omega, show 0 < a by omega, show ¬ 0 < b by omega, show ¬ 0 < d by omega, show ¬ 0 < a * d - b * c by omega]; omega
  · have hx : a * d - b * c ≠ 0 := fun g => h ⟨.inr ⟨hC, by omega⟩, .inl ⟨hB, by omega⟩, g⟩
    simp only [show ¬ 0 < c by omega, show 0 < a by omega, show ¬ 0 < b by omega, show 0 < d by omega, true_and, false_and, if_false, if_true]
    (repeat' split) <;> omega
  · simp [show ¬ 0 < c by omega, show 0 < a by omega, show 0 < b by omega, show ¬ 0 < d by omega]
  · have p := Int.mul_pos (show 0 < a by omega) (show 0 < d by omega)
    have q := mpn (show 0 < b by omega) hC
    simp [show ¬ 0 < c by omega, show 0 < a by omega, show 0 < b by omega, show 0 < d by omega, show 0 < a * d - b * c by omega]; omega
  · simp [show 0 < c by omega, show 0 < a by omega, show ¬ 0 < b by omega, show ¬ 0 < d by omega]
  · have p := Int.mul_pos (show 0 < a by omega) (show 0 < d by omega)
    have q : b * c ≤ 0 := mnp hB (by omega)
    simp [show 0 < c by omega, show 0 < a by omega, show ¬ 0 < b by omega, show 0 < d by omega, show ¬ a * d - b * c < 0 by omega]
  · have p := mpn (show 0 < a by omega) hD
    have q := Int.mul_pos (show 0 < b by omega) (show 0 < c by omega)
    simp [show 0 < c by omega, show 0 < a by omega, show 0 < b by omega, show ¬ 0 < d by omega, show ¬ 0 < a * d - b * c by omega]; omega
  · simp [show 0 < c by omega, show 0 < a by omega, show 0 < b by omega, show 0 < d by omega]
end Go.Hg
/- Geometry: plain laws: turned and moved rings. -/
namespace Go.Hg
open Go.Hx Go.Proofs
abbrev sm5 (x y : Int) : Prop := (-5000 ≤ x ∧ x ≤ 5000) ∧ (-5000 ≤ y ∧ y ≤ 5000)
theorem sm5_bd {x y : Int} (h : sm5 x y) : bd x y := by unfold bd; omega
theorem ray_eqN {a b c d e f : Int} (h1 : sm5 a b) (h2 : sm5 c d) (h3 : sm5 e f) : ray a b c d e f = rayN (a - e) (b - f) (c - e) (d - f) := by
  unfold ray rayV rayN
  rw [sd_of (sm5_bd h1) (sm5_bd h2) (sm5_bd h3), sd_of (sm5_bd h2) (sm5_bd h1) (sm5_bd h3)]
  have e1 : crs a b c d e f = (a - e) * (d - f) - (b - f) * (c - e) := by unfold crs; grind
  have e2 : crs c d a b e f = -crs a b c d e f := by unfold crs; grind
  rw [e2, e1]
  generalize (a - e) * (d - f) - (b - f) * (c - e) = k
  have s1 : sgn k < 0 ↔ k < 0 := by unfold sgn; (repeat' split) <;> omega
  have s2 : sgn (-k) < 0 ↔ 0 < k := by unfold sgn; (repeat' split) <;> omega
  by_cases p : b > f <;> by_cases q : d > f <;> by_cases r : k < 0 <;> by_cases t : 0 < k <;>
    simp [p, q, r, t, s1, s2] <;> omega
theorem off_of {a b c d e f : Int} (h1 : sm5 a b) (h2 : sm5 c d) (h3 : sm5 e f) (h : onX a b c d e f = false) : offN (a - e) (b - f) (c - e) (d - f) := by
  rw [on_of (sm5_bd h1) (sm5_bd h2) (sm5_bd h3)] at h
  unfold offN
  rintro ⟨g1, g2, g3⟩
  have e1 : crs a b c d e f = 0 := by unfold crs; grind
  rw [e1, show (sgn 0 == 0) = true from rfl, Bool.and_true] at h
  have : bx a b c d e f = true := by unfold bx; rw [Bool.and_eq_true, btwn_iff, btwn_iff]; omega
  rw [this] at h; cases h
theorem rot_q1 {a b c d e f : Int} (h1 : sm5 a b) (h2 : sm5 c d) (h3 : sm5 e f) (h : onX a b c d e f = false) :
    ray (0 - b) a (0 - d) c (0 - f) e = ray a b c d e f + phi (a - e) (b - f) - phi (c - e) (d - f) := by
  rw [ray_eqN h1 h2 h3, ray_eqN (by omega) (by omega) (by omega)]
  have := rayN_rot (off_of h1 h2 h3 h)
  rw [show 0 - b - (0 - f) = -(b - f) by omega, show 0 - d - (0 - f) = -(d - f) by omega]
  exact this
/-- Quarters of a turn. -/
def qtx (t x y : Int) : Int := if t = 0 then x else if t = 1 then 0 - y else if t = 2 then 0 - x else y
def qty (t x y : Int) : Int := if t = 0 then y else if t = 1 then x else if t = 2 then 0 - y else 0 - x
theorem qt_sm {t x y : Int} (h : sm5 x y) : sm5 (qtx t x y) (qty t x y) := by
  unfold qtx qty
  by_cases h0 : t = 0
  · rw [if_pos h0, if_pos h0]; exact h
  · rw [if_neg h0, if_neg h0]
    by_cases h1 : t = 1
    · rw [if_pos h1, if_pos h1]; omega
    · rw [if_neg h1, if_neg h1]
      by_cases h2 : t = 2
      · rw [if_pos h2, if_pos h2]; omega
      · rw [if_neg h2, if_neg h2]; omega
theorem qt_keeps (t : Int) : Keeps (fun x y => qtx t x y) (fun x y => qty t x y) := by
  unfold qtx qty
  by_cases h0 : t = 0
  · simp only [h0, if_true]; exact keeps_id
  · simp only [if_neg h0]
    by_cases h1 : t = 1
    · simp only [h1, if_true]; exact keeps_q1
    · simp only [if_neg h1]
      by_cases h2 : t = 2
      · simp only [h2, if_true]; exact keeps_q2
      · simp only [if_neg h2]; exact keeps_q3
theorem rot_t (t : Int) {e f : Int} (h3 : sm5 e f) : ∃ g : Int → Int → Int, ∀ a b c d, sm5 a b → sm5 c d → onX a b c d e f = false →
    ray (qtx t a b) (qty t a b) (qtx t c d) (qty t c d) (qtx t e f) (qty t e f) = ray a b c d e f + g a b - g c d := by
  have on1 : ∀ {a b c d e f : Int}, sm5 a b → sm5 c d → sm5 e f → onX a b c d e f = false → onX (0 - b) a (0 - d) c (0 - f) e = false := fun {a b c d e f} k1 k2 k3 k => by
    have := keeps_q1.on (a := a) (b := b) (c := c) (d := d) (e := e) (f := f) (sm5_bd k1) (sm5_bd k2) (sm5_bd k3) (sm5_bd (by omega)) (sm5_bd (by omega)) (sm5_bd (by omega))
    rw [this]; exact k
  unfold qtx qty
  by_cases h0 : t = 0
  · simp only [h0, if_true]; exact ⟨fun _ _ => 0, fun a b c d _ _ _ => by dsimp only; omega⟩
  · simp only [if_neg h0]
    by_cases h1 : t = 1
    · simp only [h1, if_true]; exact ⟨fun x y => phi (x - e) (y - f), fun a b c d k1 k2 k => rot_q1 k1 k2 h3 k⟩
    · simp only [if_neg h1]
      have two : ∀ a b c d, sm5 a b → sm5 c d → onX a b c d e f = false → ray (0 - a) (0 - b) (0 - c) (0 - d) (0 - e) (0 - f) = ray a b c d e f + (phi (a - e) (b - f) + phi (0 - b - (0 - f)) (a - e)) - (phi (c - e) (d - f) + phi (0 - d - (0 - f)) (c - e)) := fun a b c d k1 k2 k => by
        have r1 := rot_q1 k1 k2 h3 k
        have r2 := rot_q1 (a := 0 - b) (b := a) (c := 0 - d) (d := c) (e := 0 - f) (f := e) (by omega) (by omega) (by omega) (on1 k1 k2 h3 k)
        omega
      by_cases h2 : t = 2
      · simp only [h2, if_true]; exact ⟨fun x y => phi (x - e) (y - f) + phi (0 - y - (0 - f)) (x - e), two⟩
      · simp only [if_neg h2]
        refine ⟨fun x y => (phi (x - e) (y - f) + phi (0 - y - (0 - f)) (x - e)) + phi (0 - x - (0 - e)) (0 - y - (0 - f)), fun a b c d k1 k2 k => ?_⟩
        have r1 := two a b c d k1 k2 k
        have k4 := on1 (a := 0 - b) (b := a) (c := 0 - d) (d := c) (e := 0 - f) (f := e) (by omega) (by omega) (by omega) (on1 k1 k2 h3 k)
        have r2 := rot_q1 (a := 0 - a) (b := 0 - b) (c := 0 - c) (d := 0 - d) (e := 0 - e) (f := 0 - f) (by omega) (by omega) (by omega) k4
        rw [show 0 - (0 - b) = b by omega, show 0 - (0 - d) = d by omega, show 0 - (0 - f) = f by omega] at r2
        dsimp only
        omega
theorem ray_shift (a b c d e f u v : Int) (h1 : sm5 a b) (h2 : sm5 c d) (h3 : sm5 e f) (k1 : sm5 (a + u) (b + v)) (k2 : sm5 (c + u) (d + v)) (k3 : sm5 (e + u) (f + v)) :
    ray (a + u) (b + v) (c + u) (d + v) (e + u) (f + v) = ray a b c d e f := by
  rw [ray_eqN h1 h2 h3, ray_eqN k1 k2 k3]
  rw [show a + u - (e + u) = a - e by omega, show b + v - (f + v) = b - f by omega, show c + u - (e + u) = c - e by omega, show d + v - (f + v) = d - f by omega]
/-- The sum of the rays from i on. -/
def rs (es : List PV) (x y i : Int) : Nat → Int
  | 0 => 0
  | n + 1 => ryq es i (nx es i) x y + rs es x y (i + 1) n
theorem ryq_range (es : List PV) (i j x y : Int) : -1 ≤ ryq es i j x y ∧ ryq es i j x y ≤ 1 := by
  unfold ryq ray rayV
  cases decide (qY es i > y) <;> cases decide (qY es j > y) <;> cases decide (sd (qX es i) (qY es i) (qX es j) (qY es j) x y < 0) <;> cases decide (sd (qX es j) (qY es j) (qX es i) (qY es i) x y < 0) <;> decide
theorem smS_rs (es : List PV) (x y : Int) : ∀ (n : Nat) (i acc : Int), -1000000 ≤ acc - n ∧ acc + n ≤ 1000000 → smS es x y i n acc = acc + rs es x y i n
  | 0, i, acc, _ => by simp [smS, rs]
  | n + 1, i, acc, h => by
    have := ryq_range es i (nx es i) x y
    simp only [smS, rs]
    rw [W_id (by omega) (by omega), smS_rs es x y n (i + 1) _ (by omega)]
    omega
theorem nx_last {es : List PV} {i : Int} (h : i + 1 = (es.length : Int)) (h0 : 0 ≤ i) : nx es i = 0 := by unfold nx; rw [h]; exact Int.tmod_self
theorem nx_next {es : List PV} {i : Int} (h : i + 1 < (es.length : Int)) (h0 : 0 ≤ i) : nx es i = i + 1 := by unfold nx; exact Int.tmod_eq_of_lt (by omega) h
theorem rs_rot {A B : List PV} {x y x' y' : Int} (g : Int → Int) (hstep : ∀ i, 0 ≤ i → i < (A.length : Int) → onq A i (nx A i) x y = false → ryq B i (nx B i) x' y' = ryq A i (nx A i) x y + g i - g (nx A i)) :
    ∀ (n : Nat) (i : Int), 0 ≤ i → i + (n + 1 : Nat) = (A.length : Int) → onS A x y i (n + 1) = false → rs B x' y' i (n + 1) = rs A x y i (n + 1) + g i - g 0
  | 0, i, h0, h1, h2 => by
    simp only [onS, Bool.or_false] at h2
    simp only [rs]
    rw [hstep i h0 (by omega) h2, nx_last (by omega) h0]; omega
  | n + 1, i, h0, h1, h2 => by
    have h2' : onq A i (nx A i) x y = false ∧ onS A x y (i + 1) (n + 1) = false := by
      rw [onS, Bool.or_eq_false_iff] at h2; exact h2
    have := rs_rot g hstep n (i + 1) (by omega) (by omega) h2'.2
    show ryq B i (nx B i) x' y' + rs B x' y' (i + 1) (n + 1) = ryq A i (nx A i) x y + rs A x y (i + 1) (n + 1) + g i - g 0
    rw [this, hstep i h0 (by omega) h2'.1, nx_next (by omega) h0]; omega
/-- A list of the images of another's points. -/
structure Img (A B : List PV) (X Y : Int → Int → Int) : Prop where
  len : B.length = A.length
  x : ∀ i, 0 ≤ i → i < (A.length : Int) → qX B i = X (qX A i) (qY A i)
  y : ∀ i, 0 ≤ i → i < (A.length : Int) → qY B i = Y (qX A i) (qY A i)
theorem eqq_iff {es : List PV} {i j : Int} : eqq es i j = true ↔ qX es i = qX es j ∧ qY es i = qY es j := by unfold eqq; simp
section
variable {A B : List PV} {X Y : Int → Int → Int} (hK : Keeps X Y) (hI : Img A B X Y) (hA : ∀ i, 0 ≤ i → i < (A.length : Int) → bd (qX A i) (qY A i)) (hB : ∀ i, 0 ≤ i → i < (A.length : Int) → bd (qX B i) (qY B i))
include hK hI
theorem img_eqq {i j : Int} (h0 : 0 ≤ i) (h1 : i < (A.length : Int)) (h2 : 0 ≤ j) (h3 : j < (A.length : Int)) : eqq B i j = eqq A i j := by
  rw [Bool.eq_iff_iff, eqq_iff, eqq_iff, hI.x i h0 h1, hI.x j h2 h3, hI.y i h0 h1, hI.y j h2 h3]
  have := hK.eq (qX A i) (qY A i) (qX A j) (qY A j)
  unfold eqP at this
  exact decide_eq_decide.1 this
theorem img_cls : cls B = cls A := by
  unfold cls
  rw [hI.len]
  by_cases h : (A.length : Int) ≥ 4
  · have := img_eqq hK hI (i := 0) (j := (A.length : Int) - 1) (by omega) (by omega) (by omega) (by omega)
    unfold eqq at this
    rw [this]
  · rw [decide_eq_false h]; rfl
include hA hB
theorem img_mq {i k : Int} (h0 : 0 ≤ i) (h1 : i + 1 < (A.length : Int)) (h2 : 0 ≤ k) (h3 : k + 1 < (A.length : Int)) : mq B k i = mq A k i := by
  unfold mq
  have b1 := hB k h2 (by omega); have b2 := hB (k + 1) (by omega) h3; have b3 := hB i h0 (by omega); have b4 := hB (i + 1) (by omega) h1
  rw [hI.x k h2 (by omega), hI.y k h2 (by omega)] at b1 ⊢
  rw [hI.x (k + 1) (by omega) h3, hI.y (k + 1) (by omega) h3] at b2 ⊢
  rw [hI.x i h0 (by omega), hI.y i h0 (by omega)] at b3 ⊢
  rw [hI.x (i + 1) (by omega) h1, hI.y (i + 1) (by omega) h1] at b4 ⊢
  exact hK.mt (hA k h2 (by omega)) (hA (k + 1) (by omega) h3) (hA i h0 (by omega)) (hA (i + 1) (by omega) h1) b1 b2 b3 b4
theorem img_allP {la i : Int} (h0 : 0 ≤ i) (h1 : i + 1 < (A.length : Int)) : ∀ (n : Nat) (k : Int), 0 ≤ k → k + n ≤ i → allP B la i k n = allP A la i k n
  | 0, k, _, _ => rfl
  | n + 1, k, h2, h3 => by
    simp only [allP]
    rw [img_allP h0 h1 n (k + 1) (by omega) (by omega), img_mq hK hI hA hB h0 h1 h2 (by omega)]
    unfold want
    rw [img_cls hK hI]
theorem img_allI {la : Int} : ∀ (n : Nat) (i : Int), 0 ≤ i → i + n + 1 ≤ (A.length : Int) → allI B la i n = allI A la i n
  | 0, i, _, _ => rfl
  | n + 1, i, h0, h1 => by
    simp only [allI]
    rw [img_allI n (i + 1) (by omega) (by omega), img_eqq hK hI h0 (by omega) (by omega) (by omega), img_allP hK hI hA hB h0 (by omega) i.toNat 0 (by omega) (by omega)]
theorem img_chk (fA : fin A = true) (fB : fin B = true) : chk B = chk A := by
  unfold chk
  rw [fA, fB, hI.len]
  by_cases h : (A.length : Int) < 2
  · rw [decide_eq_true h]; rfl
  · rw [img_allI hK hI hA hB (A.length - 1) 0 (by omega) (by omega)]
end
end Go.Hg
/- Geometry: Within, both. -/
namespace Go.Hg
open Go.Hx Go.Proofs
def dt (a b c d : Int) : Int := W (W (a * c) + W (b * d))
def crW4 (a b c d : Int) : Int := W (W (a * d) - W (b * c))
def nearT {α : Type} (a b c d x y n : Int) (k : Bool → α) : α :=
  bif decide (dt (W (x - a)) (W (y - b)) (W (c - a)) (W (d - b)) ≤ 0) then k (decide (W (4 * dt (W (x - a)) (W (y - b)) (W (x - a)) (W (y - b))) ≤ n))
  else bif decide (dt (W (x - a)) (W (y - b)) (W (c - a)) (W (d - b)) ≥ dt (W (c - a)) (W (d - b)) (W (c - a)) (W (d - b))) then k (decide (W (4 * dt (W (x - c)) (W (y - d)) (W (x - c)) (W (y - d))) ≤ n))
  else k (decide (sg2 (W (4 * crW4 (W (c - a)) (W (d - b)) (W (x - a)) (W (y - b)))) (crW4 (W (c - a)) (W (d - b)) (W (x - a)) (W (y - b))) n (dt (W (c - a)) (W (d - b)) (W (c - a)) (W (d - b))) ≤ 0))
def nearB (a b c d x y n : Int) : Bool := nearT a b c d x y n id
theorem nearT_eq {α : Type} (a b c d x y n : Int) (k : Bool → α) : nearT a b c d x y n k = k (nearB a b c d x y n) := by
  unfold nearB nearT
  cases decide (dt (W (x - a)) (W (y - b)) (W (c - a)) (W (d - b)) ≤ 0) <;> cases decide (dt (W (x - a)) (W (y - b)) (W (c - a)) (W (d - b)) ≥ dt (W (c - a)) (W (d - b)) (W (c - a)) (W (d - b))) <;> rfl
theorem qNear (a b c d x y n : Int) : runP Try.prog E39 60 121 [ptv a b, ptv c d, ptv x y, iv n] = nearT a b c d x y n (fun v => some (bv v)) := by kernel_rfl
def cNear : List PV → Option PV
  | [.agg [.val (.int .i64 a), .val (.int .i64 b)], .agg [.val (.int .i64 c), .val (.int .i64 d)], .agg [.val (.int .i64 x), .val (.int .i64 y)], .val (.int .i64 n)] => some (bv (nearB a b c d x y n))
  | _ => none
theorem oNear (args : List PV) (r : PV) (h : cNear args = some r) : Enters Try.prog 121 ∧ PCall Try.prog 121 args r := by
  unfold cNear at h; split at h
  · rename_i a b c d x y n; cases h; exact runP_sound ok39 ((qNear a b c d x y n).trans (nearT_eq a b c d x y n _))
  · cases h
noncomputable def E40 : EnvK := (E39.addO 121 cNear).addV 71 4 [4, 5, 6, 25]
theorem ok40 : EnvOK Try.prog E40.env := (ok39.addO oNear).addV 71 4 [4, 5, 6, 25]
def nrq (es : List PV) (i x y n : Int) : Bool := nearB (qX es i) (qY es i) (qX es (i + 1)) (qY es (i + 1)) x y n
/-- Some segment from i on is near. -/
def nrA (es : List PV) (x y n i : Int) : Nat → Bool
  | 0 => false
  | m + 1 => nrq es i x y n || nrA es x y n (i + 1) m
noncomputable def lrT (st : LSt) : Row := lrow 71 Try.f71 4 (tm 78 [(4, .ptr 0 1 0 0), (5, .ptr 1 1 0 0), (6, .ptr 2 1 0 0), (25, sgf 4)]) st
def shT : S1 := ⟨25, [(0, .yld 5), (1, .ptr 4 1 0 0), (3, I64)], [.one 23 2 (.agg [I64, I64]), .one 3 1 I64, .one 4 1 .bool, .many 23 2, .one 53 1 (.lst 23), .raw]⟩
abbrev lT (i x y n : Int) (res : Bool) (nl : Bool) (es3 : List PV) (f : Bool) (es : List PV) (r : Row) : LS := ([.i i], [.i x, .i y, .i n, .b res, .l nl es3, .l f es, .r r])
noncomputable abbrev hT (x y n : Int) (res : Bool) (nl : Bool) (es3 : List PV) (f : Bool) (es : List PV) (r : Row) : List Row := (shT.put (lT 0 x y n res nl es3 f es r)).2
theorem qT (i x y n : Int) (res : Bool) (nl : Bool) (es3 : List PV) (f : Bool) (es : List PV) : runB Try.prog E40 60 152 (lpb Try.f152 1) [0, 1, 3] [] (shT.put (lT i x y n res nl es3 f es (lrT .ready))).1 (shT.put (lT i x y n res nl es3 f es (lrT .ready))).2 =
  bif decide (W (i + 1) < (es.length : Int)) then bif inr es i then bif inr es (W (i + 1)) then
    nearT (qX es i) (qY es i) (qX es (W (i + 1))) (qY es (W (i + 1))) x y n (fun v => bif v then some (.ret, tm 25 [], hT x y n true nl es3 f es (lrT (.done .ret))) else some (.normal, shT.put (lT (W (i + 1)) x y n res nl es3 f es (lrT .ready))))
  else none else none else some (.exit 0, tm 25 [], hT x y n res nl es3 f es (lrT .ready)) := by kernel_rfl
def shU : S1 := ⟨37, [(0, .lst 23), (2, I64), (4, .ptr 0 1 0 0), (8, I64)], [.one 23 2 (.agg [I64, I64])]⟩
theorem qU (f : Bool) (es : List PV) (n i x y : Int) : runB Try.prog E40 60 72 (lpb Try.f72 5) [0, 2, 4, 8] [6] (shU.put ([.l f es, .i n, .i i], [.i x, .i y])).1 (shU.put ([.l f es, .i n, .i i], [.i x, .i y])).2 =
  bif decide (W (i + 1) < (es.length : Int)) then bif inr es i then bif inr es (W (i + 1)) then
    bif nearB (qX es i) (qY es i) (qX es (W (i + 1))) (qY es (W (i + 1))) x y n then some (.ret, tm 37 [(6, bv true)], (shU.put ([.l f es, .i n, .i i], [.i x, .i y])).2) else some (.normal, shU.put ([.l f es, .i n, .i (W (i + 1))], [.i x, .i y]))
  else none else none else some (.exit 0, tm 37 [], (shU.put ([.l f es, .i n, .i i], [.i x, .i y])).2) := by kernel_rfl
end Go.Hg
/- Geometry: contracts: Within, both. -/
namespace Go.Hg
open Go.Hx Go.Proofs
noncomputable def pT : LS → Bool
  | ([.i i], [.i x, .i y, .i n, .b res, .l nl es3, .l f es, .r r]) => decide (0 ≤ i) && decide (i ≤ (es.length : Int)) && big es && same r (lrT .ready)
  | _ => false
noncomputable def fT : LS → DT (PX × List PV × List Row)
  | ([.i i], [.i x, .i y, .i n, .b res, .l nl es3, .l f es, .r r]) => .br (nrA es x y n i ((es.length : Int) - (i + 1)).toNat) (.leaf (.ret, tm 25 [], hT x y n true nl es3 f es (lrT (.done .ret)))) (.leaf (.exit 0, tm 25 [], hT x y n res nl es3 f es r))
  | _ => .no
def mT : LS → Nat
  | ([.i i], [.i x, .i y, .i n, .b res, .l nl es3, .l f es, .r r]) => ((es.length : Int) - (i + 1)).toNat
  | _ => 0
theorem sT : ∀ s r, pT s = true → (fT s).run = some r → r.1 ≠ .normal ∧ (runB Try.prog E40 60 152 (lpb Try.f152 1) [0, 1, 3] [] (shT.put s).1 (shT.put s).2 = some r ∨
      ∃ s', runB Try.prog E40 60 152 (lpb Try.f152 1) [0, 1, 3] [] (shT.put s).1 (shT.put s).2 = some (.normal, shT.put s') ∧ pT s' = true ∧ mT s' < mT s ∧ (fT s').run = some r) := by
  intro s r hp hr
  unfold pT at hp; split at hp
  · rename_i i x y n res nl es3 f es r0
    simp only [Bool.and_eq_true, decide_eq_true_eq, same_iff] at hp
    obtain ⟨⟨⟨h1, h2⟩, h3⟩, rfl⟩ := hp
    have hr' := run_br2 hr
    refine ⟨by rw [hr']; cases nrA es x y n i ((es.length : Int) - (i + 1)).toNat <;> simp, ?_⟩
    rw [qT]
    have hw := W_id (n := i + 1) (by omega) (by omega)
    rw [hw]
    by_cases hi : i + 1 < (es.length : Int)
    · rw [decide_eq_true hi, cond_true, inr_of h1 (by omega), inr_of (by omega) hi]
      simp only [cond_true, nearT_eq]
      obtain ⟨m, hm⟩ : ∃ m, ((es.length : Int) - (i + 1)).toNat = m + 1 := ⟨((es.length : Int) - (i + 1)).toNat - 1, by omega⟩
      rw [hm] at hr'
      simp only [nrA, nrq] at hr'
      cases hE : nearB (qX es i) (qY es i) (qX es (i + 1)) (qY es (i + 1)) x y n with
      | true =>
        rw [hE] at hr'
        exact .inl (by rw [hr']; rfl)
      | false =>
        rw [hE] at hr'
        refine .inr ⟨lT (i + 1) x y n res nl es3 f es (lrT .ready), rfl, by simp [pT, same_self]; omega, by simp only [mT]; omega, ?_⟩
        rw [hr']
        simp only [fT]
        rw [show ((es.length : Int) - (i + 1 + 1)).toNat = m by omega]
        simp only [Bool.false_or]
        cases nrA es x y n (i + 1) m <;> rfl
    · rw [decide_eq_false hi]
      rw [show ((es.length : Int) - (i + 1)).toNat = 0 by omega] at hr'
      exact .inl (by rw [hr']; rfl)
  · cases hp
noncomputable def E40a : EnvK := E40.addW 152 1 [0, 1, 3] [] shT pT fT
theorem ok40a : EnvOK Try.prog E40a.env :=
  ok40.addW (n := 60) Try.func152 (show Try.f152.body = some (bod Try.f152) by kernel_rfl) (show (loops (bod Try.f152)).filter (fun b => rid b == 1) = [lpb Try.f152 1] by kernel_rfl) [0, 1, 3] [] [] shT mT sT
noncomputable def pU : LS → Bool
  | ([.l f es, .i n, .i i], [.i x, .i y]) => decide (0 ≤ i) && decide (i ≤ (es.length : Int)) && big es
  | _ => false
noncomputable def fU : LS → DT (PX × List PV × List Row)
  | ([.l f es, .i n, .i i], [.i x, .i y]) => .br (nrA es x y n i ((es.length : Int) - (i + 1)).toNat) (.leaf (.ret, tm 37 [(6, bv true)], (shU.put ([.l f es, .i n, .i i], [.i x, .i y])).2)) (.leaf (.exit 0, tm 37 [], (shU.put ([.l f es, .i n, .i i], [.i x, .i y])).2))
  | _ => .no
def mU : LS → Nat
  | ([.l f es, .i n, .i i], [.i x, .i y]) => ((es.length : Int) - (i + 1)).toNat
  | _ => 0
theorem sU : ∀ s r, pU s = true → (fU s).run = some r → r.1 ≠ .normal ∧ (runB Try.prog E40 60 72 (lpb Try.f72 5) [0, 2, 4, 8] [6] (shU.put s).1 (shU.put s).2 = some r ∨
      ∃ s', runB Try.prog E40 60 72 (lpb Try.f72 5) [0, 2, 4, 8] [6] (shU.put s).1 (shU.put s).2 = some (.normal, shU.put s') ∧ pU s' = true ∧ mU s' < mU s ∧ (fU s').run = some r) := by
  intro s r hp hr
  unfold pU at hp; split at hp
  · rename_i f es n i x y
    simp only [Bool.and_eq_true, decide_eq_true_eq, same_iff] at hp
    obtain ⟨⟨h1, h2⟩, h3⟩ := hp
    have hr' := run_br2 hr
    refine ⟨by rw [hr']; cases nrA es x y n i ((es.length : Int) - (i + 1)).toNat <;> simp, ?_⟩
    rw [qU]
    have hw := W_id (n := i + 1) (by omega) (by omega)
    rw [hw]
    by_cases hi : i + 1 < (es.length : Int)
    · rw [decide_eq_true hi, cond_true, inr_of h1 (by omega), inr_of (by omega) hi]
      simp only [cond_true]
      obtain ⟨m, hm⟩ : ∃ m, ((es.length : Int) - (i + 1)).toNat = m + 1 := ⟨((es.length : Int) - (i + 1)).toNat - 1, by omega⟩
      rw [hm] at hr'
      simp only [nrA, nrq] at hr'
      cases hE : nearB (qX es i) (qY es i) (qX es (i + 1)) (qY es (i + 1)) x y n with
      | true =>
        rw [hE] at hr'
        exact .inl (by rw [hr']; rfl)
      | false =>
        rw [hE] at hr'
        refine .inr ⟨([.l f es, .i n, .i (i + 1)], [.i x, .i y]), rfl, by simp [pU, same_self]; omega, by simp only [mU]; omega, ?_⟩
        rw [hr']
        simp only [fU]
        rw [show ((es.length : Int) - (i + 1 + 1)).toNat = m by omega]
        simp only [Bool.false_or]
        cases nrA es x y n (i + 1) m <;> rfl
    · rw [decide_eq_false hi]
      rw [show ((es.length : Int) - (i + 1)).toNat = 0 by omega] at hr'
      exact .inl (by rw [hr']; rfl)
  · cases hp
noncomputable def E40b : EnvK := E40.addW 72 5 [0, 2, 4, 8] [] shU pU fU
theorem ok40b : EnvOK Try.prog E40b.env :=
  ok40.addW (n := 60) Try.func72 (show Try.f72.body = some (bod Try.f72) by kernel_rfl) (show (loops (bod Try.f72)).filter (fun b => rid b == 5) = [lpb Try.f72 5] by kernel_rfl) [0, 2, 4, 8] [6] [] shU mU sU
/-- P5.3. -/
def wit (es : List PV) (x y n : Int) : Bool := fin es && right x y && nrA es x y n 0 (es.length - 1)
noncomputable def witT (f : Bool) (es : List PV) (x y n : Int) : Option PV := bif pT (lT 0 x y n false false [ptv x y] f es (lrT .ready)) then bif nrA es x y n 0 ((es.length : Int) - (0 + 1)).toNat then some (bv true) else some (bv false) else none
theorem fin_one (x y : Int) : fin [ptv x y] = right x y := by
  show (right x y && true) = right x y; simp
theorem qWit (f : Bool) (es : List PV) (x y n : Int) : runP Try.prog E40a 60 71 [.lst f 23 es, ptv x y, iv n] =
  bif big es then bif !fin es then some (bv false) else bif !fin [ptv x y] then some (bv false) else witT f es x y n else none := by kernel_rfl
theorem qRWit (f : Bool) (es : List PV) (x y n : Int) : runP Try.prog E40b 60 72 [.lst f 23 es, ptv x y, iv n] =
  bif !right x y then some (bv false) else bif big es then bif !fin es then some (bv false) else bif pU ([.l f es, .i n, .i 0], [.i x, .i y]) then bif nrA es x y n 0 ((es.length : Int) - (0 + 1)).toNat then some (bv true) else some (bv false) else none else none := by kernel_rfl
theorem qWit' (f : Bool) (es : List PV) (x y n : Int) (h : big es = true) : runP Try.prog E40a 60 71 [.lst f 23 es, ptv x y, iv n] = some (bv (wit es x y n)) := by
  have h' : es.length ≤ 1000000 := by simpa using h
  rw [qWit, h, fin_one]; unfold witT wit
  rw [show pT (lT 0 x y n false false [ptv x y] f es (lrT .ready)) = true by simp [pT, same_self]; omega, show ((es.length : Int) - (0 + 1)).toNat = es.length - 1 by omega]
  cases fin es <;> cases right x y <;> cases nrA es x y n 0 (es.length - 1) <;> rfl
theorem qRWit' (f : Bool) (es : List PV) (x y n : Int) (h : big es = true) : runP Try.prog E40b 60 72 [.lst f 23 es, ptv x y, iv n] = some (bv (wit es x y n)) := by
  have h' : es.length ≤ 1000000 := by simpa using h
  rw [qRWit, h]; unfold wit
  rw [show pU ([.l f es, .i n, .i 0], [.i x, .i y]) = true by simp [pU]; omega, show ((es.length : Int) - (0 + 1)).toNat = es.length - 1 by omega]
  cases fin es <;> cases right x y <;> cases nrA es x y n 0 (es.length - 1) <;> rfl
def cWit : List PV → Option (DT PV) | [.lst _ 23 es, .agg [.val (.int .i64 x), .val (.int .i64 y)], .val (.int .i64 n)] => some (.br (big es) (.leaf (bv (wit es x y n))) .no) | _ => none
theorem eWit : Enters Try.prog 71 := (runP_sound ok40a (qWit' true [] 0 0 0 rfl)).1
theorem eRWit : Enters Try.prog 72 := (runP_sound ok40b (qRWit' true [] 0 0 0 rfl)).1
theorem oWit (args : List PV) (d : DT PV) (r : PV) (h : cWit args = some d) (hr : d.run = some r) : PCall Try.prog 71 args r := by
  unfold cWit at h; split at h
  · rename_i f es x y n; cases h; obtain ⟨h1, rfl⟩ := run_br hr; exact (runP_sound ok40a (qWit' f es x y n h1)).2
  · cases h
theorem oRWit (args : List PV) (d : DT PV) (r : PV) (h : cWit args = some d) (hr : d.run = some r) : PCall Try.prog 72 args r := by
  unfold cWit at h; split at h
  · rename_i f es x y n; cases h; obtain ⟨h1, rfl⟩ := run_br hr; exact (runP_sound ok40b (qRWit' f es x y n h1)).2
  · cases h
noncomputable def E41 : EnvK := (E39.addF 71 cWit).addF 72 cWit
theorem ok41 : EnvOK Try.prog E41.env := (ok39.addF eWit oWit).addF eRWit oRWit
end Go.Hg
/- Geometry: made lists of points. -/
namespace Go.Hg
open Go.Hx Go.Proofs
/-- The number at a place, the place being any number. -/
def dI (es : List PV) (a n : Int) : Int := if (es.length : Int) ≤ a then 0 else dv es a.toNat % n
def aI (es : List PV) (a : Int) : Int := if (es.length : Int) ≤ a then a else a + 1
abbrev drI (f : Bool) (es : List PV) (a : Int) : Row := r1 117 2 (.agg [.lst f 3 es, iv a])
def okA (a n : Int) : Bool := decide (0 ≤ a) && decide (a < 4611686018427387904) && decide (0 < n) && decide (n ≤ 4611686018427387904)
def cNxI : List PV → List Row → Option (DT (PV × List Row))
  | [.ptr 0 1 0 0, .val (.int .i64 n)], [⟨[.agg [.lst f 3 es, .val (.int .i64 a)]], 2, 117, true, true, false, none⟩] =>
    some (.br (okA a n) (.leaf (iv (dI es a n), [drI f es (aI es a)])) .no)
  | _, _ => none
theorem qNxI (es : List PV) (a : Int) (f : Bool) (n : Int) : runR Try.prog E38 60 0 101 [.ptr 0 1 0 0, iv n] [drI f es a] =
  bif decide (a ≥ ((es.length : Nat) : Int)) then some (iv 0, [drI f es a])
  else bif decide (0 ≤ W (W (a + 1) - 1)) && decide (W (W (a + 1) - 1) < ((es.length : Nat) : Int)) then
    bif decide (0 < n) && decide (n ≤ 4611686018427387904) then some (iv (dv es (W (W (a + 1) - 1)).toNat % n), [drI f es (W (a + 1))]) else none
  else none := by kernel_rfl
theorem oNxI (args : List PV) (H : List Row) (d : DT (PV × List Row)) (p : PV) (H' : List Row) (h : cNxI args H = some d) (hd : d.run = some (p, H')) : RCall Try.prog 0 101 args H p H' := by
  unfold cNxI at h; split at h
  · rename_i n f es a
    cases h
    obtain ⟨hc, he⟩ := run_br hd
    cases he
    unfold okA at hc
    simp only [Bool.and_eq_true, decide_eq_true_eq] at hc
    obtain ⟨⟨⟨h0, h3⟩, h1⟩, h2⟩ := hc
    refine (runR_sound ok38 (n := 60) ?_).2
    rw [qNxI]
    have hw1 : W (a + 1) = a + 1 := W_id (by omega) (by omega)
    have hw : W (W (a + 1) - 1) = a := by rw [hw1, W_id (by omega) (by omega)]; omega
    unfold dI aI
    by_cases hk : (es.length : Int) ≤ a
    · have g1 : decide (a ≥ ((es.length : Nat) : Int)) = true := by simp; omega
      rw [g1, if_pos hk, if_pos hk]; rfl
    · have g1 : decide (a ≥ ((es.length : Nat) : Int)) = false := by simp; omega
      have g2 : (decide (0 ≤ a) && decide (a < ((es.length : Nat) : Int))) = true := by simp; omega
      rw [g1, hw, g2, hw1, if_neg (by omega), if_neg (by omega)]
      simp only [h1, h2, decide_true, Bool.and_true, cond_true, cond_false]
  · cases h
noncomputable def E42 : EnvK := (E41.addR 101 cNxI).addN 69 6 [(5, 23, 2)]
theorem ok42 : EnvOK Try.prog E42.env := (ok41.addR eNxt oNxI).addN 69 6 [(5, 23, 2)]
def shG : S1 := ⟨64, [(3, .ptr 0 1 0 0), (4, I64), (5, .sl 2), (6, .ptr 1 1 0 0), (7, I64)], [.one 117 2 (.agg [.lst 3, I64]), .one 23 2 (.agg [I64, I64]), .many 23 2]⟩
abbrev lG (many : Int) (n l : Nat) (k : Int) (f : Bool) (L : List PV) (a x y : Int) (nl : Bool) (es : List PV) : LS := ([.i many, .n n, .n l, .i k], [.l f L, .i a, .i x, .i y, .l nl es])
noncomputable abbrev hG (f : Bool) (L : List PV) (a x y : Int) (nl : Bool) (es : List PV) : List Row := (shG.put (lG 0 0 0 0 f L a x y nl es)).2
def room (es : List PV) (n l : Nat) : Bool := decide (es.length = n) && decide (n = l) && decide ((n + 1) * 16 ≤ 140737488355328)
theorem qG (many : Int) (n l : Nat) (k : Int) (f : Bool) (L : List PV) (a x y : Int) (nl : Bool) (es : List PV) : runB Try.prog E42 60 69 (lpb Try.f69 6) [3, 4, 5, 6, 7] [3, 4, 5] (shG.put (lG many n l k f L a x y nl es)).1 (shG.put (lG many n l k f L a x y nl es)).2 =
  bif decide (k < many) then bif room es n l then bif okA a 2 then bif dI L a 2 == 0 then
    bif okA (aI L a) 12 then some (.normal, shG.put (lG many (n + 1) (n + 1) (W (k + 1)) f L (aI L (aI L a)) (Int.tmod (W (W (x + 1) + dI L (aI L a) 12)) 13) y (nl && false) (es ++ [ptv x y]))) else none
  else bif okA (aI L a) 13 then bif okA (aI L (aI L a)) 12 then some (.normal, shG.put (lG many (n + 1) (n + 1) (W (k + 1)) f L (aI L (aI L (aI L a))) (dI L (aI L a) 13) (Int.tmod (W (W (y + 1) + dI L (aI L (aI L a)) 12)) 13) (nl && false) (es ++ [ptv x y]))) else none else none
  else none else none else some (.exit 0, tm 64 [(3, .ptr 0 1 0 0), (4, iv many), (5, .sl 2 n 0 l)], hG f L a x y nl es) := by kernel_rfl
end Go.Hg
/- Geometry: RingMoves: its loop. -/
namespace Go.Hg
open Go.Hx Go.Proofs
def rX (es : List PV) (i : Int) : Int := ((es.getD (0 + i.toNat) .any).cellAt 0).getI
def rY (es : List PV) (i : Int) : Int := ((es.getD (0 + i.toNat) .any).cellAt 1).getI
theorem rX_eq (es : List PV) (i : Int) : rX es i = qX es i := by unfold rX qX; rw [Nat.zero_add]
theorem rY_eq (es : List PV) (i : Int) : rY es i = qY es i := by unfold rY qY; rw [Nat.zero_add]
noncomputable def E50 : EnvK := E39.addN 14 9 [(11, 23, 2)]
theorem ok50 : EnvOK Try.prog E50.env := ok39.addN 14 9 [(11, 23, 2)]
def shM6 : S1 := ⟨96, [(5, .ptr 0 1 0 0), (6, .ptr 1 1 0 0), (7, .ptr 2 1 0 0), (9, .bool), (10, .sl 3), (11, .sl 4), (53, .sl 3), (54, I64), (55, I64)],
  [.one 80 5 (.agg [.bool, .int .u8, I64, I64, .int .u8]), .one 23 2 (.agg [I64, I64]), .one 23 2 (.agg [I64, I64]), .many 23 2, .many 23 2]⟩
structure M6 where
  u : Bool
  n1 : Nat
  l1 : Nat
  n3 : Nat
  l3 : Nat
  len : Int
  mv : Bool
  wh : Int
  cx : Int
  cy : Int
  tn : Int
  bx : Int
  by_ : Int
  px : Int
  py : Int
  nl : Bool
  es : List PV
abbrev lM6 (s : M6) (n2 l2 : Nat) (j : Int) (nl2 : Bool) (out : List PV) : LS := ([.b s.u, .n s.n1, .n s.l1, .n n2, .n l2, .n s.n3, .n s.l3, .i s.len, .i j], [.b s.mv, .i s.wh, .i s.cx, .i s.cy, .i s.tn, .i s.bx, .i s.by_, .i s.px, .i s.py, .l s.nl s.es, .l nl2 out])
noncomputable abbrev xM6 (s : M6) (n2 l2 : Nat) (nl2 : Bool) (out : List PV) : PX × List PV × List Row := (.exit 0, tm 96 [(5, .ptr 0 1 0 0), (6, .ptr 1 1 0 0), (7, .ptr 2 1 0 0), (9, bv s.u), (10, .sl 3 s.n1 0 s.l1), (11, .sl 4 n2 0 l2)], (shM6.put (lM6 s n2 l2 0 nl2 out)).2)
def mvE (x y t u v : Int) : PV := ptv (W (trx x y t + u)) (W (tryy x y t + v))
theorem qM6 (u : Bool) (n1 l1 n2 l2 n3 l3 : Nat) (len j : Int) (mv : Bool) (wh cx cy tn bx by_ px py : Int) (nl nl2 : Bool) (es out : List PV) :
  runB Try.prog E50 60 14 (lpb Try.f14 9) [5, 6, 7, 9, 10, 11, 53, 54, 55] [5, 6, 7, 9, 10, 11] (shM6.put (lM6 ⟨u, n1, l1, n3, l3, len, mv, wh, cx, cy, tn, bx, by_, px, py, nl, es⟩ n2 l2 j nl2 out)).1 (shM6.put (lM6 ⟨u, n1, l1, n3, l3, len, mv, wh, cx, cy, tn, bx, by_, px, py, nl, es⟩ n2 l2 j nl2 out)).2 =
  bif decide (j < len) then bif (es.length == n3) && true then bif decide (0 ≤ j) && decide (j < (l3 : Int)) then bif es.length == n3 then
    bif room out n2 l2 then some (.normal, shM6.put (lM6 ⟨u, n1, l1, n3, l3, len, mv, wh, cx, cy, tn, bx, by_, px, py, nl, es⟩ (n2 + 1) (n2 + 1) (W (j + 1)) (nl2 && false) (out ++ [mvE (rX es j) (rY es j) (Int.tmod (W tn) 4) bx by_]))) else none
  else none else none else none
  else some (xM6 ⟨u, n1, l1, n3, l3, len, mv, wh, cx, cy, tn, bx, by_, px, py, nl, es⟩ n2 l2 nl2 out) := by kernel_rfl
end Go.Hg
/- Geometry: RingMoves: the moved ring. -/
namespace Go.Hg
open Go.Hx Go.Proofs
/-- The points from j on, turned and moved. -/
def mvL (es : List PV) (t u v : Int) (j : Int) : Nat → List PV
  | 0 => []
  | m + 1 => mvE (qX es j) (qY es j) t u v :: mvL es t u v (j + 1) m
theorem mvL_len (es : List PV) (t u v : Int) : ∀ (m : Nat) (j : Int), (mvL es t u v j m).length = m
  | 0, _ => rfl
  | m + 1, j => by simp [mvL, mvL_len es t u v m (j + 1)]
theorem mvL_get (es : List PV) (t u v : Int) : ∀ (m : Nat) (j : Int) (i : Nat), i < m → (mvL es t u v j m).getD i .any = mvE (qX es (j + i)) (qY es (j + i)) t u v
  | 0, _, _, h => by omega
  | m + 1, j, 0, _ => by simp [mvL]
  | m + 1, j, i + 1, h => by
    simp only [mvL, List.getD_cons_succ]
    rw [mvL_get es t u v m (j + 1) i (by omega), show j + 1 + (i : Int) = j + ((i + 1 : Nat) : Int) by omega]
def pM6 : LS → Bool
  | ([.b _, .n _, .n _, .n n2, .n l2, .n n3, .n l3, .i len, .i j], [.b _, .i _, .i _, .i _, .i _, .i _, .i _, .i _, .i _, .l _ es, .l _ out]) =>
    decide (0 ≤ j) && decide (j ≤ len) && decide (len = (es.length : Int)) && decide (n3 = es.length) && decide (l3 = es.length) && decide (n2 = out.length) && decide (l2 = out.length) && decide ((out.length : Int) ≤ j) && decide (es.length ≤ 1000)
  | _ => false
noncomputable def fM6 : LS → DT (PX × List PV × List Row)
  | ([.b u, .n n1, .n l1, .n n2, .n _, .n n3, .n l3, .i len, .i j], [.b mv, .i wh, .i cx, .i cy, .i tn, .i bx, .i by_, .i px, .i py, .l nl es, .l nl2 out]) =>
    .leaf (xM6 ⟨u, n1, l1, n3, l3, len, mv, wh, cx, cy, tn, bx, by_, px, py, nl, es⟩ (n2 + (len - j).toNat) (n2 + (len - j).toNat) (nl2 && decide ((len - j).toNat = 0)) (out ++ mvL es (Int.tmod (W tn) 4) bx by_ j (len - j).toNat))
  | _ => .no
def mM6 : LS → Nat
  | ([.b _, .n _, .n _, .n _, .n _, .n _, .n _, .i len, .i j], [.b _, .i _, .i _, .i _, .i _, .i _, .i _, .i _, .i _, .l _ _, .l _ _]) => (len - j).toNat
  | _ => 0
theorem sM6 : ∀ s r, pM6 s = true → (fM6 s).run = some r → r.1 ≠ .normal ∧ (runB Try.prog E50 60 14 (lpb Try.f14 9) [5, 6, 7, 9, 10, 11, 53, 54, 55] [5, 6, 7, 9, 10, 11] (shM6.put s).1 (shM6.put s).2 = some r ∨
      ∃ s', runB Try.prog E50 60 14 (lpb Try.f14 9) [5, 6, 7, 9, 10, 11, 53, 54, 55] [5, 6, 7, 9, 10, 11] (shM6.put s).1 (shM6.put s).2 = some (.normal, shM6.put s') ∧ pM6 s' = true ∧ mM6 s' < mM6 s ∧ (fM6 s').run = some r) := by
  intro s r hp hr
  unfold pM6 at hp; split at hp
  · rename_i u n1 l1 n2 l2 n3 l3 len j mv wh cx cy tn bx by_ px py nl es nl2 out
    simp only [Bool.and_eq_true, decide_eq_true_eq] at hp
    obtain ⟨⟨⟨⟨⟨⟨⟨⟨h1, h2⟩, h3⟩, h4⟩, h5⟩, h6⟩, h7⟩, h8⟩, h9⟩ := hp
    have hr' := (Option.some.inj hr).symm
    refine ⟨by rw [hr']; simp, ?_⟩
    subst h3 h4 h5 h6 h7
    rw [show shM6.put ([.b u, .n n1, .n l1, .n out.length, .n out.length, .n es.length, .n es.length, .i (es.length : Int), .i j], [.b mv, .i wh, .i cx, .i cy, .i tn, .i bx, .i by_, .i px, .i py, .l nl es, .l nl2 out]) =
      shM6.put (lM6 ⟨u, n1, l1, es.length, es.length, (es.length : Int), mv, wh, cx, cy, tn, bx, by_, px, py, nl, es⟩ out.length out.length j nl2 out) from rfl, qM6]
    by_cases hi : j < (es.length : Int)
    · have hw := W_id (n := j + 1) (by omega) (by omega)
      have hroom : room out out.length out.length = true := by unfold room; simp; omega
      rw [decide_eq_true hi, cond_true, hroom, hw, rX_eq, rY_eq, show ((es.length == es.length) && true) = true by simp, show (es.length == es.length) = true by simp, show (decide (0 ≤ j) && true) = true by simp; omega]
      simp only [cond_true, Bool.and_false]
      obtain ⟨m, hm⟩ : ∃ m, ((es.length : Int) - j).toNat = m + 1 := ⟨((es.length : Int) - j).toNat - 1, by omega⟩
      have hm2 : ((es.length : Int) - (j + 1)).toNat = m := by omega
      rw [hm] at hr'
      simp only [mvL] at hr'
      right
      refine ⟨lM6 ⟨u, n1, l1, es.length, es.length, (es.length : Int), mv, wh, cx, cy, tn, bx, by_, px, py, nl, es⟩ (out.length + 1) (out.length + 1) (j + 1) false (out ++ [mvE (qX es j) (qY es j) (Int.tmod (W tn) 4) bx by_]), rfl, by simp [pM6]; omega, by simp only [mM6]; omega, ?_⟩
      rw [hr']
      simp only [fM6, hm2, List.append_assoc, List.cons_append, List.nil_append, Bool.false_and]
      rw [show out.length + 1 + m = out.length + (m + 1) by omega]
      simp [DT.run]
    · rw [decide_eq_false hi]
      rw [show ((es.length : Int) - j).toNat = 0 by omega] at hr'
      exact .inl (by rw [hr']; simp [mvL])
  · cases hp
noncomputable def E51 : EnvK := E50.addW 14 9 [5, 6, 7, 9, 10, 11, 53, 54, 55] [] shM6 pM6 fM6
theorem ok51 : EnvOK Try.prog E51.env :=
  ok50.addW (n := 60) Try.func14 (show Try.f14.body = some (bod Try.f14) by kernel_rfl) (show (loops (bod Try.f14)).filter (fun b => rid b == 9) = [lpb Try.f14 9] by kernel_rfl) [5, 6, 7, 9, 10, 11, 53, 54, 55] [5, 6, 7, 9, 10, 11] [] shM6 mM6 sM6
end Go.Hg
/- Geometry: RingMoves: what it comes to. -/
namespace Go.Hg
open Go.Hx Go.Proofs
def fr (es : List PV) (n : Nat) (k : List PV → Option PV) : Option PV := bif es.length == n then k ((es.drop 0).take n) else none
def fin6 (M es : List PV) (n2 n : Nat) (x' y' x y : Int) : Option PV :=
  fr M n2 fun m => fr es n fun r => bif rchk m == rchk r then fr M n2 (fun m => bif big m then fr es n (fun r => bif big r then some (bv (ins m x' y' == ins r x y)) else none) else none) else some (bv false)
def mv6 (es : List PV) (n : Nat) (mv : Bool) (wh cx cy tn bx by_ px py : Int) : Option PV :=
  bif pM6 (lM6 ⟨true, n, n, n, n, (n : Int), mv, wh, cx, cy, tn, bx, by_, px, py, false, es⟩ 0 0 0 true []) then
    fin6 (mvL es (Int.tmod (W tn) 4) bx by_ 0 ((n : Int) - 0).toNat) es (0 + ((n : Int) - 0).toNat) n (W (trx px py (Int.tmod (W tn) 4) + bx)) (W (tryy px py (Int.tmod (W tn) 4) + by_)) px py
  else none
def all6 (es : List PV) (n : Nat) (mv : Bool) (wh cx cy tn bx by_ px py : Int) : Option PV :=
  bif decide (n * 16 ≤ 140737488355328) then
    bif mv then bif !decide ((n : Int) = 0) then bif (es.length == n) && true then bif decide (0 ≤ Int.tmod (W wh) (n : Int)) && decide (Int.tmod (W wh) (n : Int) < (n : Int)) then bif (es.length == n) && true && true && true then
      mv6 (es.set (0 + (Int.tmod (W wh) (n : Int)).toNat) (ptv (Int.tmod cx 20) (Int.tmod cy 20))) n true wh cx cy tn bx by_ px py else none else none else none else none
    else mv6 es n false wh cx cy tn bx by_ px py
  else none
theorem q14 (f : Bool) (L : List PV) (mv : Bool) (wh cx cy tn bx by_ px py : Int) : runP Try.prog E51 100 14 [.lst f 3 L, .agg [bv mv, .val (.int .u8 wh), iv cx, iv cy, .val (.int .u8 tn)], ptv bx by_, ptv px py] =
  all6 (madeL L) (0 + (madeL L).length) mv wh cx cy tn (Int.tmod bx 1000) (Int.tmod by_ 1000) (Int.tmod px 30) (Int.tmod py 30) := by kernel_rfl
end Go.Hg
/- Geometry: RingMoves answers true. -/
namespace Go.Hg
open Go.Hx Go.Proofs
def in60 (e : PV) : Prop := ∃ x y, e = ptv x y ∧ (-60 ≤ x ∧ x ≤ 60) ∧ (-60 ≤ y ∧ y ≤ 60)
theorem in60_q {es : List PV} (h : ∀ e ∈ es, in60 e) {i : Int} (h0 : 0 ≤ i) (h1 : i < (es.length : Int)) : (-60 ≤ qX es i ∧ qX es i ≤ 60) ∧ (-60 ≤ qY es i ∧ qY es i ≤ 60) := by
  have hlt : i.toNat < es.length := by omega
  obtain ⟨x, y, he, hx, hy⟩ := h es[i.toNat] (List.getElem_mem hlt)
  have hg : es.getD i.toNat .any = ptv x y := by rw [List.getD_eq_getElem?_getD, List.getElem?_eq_getElem hlt, he]; rfl
  unfold qX qY
  rw [hg]
  exact ⟨hx, hy⟩
theorem dr_range (L : List PV) (j : Nat) {n : Int} (h : 0 < n) : 0 ≤ dr L j n ∧ dr L j n < n := ⟨dn_ge L _ h, dn_lt L _ h⟩
theorem mxF_range (L : List PV) : ∀ k, k ≤ 10 → -4 ≤ mxF (dr L) k ∧ mxF (dr L) k ≤ 3 + 4 * (k : Int)
  | 0, _ => by
    have := dr_range L 2 (n := 8) (by omega)
    simp only [mxF]; rw [W_id (by omega) (by omega)]; omega
  | k + 1, h => by
    have h1 := mxF_range L k (by omega)
    have := dr_range L (5 + 3 * k) (n := 4) (by omega)
    simp only [mxF]
    rw [W_id (n := mxF (dr L) k + 1) (by omega) (by omega), W_id (by omega) (by omega)]; omega
theorem myF_eq (L : List PV) (k : Nat) : myF (dr L) k = dr L (3 + 3 * k) 9 - 4 := by
  have := dr_range L (3 + 3 * k) (n := 9) (by omega)
  unfold myF; exact W_id (by omega) (by omega)
theorem mhF_eq (L : List PV) (k : Nat) : mhF (dr L) k = myF (dr L) k + 1 + dr L (4 + 3 * k) 7 := by
  have := dr_range L (3 + 3 * k) (n := 9) (by omega)
  have := dr_range L (4 + 3 * k) (n := 7) (by omega)
  unfold mhF
  rw [myF_eq, W_id (n := dr L (3 + 3 * k) 9 - 4 + 1) (by omega) (by omega), W_id (by omega) (by omega)]
theorem trx_qt {x y t : Int} (hx : -10000 ≤ x ∧ x ≤ 10000) (hy : -10000 ≤ y ∧ y ≤ 10000) (ht : 0 ≤ t ∧ t < 4) : trx x y t = qtx t x y ∧ tryy x y t = qty t x y := by
  unfold trx tryy qtx qty
  rw [show t % 4 = t by omega, W_id (n := 0 - y) (by omega) (by omega), W_id (n := 0 - x) (by omega) (by omega), W_id (n := 0 - (0 - y)) (by omega) (by omega), show 0 - (0 - y) = y by omega]
  constructor <;> (repeat' split) <;> first | rfl | omega
theorem tp_in {x y t : Int} (hx : -60 ≤ x ∧ x ≤ 60) (hy : -60 ≤ y ∧ y ≤ 60) (ht : 0 ≤ t ∧ t < 4) : in60 (tp t x y) := by
  obtain ⟨e1, e2⟩ := trx_qt (x := x) (y := y) (t := t) (by omega) (by omega) ht
  refine ⟨_, _, rfl, ?_, ?_⟩
  · rw [e1]; unfold qtx; (repeat' split) <;> omega
  · rw [e2]; unfold qty; (repeat' split) <;> omega
theorem madeL_in (L : List PV) : ∀ e ∈ madeL L, in60 e := by
  have h4 := dr_range L 0 (n := 4) (by omega)
  have ht := dr_range L 1 (n := 4) (by omega)
  intro e he
  unfold madeL mdF at he
  simp only [List.mem_append, List.mem_map, List.mem_range, List.mem_reverse] at he
  have b : ∀ k, k < 2 + (dr L 0 4).toNat → (-60 ≤ mxF (dr L) k ∧ mxF (dr L) k ≤ 60) ∧ (-60 ≤ myF (dr L) k ∧ myF (dr L) k ≤ 60) ∧ (-60 ≤ mhF (dr L) k ∧ mhF (dr L) k ≤ 60) := fun k hk => by
    have h1 := mxF_range L k (by omega)
    have h2 := dr_range L (3 + 3 * k) (n := 9) (by omega)
    have h3 := dr_range L (4 + 3 * k) (n := 7) (by omega)
    rw [mhF_eq, myF_eq]
    omega
  rcases he with ⟨k, hk, rfl⟩ | ⟨k, hk, rfl⟩
  · obtain ⟨b1, b2, _⟩ := b k hk; exact tp_in b1 b2 ht
  · obtain ⟨b1, _, b3⟩ := b k hk; exact tp_in b1 b3 ht
theorem mvE_eq {x y t u v : Int} (hx : -60 ≤ x ∧ x ≤ 60) (hy : -60 ≤ y ∧ y ≤ 60) (ht : 0 ≤ t ∧ t < 4) (hu : -1000 ≤ u ∧ u ≤ 1000) (hv : -1000 ≤ v ∧ v ≤ 1000) :
    W (trx x y t + u) = qtx t x y + u ∧ W (tryy x y t + v) = qty t x y + v := by
  obtain ⟨e1, e2⟩ := trx_qt (x := x) (y := y) (t := t) (by omega) (by omega) ht
  have k := qt_sm (t := t) (x := x) (y := y) (by omega)
  rw [e1, e2]
  exact ⟨W_id (by omega) (by omega), W_id (by omega) (by omega)⟩
section
variable {es : List PV} (h : ∀ e ∈ es, in60 e) {t u v : Int} (ht : 0 ≤ t ∧ t < 4) (hu : -1000 ≤ u ∧ u ≤ 1000) (hv : -1000 ≤ v ∧ v ≤ 1000)
include h ht hu hv
theorem mv_img : Img es (mvL es t u v 0 es.length) (fun x y => qtx t x y + u) (fun x y => qty t x y + v) := by
  have key : ∀ i, 0 ≤ i → i < (es.length : Int) → (mvL es t u v 0 es.length).getD i.toNat .any = mvE (qX es i) (qY es i) t u v := fun i h0 h1 => by
    rw [mvL_get es t u v es.length 0 i.toNat (by omega), show (0 : Int) + (i.toNat : Int) = i by omega]
  refine ⟨mvL_len es t u v es.length 0, fun i h0 h1 => ?_, fun i h0 h1 => ?_⟩
  · have b := in60_q h h0 h1
    show (((mvL es t u v 0 es.length).getD i.toNat .any).cellAt 0).getI = _
    rw [key i h0 h1]
    exact (mvE_eq b.1 b.2 ht hu hv).1
  · have b := in60_q h h0 h1
    show (((mvL es t u v 0 es.length).getD i.toNat .any).cellAt 1).getI = _
    rw [key i h0 h1]
    exact (mvE_eq b.1 b.2 ht hu hv).2
end
theorem mv_keeps (t u v : Int) : Keeps (fun x y => qtx t x y + u) (fun x y => qty t x y + v) := (qt_keeps t).comp (keeps_shift u v)
theorem app_q {A : List PV} {X Y : Int → Int → Int} {B : List PV} (hI : Img A B X Y) (h1 : 0 < A.length) : Img (A ++ [qp A 0]) (B ++ [qp B 0]) X Y := by
  have ge : ∀ {es : List PV} {i : Int}, 0 ≤ i → i < (es.length : Int) + 1 → (qX (es ++ [qp es 0]) i = if i < (es.length : Int) then qX es i else qX es 0) ∧ (qY (es ++ [qp es 0]) i = if i < (es.length : Int) then qY es i else qY es 0) := fun {es i} g0 g1 => by
    unfold qX qY
    rw [List.getD_eq_getElem?_getD]
    by_cases g : i < (es.length : Int)
    · rw [if_pos g, if_pos g, List.getElem?_append_left (by omega)]
      exact ⟨by rw [List.getD_eq_getElem?_getD], by rw [List.getD_eq_getElem?_getD]⟩
    · rw [if_neg g, if_neg g, List.getElem?_append_right (by omega), show i.toNat - es.length = 0 by omega]
      exact ⟨rfl, rfl⟩
  have hl := hI.len
  refine ⟨by simp [hl], fun i g0 g1 => ?_, fun i g0 g1 => ?_⟩
  · simp only [List.length_append, List.length_cons, List.length_nil] at g1
    rw [(ge (es := B) g0 (by omega)).1, (ge (es := A) g0 (by omega)).1, (ge (es := A) g0 (by omega)).2, hl]
    split
    · exact hI.x i g0 (by omega)
    · exact hI.x 0 (by omega) (by omega)
  · simp only [List.length_append, List.length_cons, List.length_nil] at g1
    rw [(ge (es := B) g0 (by omega)).2, (ge (es := A) g0 (by omega)).1, (ge (es := A) g0 (by omega)).2, hl]
    split
    · exact hI.y i g0 (by omega)
    · exact hI.y 0 (by omega) (by omega)
theorem in60_app {es : List PV} (h : ∀ e ∈ es, in60 e) (h1 : 0 < es.length) : ∀ e ∈ es ++ [qp es 0], in60 e := by
  intro e he
  rcases List.mem_append.1 he with g | g
  · exact h e g
  · simp only [List.mem_singleton] at g; subst g
    have := in60_q h (i := 0) (by omega) (by omega)
    exact ⟨_, _, rfl, this⟩
theorem fin_bds {es : List PV} (h : ∀ i, 0 ≤ i → i < (es.length : Int) → (-16384 ≤ qX es i ∧ qX es i ≤ 16384) ∧ (-16384 ≤ qY es i ∧ qY es i ≤ 16384)) : fin es = true := by
  unfold fin
  rw [allR_false]
  intro j hj
  exact inB2_iff.2 (h (0 + (j : Int)) (by omega) (by omega))
theorem rchk_mv {es : List PV} (h : ∀ e ∈ es, in60 e) {t u v : Int} (ht : 0 ≤ t ∧ t < 4) (hu : -1000 ≤ u ∧ u ≤ 1000) (hv : -1000 ≤ v ∧ v ≤ 1000) : rchk (mvL es t u v 0 es.length) = rchk es := by
  unfold rchk
  have hI := mv_img h ht hu hv
  rw [hI.len]
  by_cases h1 : (es.length : Int) < 3
  · rw [decide_eq_true h1]; rfl
  rw [decide_eq_false h1]
  have hI2 := app_q hI (by omega)
  have h60 := in60_app h (by omega)
  have bA := fun i (g0 : 0 ≤ i) (g1 : i < ((es ++ [qp es 0]).length : Int)) => in60_q h60 g0 g1
  have bB : ∀ i, 0 ≤ i → i < ((mvL es t u v 0 es.length ++ [qp (mvL es t u v 0 es.length) 0]).length : Int) → (-16384 ≤ qX (mvL es t u v 0 es.length ++ [qp (mvL es t u v 0 es.length) 0]) i ∧ qX (mvL es t u v 0 es.length ++ [qp (mvL es t u v 0 es.length) 0]) i ≤ 16384) ∧ (-16384 ≤ qY (mvL es t u v 0 es.length ++ [qp (mvL es t u v 0 es.length) 0]) i ∧ qY (mvL es t u v 0 es.length ++ [qp (mvL es t u v 0 es.length) 0]) i ≤ 16384) := fun i g0 g1 => by
    rw [hI2.len] at g1
    rw [hI2.x i g0 g1, hI2.y i g0 g1]
    have := bA i g0 g1
    have k := qt_sm (t := t) (x := qX (es ++ [qp es 0]) i) (y := qY (es ++ [qp es 0]) i) (by omega)
    omega
  have e := img_chk (mv_keeps t u v) hI2 (fun i g0 g1 => by have := bA i g0 g1; unfold bd; omega) (fun i g0 g1 => by have := bB i g0 (by rw [hI2.len]; exact g1); unfold bd; omega)
    (fin_bds fun i g0 g1 => by have := bA i g0 g1; omega) (fin_bds bB)
  rw [e]
end Go.Hg
/- Geometry: made rings are right. -/
namespace Go.Hg
open Go.Hx Go.Proofs
/-- A ring of columns: lower points from the left to the right, upper ones back. -/
structure Cols (m : Nat) (x y h : Nat → Int) : Prop where
  two : 2 ≤ m
  inc : ∀ u v, u < v → v < m → x u < x v
  up : ∀ u, u < m → y u < h u
  bx : ∀ u, u < m → -60 ≤ x u ∧ x u ≤ 60
  by_ : ∀ u, u < m → -60 ≤ y u ∧ y u ≤ 60
  bh : ∀ u, u < m → -60 ≤ h u ∧ h u ≤ 60
/-- The points' coordinates, the first one once more at the end. -/
def cpx (m : Nat) (x : Nat → Int) (j : Nat) : Int := if j < m then x j else if j < 2 * m then x (2 * m - 1 - j) else x 0
def cpy (m : Nat) (y h : Nat → Int) (j : Nat) : Int := if j < m then y j else if j < 2 * m then h (2 * m - 1 - j) else y 0
/-- The four kinds of segments. -/
def Kd (m : Nat) (x y h : Nat → Int) (j : Nat) (a b c d : Int) : Prop :=
  (j + 1 < m ∧ a = x j ∧ b = y j ∧ c = x (j + 1) ∧ d = y (j + 1)) ∨ (j = m - 1 ∧ a = x (m - 1) ∧ b = y (m - 1) ∧ c = x (m - 1) ∧ d = h (m - 1)) ∨
  (∃ u, u + 1 < m ∧ j = 2 * m - 2 - u ∧ a = x (u + 1) ∧ b = h (u + 1) ∧ c = x u ∧ d = h u) ∨ (j = 2 * m - 1 ∧ a = x 0 ∧ b = h 0 ∧ c = x 0 ∧ d = y 0)
theorem kd_of {m : Nat} {x y h : Nat → Int} (hm : 2 ≤ m) {j : Nat} (hj : j < 2 * m) : Kd m x y h j (cpx m x j) (cpy m y h j) (cpx m x (j + 1)) (cpy m y h (j + 1)) := by
  unfold Kd cpx cpy
  by_cases h1 : j + 1 < m
  · left
    simp only [if_pos (show j < m by omega), if_pos h1]
    exact ⟨h1, trivial, trivial, trivial, trivial⟩
  · right
    by_cases h2 : j = m - 1
    · left
      simp only [if_pos (show j < m by omega), if_neg h1, if_pos (show j + 1 < 2 * m by omega), show 2 * m - 1 - (j + 1) = m - 1 by omega]
      exact ⟨h2, by rw [h2], by rw [h2], trivial, trivial⟩
    · right
      by_cases h3 : j + 1 < 2 * m
      · left
        simp only [if_neg (show ¬ j < m by omega), if_pos (show j < 2 * m by omega), if_neg h1, if_pos h3]
        refine ⟨2 * m - 2 - j, by omega, by omega, ?_, ?_, ?_, ?_⟩ <;> congr 1 <;> omega
      · right
        simp only [if_neg (show ¬ j < m by omega), if_pos (show j < 2 * m by omega), if_neg h1, if_neg h3, show 2 * m - 1 - j = 0 by omega]
        exact ⟨by omega, trivial, trivial, trivial, trivial⟩
section
variable {m : Nat} {x y h : Nat → Int} (hC : Cols m x y h)
include hC
theorem cols_mono {u v : Nat} (h1 : u ≤ v) (h2 : v < m) : x u ≤ x v := by
  rcases Nat.lt_or_ge u v with g | g
  · exact Int.le_of_lt (hC.inc u v g h2)
  · rw [show u = v by omega]; exact Int.le_refl _
theorem kd_bd {j : Nat} {a b c d : Int} (k : Kd m x y h j a b c d) : bd a b ∧ bd c d := by
  have hm := hC.two
  unfold bd
  rcases k with ⟨k, rfl, rfl, rfl, rfl⟩ | ⟨k, rfl, rfl, rfl, rfl⟩ | ⟨u, k, _, rfl, rfl, rfl, rfl⟩ | ⟨k, rfl, rfl, rfl, rfl⟩
  · have := hC.bx j (by omega); have := hC.by_ j (by omega); have := hC.bx (j + 1) k; have := hC.by_ (j + 1) k; omega
  · have := hC.bx (m - 1) (by omega); have := hC.by_ (m - 1) (by omega); have := hC.bh (m - 1) (by omega); omega
  · have := hC.bx u (by omega); have := hC.bh u (by omega); have := hC.bx (u + 1) k; have := hC.bh (u + 1) k; omega
  · have := hC.bx 0 (by omega); have := hC.by_ 0 (by omega); have := hC.bh 0 (by omega); omega
theorem kd_ne {j : Nat} {a b c d : Int} (k : Kd m x y h j a b c d) : ¬ (a = c ∧ b = d) := by
  have hm := hC.two
  rcases k with ⟨k, rfl, rfl, rfl, rfl⟩ | ⟨k, rfl, rfl, rfl, rfl⟩ | ⟨u, k, _, rfl, rfl, rfl, rfl⟩ | ⟨k, rfl, rfl, rfl, rfl⟩
  · have := hC.inc j (j + 1) (by omega) k; omega
  · have := hC.up (m - 1) (by omega); omega
  · have := hC.inc u (u + 1) (by omega) k; omega
  · have := hC.up 0 (by omega); omega
omit hC in
theorem crs_vert {a b c d h' : Int} (h1 : a ≠ c) (h2 : d ≠ h') : crs a b c d c h' ≠ 0 := by
  have e : crs a b c d c h' = (c - a) * (h' - d) := by unfold crs; grind
  rw [e]; intro t; rcases Int.mul_eq_zero.1 t with g | g <;> omega
theorem kd_pair {k i : Nat} (hk : k < i) (hi : i < 2 * m) {a b c d e f p q : Int} (k1 : Kd m x y h k a b c d) (k2 : Kd m x y h i e f p q) :
    mt a b c d e f p q = if k + 1 = i then 1 else if k = 0 ∧ i = 2 * m - 1 then 1 else 0 := by
  have hm := hC.two
  obtain ⟨b1, b2⟩ := kd_bd hC k1
  obtain ⟨b3, b4⟩ := kd_bd hC k2
  rcases k1 with ⟨n1, rfl, rfl, rfl, rfl⟩ | ⟨n1, rfl, rfl, rfl, rfl⟩ | ⟨u, n1, n3, rfl, rfl, rfl, rfl⟩ | ⟨n1, rfl, rfl, rfl, rfl⟩
  · have x1 := hC.inc k (k + 1) (by omega) n1
    rcases k2 with ⟨n2, rfl, rfl, rfl, rfl⟩ | ⟨n2, rfl, rfl, rfl, rfl⟩ | ⟨v, n2, n4, rfl, rfl, rfl, rfl⟩ | ⟨n2, rfl, rfl, rfl, rfl⟩
    · have x2 := hC.inc i (i + 1) (by omega) n2
      by_cases ad : k + 1 = i
      · subst ad; rw [if_pos rfl]; exact mt_chain b1 b2 b4 (.inl ⟨x1, x2⟩)
      · rw [if_neg ad, if_neg (by omega)]
        have x3 := hC.inc (k + 1) i (by omega) (by omega)
        exact mt_left b1 b2 b3 b4 (by omega) (by omega) (by omega) (by omega)
    · by_cases ad : k + 1 = i
      · rw [if_pos ad]
        have ek : m - 1 = k + 1 := by omega
        rw [ek] at b4 ⊢
        exact mt_chain b1 b2 b4 (.inr (.inr (crs_vert (by omega) (by have := hC.up (k + 1) n1; omega))))
      · rw [if_neg ad, if_neg (by omega)]
        have x3 := hC.inc (k + 1) (m - 1) (by omega) (by omega)
        exact mt_left b1 b2 b3 b4 (by omega) (by omega) (by omega) (by omega)
    · rw [if_neg (by omega), if_neg (by omega)]
      have x2 := hC.inc v (v + 1) (by omega) n2
      rcases Nat.lt_trichotomy k v with g | g | g
      · rcases Nat.lt_or_ge (k + 1) v with g' | g'
        · have x3 := hC.inc (k + 1) v g' (by omega)
          exact mt_left b1 b2 b3 b4 (by omega) (by omega) (by omega) (by omega)
        · obtain rfl : v = k + 1 := by omega
          exact mt_next b1 b2 b3 b4 x1 x2 (hC.up (k + 1) (by omega))
      · subst g; exact mt_over b1 b2 b3 b4 x1 (hC.up k (by omega)) (hC.up (k + 1) (by omega))
      · rcases Nat.lt_or_ge (v + 1) k with g' | g'
        · have x3 := hC.inc (v + 1) k g' (by omega)
          exact mt_right b1 b2 b3 b4 (by omega) (by omega) (by omega) (by omega)
        · obtain rfl : k = v + 1 := by omega
          exact mt_prev b1 b2 b3 b4 x2 x1 (hC.up (v + 1) (by omega))
    · rcases Nat.eq_zero_or_pos k with g | g
      · subst g
        rw [if_neg (by omega), if_pos ⟨rfl, n2⟩]
        refine mt_ring b1 b2 b3 ?_
        have e : crs (x 0) (y 0) (x (0 + 1)) (y (0 + 1)) (x 0) (h 0) = (x (0 + 1) - x 0) * (h 0 - y 0) := by unfold crs; grind
        rw [e]; intro t; have := hC.up 0 (by omega); rcases Int.mul_eq_zero.1 t with g | g <;> omega
      · rw [if_neg (by omega), if_neg (by omega)]
        have x3 := hC.inc 0 k g (by omega)
        exact mt_right b1 b2 b3 b4 (by omega) (by omega) (by omega) (by omega)
  · rcases k2 with ⟨n2, rfl, rfl, rfl, rfl⟩ | ⟨n2, rfl, rfl, rfl, rfl⟩ | ⟨v, n2, n4, rfl, rfl, rfl, rfl⟩ | ⟨n2, rfl, rfl, rfl, rfl⟩
    · omega
    · omega
    · have x2 := hC.inc v (v + 1) (by omega) n2
      by_cases ad : k + 1 = i
      · rw [if_pos ad]
        have ek : m - 1 = v + 1 := by omega
        rw [ek] at b1 b2 ⊢
        refine mt_chain b1 b2 b4 (.inr (.inr ?_))
        have e : crs (x (v + 1)) (y (v + 1)) (x (v + 1)) (h (v + 1)) (x v) (h v) = -((h (v + 1) - y (v + 1)) * (x v - x (v + 1))) := by unfold crs; grind
        rw [e]; intro t; have := hC.up (v + 1) (by omega); rcases Int.mul_eq_zero.1 (show (h (v + 1) - y (v + 1)) * (x v - x (v + 1)) = 0 by omega) with g | g <;> omega
      · rw [if_neg ad, if_neg (by omega)]
        have x3 := hC.inc (v + 1) (m - 1) (by omega) (by omega)
        exact mt_right b1 b2 b3 b4 (by omega) (by omega) (by omega) (by omega)
    · rw [if_neg (by omega), if_neg (by omega)]
      have x3 := hC.inc 0 (m - 1) (by omega) (by omega)
      exact mt_right b1 b2 b3 b4 (by omega) (by omega) (by omega) (by omega)
  · have x1 := hC.inc u (u + 1) (by omega) n1
    rcases k2 with ⟨n2, rfl, rfl, rfl, rfl⟩ | ⟨n2, rfl, rfl, rfl, rfl⟩ | ⟨v, n2, n4, rfl, rfl, rfl, rfl⟩ | ⟨n2, rfl, rfl, rfl, rfl⟩
    · omega
    · omega
    · have x2 := hC.inc v (v + 1) (by omega) n2
      by_cases ad : k + 1 = i
      · rw [if_pos ad]
        obtain rfl : u = v + 1 := by omega
        exact mt_chain b1 b2 b4 (.inr (.inl ⟨x2, x1⟩))
      · rw [if_neg ad, if_neg (by omega)]
        have x3 := hC.inc (v + 1) u (by omega) (by omega)
        exact mt_right b1 b2 b3 b4 (by omega) (by omega) (by omega) (by omega)
    · by_cases ad : k + 1 = i
      · rw [if_pos ad]
        obtain rfl : u = 0 := by omega
        exact mt_chain b1 b2 b4 (.inr (.inr (crs_vert (by omega) (by have := hC.up 0 (by omega); omega))))
      · rw [if_neg ad, if_neg (by omega)]
        have x3 := hC.inc 0 u (by omega) (by omega)
        exact mt_right b1 b2 b3 b4 (by omega) (by omega) (by omega) (by omega)
  · omega
end
end Go.Hg
/- Geometry: RingInside answers true. -/
namespace Go.Hg
open Go.Hx Go.Proofs
def mn12 (es : List PV) : Int := if 12 < ((es.length : Nat) : Int) then 12 else ((es.length : Nat) : Int)
def cut12 (es : List PV) : List PV := es.take (mn12 es).toNat
theorem mn12_ok (es : List PV) : (decide (0 ≤ mn12 es) && decide (mn12 es ≤ ((es.length : Nat) : Int))) = true := by unfold mn12; simp; split <;> omega
theorem cut12_len (es : List PV) : (cut12 es).length ≤ 12 := by unfold cut12 mn12; rw [List.length_take]; split <;> omega
def in5 (es : List PV) (a b : Int) (k : Option PV) : Option PV := bif big es then bif big es then bif ins es a b != ins es a b then some (bv false) else k else none else none
theorem q5 (f g : Bool) (L R : List PV) (x y : Int) : runP Try.prog E39 100 10 [.lst f 3 L, .lst g 23 R, ptv x y] =
  bif decide (0 ≤ mn12 R) && decide (mn12 R ≤ ((R.length : Nat) : Int)) then
    in5 (madeL L) x y (in5 (madeL L) (Int.tmod x 30) (Int.tmod y 30) (in5 (cut12 R) x y (in5 (cut12 R) (Int.tmod x 30) (Int.tmod y 30) (some (bv true))))) else none := by kernel_rfl
theorem in5_eq {es : List PV} (h : es.length ≤ 1000000) (a b : Int) (k : Option PV) : in5 es a b k = k := by
  unfold in5; rw [show big es = true by simpa using h]; simp
theorem law5 (f g : Bool) (L R : List PV) (x y : Int) : Enters Try.prog 10 ∧ PCall Try.prog 10 [.lst f 3 L, .lst g 23 R, ptv x y] (bv true) := by
  refine runP_sound ok39 (n := 100) ?_
  have h1 := (madeL_len L).2
  have h2 := cut12_len R
  rw [q5, mn12_ok, in5_eq (by omega), in5_eq (by omega), in5_eq (by omega), in5_eq (by omega)]; rfl
end Go.Hg
/- Geometry: RingChecks: its loop, and what it comes to. -/
namespace Go.Hg
open Go.Hx Go.Proofs
noncomputable def E60 : EnvK := E39.addN 9 7 [(12, 23, 2)]
theorem ok60 : EnvOK Try.prog E60.env := ok39.addN 9 7 [(12, 23, 2)]
def shC9 : S1 := ⟨84, [(3, .lst 23), (9, .bool), (10, .lst 23), (11, .sl 1), (12, .sl 2), (32, .lst 23), (33, I64), (34, I64)],
  [.one 23 2 (.agg [I64, I64]), .many 23 2, .many 23 2]⟩
abbrev lC9 (f1 : Bool) (R : List PV) (u : Bool) (f2 : Bool) (r : List PV) (n1 l1 n2 l2 : Nat) (f3 : Bool) (es : List PV) (len j tx ty : Int) (nl1 : Bool) (odd : List PV) (nl2 : Bool) (out : List PV) : LS :=
  ([.l f1 R, .b u, .l f2 r, .n n1, .n l1, .n n2, .n l2, .l f3 es, .i len, .i j], [.i tx, .i ty, .l nl1 odd, .l nl2 out])
noncomputable abbrev xC9 (f1 : Bool) (R : List PV) (u : Bool) (f2 : Bool) (r : List PV) (n1 l1 n2 l2 : Nat) (tx ty : Int) (nl1 : Bool) (odd : List PV) (nl2 : Bool) (out : List PV) : PX × List PV × List Row :=
  (.exit 0, tm 84 [(3, .lst f1 23 R), (9, bv u), (10, .lst f2 23 r), (11, .sl 1 n1 0 l1), (12, .sl 2 n2 0 l2)], (shC9.put (lC9 f1 R u f2 r n1 l1 n2 l2 f1 R 0 0 tx ty nl1 odd nl2 out)).2)
def sm9 (es : List PV) (j : Int) : PV := ptv (Int.tmod (qX es j) 9) (Int.tmod (qY es j) 9)
theorem qC9 (f1 : Bool) (R : List PV) (u : Bool) (f2 : Bool) (r : List PV) (n1 l1 n2 l2 : Nat) (f3 : Bool) (es : List PV) (len j tx ty : Int) (nl1 : Bool) (odd : List PV) (nl2 : Bool) (out : List PV) :
  runB Try.prog E60 60 9 (lpb Try.f9 7) [3, 9, 10, 11, 12, 32, 33, 34] [3, 9, 10, 11, 12] (shC9.put (lC9 f1 R u f2 r n1 l1 n2 l2 f3 es len j tx ty nl1 odd nl2 out)).1 (shC9.put (lC9 f1 R u f2 r n1 l1 n2 l2 f3 es len j tx ty nl1 odd nl2 out)).2 =
  bif decide (j < len) then bif inr es j then bif room out n2 l2 then some (.normal, shC9.put (lC9 f1 R u f2 r n1 l1 (n2 + 1) (n2 + 1) f3 es len (W (j + 1)) tx ty nl1 odd (nl2 && false) (out ++ [sm9 es j]))) else none else none
  else some (xC9 f1 R u f2 r n1 l1 n2 l2 tx ty nl1 odd nl2 out) := by kernel_rfl
def smL (es : List PV) (j : Int) : Nat → List PV
  | 0 => []
  | m + 1 => sm9 es j :: smL es (j + 1) m
theorem smL_len (es : List PV) : ∀ (m : Nat) (j : Int), (smL es j m).length = m
  | 0, _ => rfl
  | m + 1, j => by simp [smL, smL_len es m (j + 1)]
def pC9 : LS → Bool
  | ([.l _ _, .b _, .l _ _, .n _, .n _, .n n2, .n l2, .l _ es, .i len, .i j], [.i _, .i _, .l _ _, .l _ out]) =>
    decide (0 ≤ j) && decide (j ≤ len) && decide (len = (es.length : Int)) && decide (n2 = out.length) && decide (l2 = out.length) && decide ((out.length : Int) ≤ j) && decide (es.length ≤ 1000)
  | _ => false
noncomputable def fC9 : LS → DT (PX × List PV × List Row)
  | ([.l f1 R, .b u, .l f2 r, .n n1, .n l1, .n n2, .n _, .l _ es, .i len, .i j], [.i tx, .i ty, .l nl1 odd, .l nl2 out]) =>
    .leaf (xC9 f1 R u f2 r n1 l1 (n2 + (len - j).toNat) (n2 + (len - j).toNat) tx ty nl1 odd (nl2 && decide ((len - j).toNat = 0)) (out ++ smL es j (len - j).toNat))
  | _ => .no
def mC9 : LS → Nat
  | ([.l _ _, .b _, .l _ _, .n _, .n _, .n _, .n _, .l _ _, .i len, .i j], [.i _, .i _, .l _ _, .l _ _]) => (len - j).toNat
  | _ => 0
theorem sC9 : ∀ s r, pC9 s = true → (fC9 s).run = some r → r.1 ≠ .normal ∧ (runB Try.prog E60 60 9 (lpb Try.f9 7) [3, 9, 10, 11, 12, 32, 33, 34] [3, 9, 10, 11, 12] (shC9.put s).1 (shC9.put s).2 = some r ∨
      ∃ s', runB Try.prog E60 60 9 (lpb Try.f9 7) [3, 9, 10, 11, 12, 32, 33, 34] [3, 9, 10, 11, 12] (shC9.put s).1 (shC9.put s).2 = some (.normal, shC9.put s') ∧ pC9 s' = true ∧ mC9 s' < mC9 s ∧ (fC9 s').run = some r) := by
  intro s r hp hr
  unfold pC9 at hp; split at hp
  · rename_i f1 R u f2 rr n1 l1 n2 l2 f3 es len j tx ty nl1 odd nl2 out
    simp only [Bool.and_eq_true, decide_eq_true_eq] at hp
    obtain ⟨⟨⟨⟨⟨⟨h1, h2⟩, h3⟩, h6⟩, h7⟩, h8⟩, h9⟩ := hp
    have hr' := (Option.some.inj hr).symm
    refine ⟨by rw [hr']; simp, ?_⟩
    subst h3 h6 h7
    rw [qC9]
    by_cases hi : j < (es.length : Int)
    · have hw := W_id (n := j + 1) (by omega) (by omega)
      have hroom : room out out.length out.length = true := by unfold room; simp; omega
      rw [decide_eq_true hi, cond_true, hroom, hw, inr_of h1 hi]
      simp only [cond_true, Bool.and_false]
      obtain ⟨m, hm⟩ : ∃ m, ((es.length : Int) - j).toNat = m + 1 := ⟨((es.length : Int) - j).toNat - 1, by omega⟩
      have hm2 : ((es.length : Int) - (j + 1)).toNat = m := by omega
      rw [hm] at hr'
      simp only [smL] at hr'
      right
      refine ⟨lC9 f1 R u f2 rr n1 l1 (out.length + 1) (out.length + 1) f3 es (es.length : Int) (j + 1) tx ty nl1 odd false (out ++ [sm9 es j]), rfl, by simp [pC9]; omega, by simp only [mC9]; omega, ?_⟩
      rw [hr']
      simp only [fC9, hm2, List.append_assoc, List.cons_append, List.nil_append, Bool.false_and]
      rw [show out.length + 1 + m = out.length + (m + 1) by omega]
      simp [DT.run]
    · rw [decide_eq_false hi]
      rw [show ((es.length : Int) - j).toNat = 0 by omega] at hr'
      exact .inl (by rw [hr']; simp [smL])
  · cases hp
noncomputable def E61 : EnvK := E60.addW 9 7 [3, 9, 10, 11, 12, 32, 33, 34] [] shC9 pC9 fC9
theorem ok61 : EnvOK Try.prog E61.env :=
  ok60.addW (n := 60) Try.func9 (show Try.f9.body = some (bod Try.f9) by kernel_rfl) (show (loops (bod Try.f9)).filter (fun b => rid b == 7) = [lpb Try.f9 7] by kernel_rfl) [3, 9, 10, 11, 12, 32, 33, 34] [3, 9, 10, 11, 12] [] shC9 mC9 sC9
def frz9 (es : List PV) (n : Nat) (k : List PV → Option PV) : Option PV := bif es.length == n then k ((es.drop 0).take n) else none
def tL (es : List PV) (k : Option PV) : Option PV := bif rchk es != rchk es then some (bv false) else bif big es then bif big es then bif ar2 es != ar2 es then some (bv false) else k else none else none
def tS (es : List PV) (n : Nat) (k : Option PV) : Option PV := frz9 es n fun a => frz9 es n fun b => bif rchk a != rchk b then some (bv false) else frz9 es n fun a => bif big a then frz9 es n fun b => bif big b then bif ar2 a != ar2 b then some (bv false) else k else none else none
def end9 (r odd R sm : List PV) (n n2 : Nat) : Option PV :=
  bif decide (0 ≤ mn12 R) && decide (mn12 R ≤ ((R.length : Nat) : Int)) then bif decide ((0 + r.length) * 16 ≤ 140737488355328) then bif decide (r.length = 0 + r.length) && decide (0 + r.length = 0 + r.length) && decide ((0 + r.length + r.length) * 16 ≤ 140737488355328) then
    tL r (tS odd n (tL (cut12 R) (tS sm n2 (tS (r ++ r) (0 + r.length + r.length) (some (bv (rchk r == 0))))))) else none else none else none
def all9 (r R : List PV) (n : Nat) (g : Bool) (wh tx ty : Int) : Option PV :=
  bif decide (n * 16 ≤ 140737488355328) then bif !decide ((n : Int) = 0) then bif (r.length == n) && true then bif decide (0 ≤ Int.tmod (W wh) (n : Int)) && decide (Int.tmod (W wh) (n : Int) < (n : Int)) then bif (r.length == n) && true && true && true then
    bif decide (0 ≤ mn12 R) && decide (mn12 R ≤ ((R.length : Nat) : Int)) then
      bif pC9 (lC9 g R true false r n n 0 0 (g && false) (cut12 R) ((cut12 R).length : Int) 0 tx ty false (r.set (0 + (Int.tmod (W wh) (n : Int)).toNat) (ptv tx ty)) true []) then
        end9 r (r.set (0 + (Int.tmod (W wh) (n : Int)).toNat) (ptv tx ty)) R (smL (cut12 R) 0 (((cut12 R).length : Int) - 0).toNat) n (0 + (((cut12 R).length : Int) - 0).toNat)
      else none else none else none else none else none else none else none
theorem q9 (f g : Bool) (L R : List PV) (wh tx ty : Int) : runP Try.prog E61 100 9 [.lst f 3 L, .val (.int .u8 wh), ptv tx ty, .lst g 23 R] =
  all9 (madeL L) R (0 + (madeL L).length) g wh tx ty := by kernel_rfl
end Go.Hg
/- Geometry: RingChecks answers true. -/
namespace Go.Hg
open Go.Hx Go.Proofs
def colL (m : Nat) (x y h : Nat → Int) : List PV := ((List.range m).map fun k => ptv (x k) (y k)) ++ ((List.range m).reverse.map fun k => ptv (x k) (h k))
theorem colL_len (m : Nat) (x y h : Nat → Int) : (colL m x y h).length = 2 * m := by simp [colL]; omega
theorem colL_get (m : Nat) (x y h : Nat → Int) (j : Nat) (hj : j < 2 * m) : (colL m x y h).getD j .any = ptv (cpx m x j) (cpy m y h j) := by
  unfold colL cpx cpy
  rw [List.getD_eq_getElem?_getD]
  by_cases g : j < m
  · rw [List.getElem?_append_left (by simp; omega), List.getElem?_map, List.getElem?_range g, if_pos g, if_pos g]; rfl
  · rw [List.getElem?_append_right (by simp; omega), List.getElem?_map, List.getElem?_reverse (by simp; omega), if_neg g, if_neg g, if_pos hj, if_pos hj]
    simp only [List.length_map, List.length_range]
    rw [List.getElem?_range (by omega), show m - 1 - (j - m) = 2 * m - 1 - j by omega]; rfl
theorem colA_q {m : Nat} {x y h : Nat → Int} (hm : 2 ≤ m) {j : Nat} (hj : j < 2 * m + 1) : qX (colL m x y h ++ [qp (colL m x y h) 0]) (j : Int) = cpx m x j ∧ qY (colL m x y h ++ [qp (colL m x y h) 0]) (j : Int) = cpy m y h j := by
  have hl := colL_len m x y h
  unfold qX qY
  rw [Int.toNat_natCast, List.getD_eq_getElem?_getD]
  by_cases g : j < 2 * m
  · rw [List.getElem?_append_left (by omega), ← List.getD_eq_getElem?_getD, colL_get m x y h j g]; exact ⟨rfl, rfl⟩
  · rw [List.getElem?_append_right (by omega), show j - (colL m x y h).length = 0 by omega]
    have e : (colL m x y h).getD 0 .any = ptv (cpx m x 0) (cpy m y h 0) := colL_get m x y h 0 (by omega)
    show qX (colL m x y h) 0 = _ ∧ qY (colL m x y h) 0 = _
    unfold qX qY
    rw [show Int.toNat 0 = 0 from rfl, e]
    unfold cpx cpy
    rw [if_pos (show 0 < m by omega), if_pos (show 0 < m by omega), if_neg (show ¬ j < m by omega), if_neg (show ¬ j < m by omega), if_neg g, if_neg g]
    exact ⟨rfl, rfl⟩
theorem allP_of {es : List PV} {la i : Int} : ∀ (n : Nat) (k : Int), (∀ j : Nat, j < n → mq es (k + j) i = want es la i (k + j)) → allP es la i k n = true
  | 0, k, _ => rfl
  | n + 1, k, hh => by
    simp only [allP, Bool.and_eq_true, beq_iff_eq]
    refine ⟨by simpa using hh 0 (by omega), allP_of n (k + 1) fun j hj => ?_⟩
    have := hh (j + 1) (by omega)
    rwa [show k + ((j + 1 : Nat) : Int) = k + 1 + (j : Int) by omega] at this
theorem allI_of {es : List PV} {la : Int} : ∀ (n : Nat) (i : Nat), (∀ j : Nat, j < n → eqq es ((i + j : Nat) : Int) (((i + j : Nat) : Int) + 1) = false ∧ ∀ k : Nat, k < i + j → mq es (k : Int) ((i + j : Nat) : Int) = want es la ((i + j : Nat) : Int) (k : Int)) → allI es la (i : Int) n = true
  | 0, i, _ => rfl
  | n + 1, i, hh => by
    have h0 := hh 0 (by omega)
    simp only [Nat.add_zero] at h0
    simp only [allI, Bool.and_eq_true]
    refine ⟨by rw [h0.1]; rfl, allP_of _ 0 fun j hj => ?_, ?_⟩
    · rw [Int.zero_add]; exact h0.2 j (by omega)
    · have := allI_of n (i + 1) fun j hj => by
        have := hh (j + 1) (by omega)
        rwa [show i + (j + 1) = i + 1 + j by omega] at this
      rwa [show ((i + 1 : Nat) : Int) = (i : Int) + 1 by omega] at this
theorem col_chk {m : Nat} {x y h : Nat → Int} (hC : Cols m x y h) (hm5 : m ≤ 5) : chk (colL m x y h ++ [qp (colL m x y h) 0]) = 0 := by
  have hm := hC.two
  have hl := colL_len m x y h
  have hlen : (colL m x y h ++ [qp (colL m x y h) 0]).length = 2 * m + 1 := by simp [hl]
  have hq := fun j hj => colA_q (x := x) (y := y) (h := h) hm (j := j) hj
  have kd := fun j (hj : j < 2 * m) => kd_of (x := x) (y := y) (h := h) hm hj
  have sg : ∀ j : Nat, j < 2 * m → Kd m x y h j (qX (colL m x y h ++ [qp (colL m x y h) 0]) (j : Int)) (qY (colL m x y h ++ [qp (colL m x y h) 0]) (j : Int)) (qX (colL m x y h ++ [qp (colL m x y h) 0]) ((j : Int) + 1)) (qY (colL m x y h ++ [qp (colL m x y h) 0]) ((j : Int) + 1)) := fun j hj => by
    have := kd j hj
    rw [show (j : Int) + 1 = ((j + 1 : Nat) : Int) by omega, (hq j (by omega)).1, (hq j (by omega)).2, (hq (j + 1) (by omega)).1, (hq (j + 1) (by omega)).2]
    exact this
  have hcls : cls (colL m x y h ++ [qp (colL m x y h) 0]) = true := by
    unfold cls
    rw [hlen, decide_eq_true (by omega), show ((2 * m + 1 : Nat) : Int) - 1 = ((2 * m : Nat) : Int) by omega, (hq (2 * m) (by omega)).1, (hq (2 * m) (by omega)).2]
    have e := hq 0 (by omega)
    rw [show ((0 : Nat) : Int) = 0 from rfl] at e
    rw [e.1, e.2]
    unfold cpx cpy
    simp [show 0 < m by omega, show ¬ 2 * m < m by omega]
  unfold chk
  have hfin : fin (colL m x y h ++ [qp (colL m x y h) 0]) = true := by
    refine fin_bds fun i h0 h1 => ?_
    rw [hlen] at h1
    have e := hq i.toNat (by omega)
    rw [show (i.toNat : Int) = i by omega] at e
    rw [e.1, e.2]
    unfold cpx cpy
    have b0 := hC.bx 0 (by omega); have b1 := hC.by_ 0 (by omega)
    by_cases g : i.toNat < m
    · rw [if_pos g, if_pos g]; have := hC.bx i.toNat g; have := hC.by_ i.toNat g; omega
    · rw [if_neg g, if_neg g]
      by_cases g2 : i.toNat < 2 * m
      · rw [if_pos g2, if_pos g2]; have := hC.bx (2 * m - 1 - i.toNat) (by omega); have := hC.bh (2 * m - 1 - i.toNat) (by omega); omega
      · rw [if_neg g2, if_neg g2]; omega
  have hall : allI (colL m x y h ++ [qp (colL m x y h) 0]) (((2 * m + 1 : Nat) : Int) - 2) 0 (2 * m) = true := by
    refine allI_of (2 * m) 0 fun j hj => ⟨?_, fun k hk => ?_⟩
    · have := kd_ne hC (sg (0 + j) (by omega))
      rw [Bool.eq_false_iff]; intro t; rw [eqq_iff] at t; exact this t
    · have := kd_pair hC (k := k) (i := 0 + j) hk (by omega) (sg k (by omega)) (sg (0 + j) (by omega))
      unfold mq want
      rw [this, hcls]
      by_cases g1 : k + 1 = 0 + j
      · rw [if_pos g1, show ((k : Int) + 1 == ((0 + j : Nat) : Int)) = true by rw [beq_iff_eq]; omega]; rfl
      · rw [if_neg g1, show ((k : Int) + 1 == ((0 + j : Nat) : Int)) = false by rw [Bool.eq_false_iff]; intro t; rw [beq_iff_eq] at t; omega]
        by_cases g2 : k = 0 ∧ 0 + j = 2 * m - 1
        · rw [if_pos g2, show ((k : Int) == 0) = true by rw [beq_iff_eq]; omega, show (((0 + j : Nat) : Int) == ((2 * m + 1 : Nat) : Int) - 2) = true by rw [beq_iff_eq]; omega]; rfl
        · rw [if_neg g2]
          have : (true && ((k : Int) == 0) && (((0 + j : Nat) : Int) == ((2 * m + 1 : Nat) : Int) - 2)) = false := by
            rw [Bool.eq_false_iff]; intro t
            simp only [Bool.true_and, Bool.and_eq_true, beq_iff_eq] at t
            apply g2; omega
          rw [this]; rfl
  rw [hlen, hfin, show 2 * m + 1 - 1 = 2 * m by omega, hall, decide_eq_false (by omega), decide_eq_false (by omega)]; rfl
theorem made_cols (L : List PV) : Cols (2 + (dr L 0 4).toNat) (mxF (dr L)) (myF (dr L)) (mhF (dr L)) := by
  have h4 := dr_range L 0 (n := 4) (by omega)
  have step : ∀ k, k ≤ 9 → mxF (dr L) k < mxF (dr L) (k + 1) := fun k hk => by
    have h1 := mxF_range L k (by omega)
    have h2 := dr_range L (5 + 3 * k) (n := 4) (by omega)
    simp only [mxF]
    rw [W_id (n := mxF (dr L) k + 1) (by omega) (by omega), W_id (by omega) (by omega)]; omega
  have inc : ∀ v u, u < v → v ≤ 9 → mxF (dr L) u < mxF (dr L) v := fun v => by
    induction v with
    | zero => intro u h; omega
    | succ v ih =>
      intro u hu hv
      rcases Nat.lt_or_ge u v with g | g
      · have := ih u g (by omega); have := step v (by omega); omega
      · obtain rfl : u = v := by omega
        exact step u (by omega)
  refine ⟨by omega, fun u v hu hv => inc v u hu (by omega), fun u hu => ?_, fun u hu => ?_, fun u hu => ?_, fun u hu => ?_⟩
  · have := dr_range L (4 + 3 * u) (n := 7) (by omega); rw [mhF_eq]; omega
  · have := mxF_range L u (by omega); omega
  · have := dr_range L (3 + 3 * u) (n := 9) (by omega); rw [myF_eq]; omega
  · have := dr_range L (3 + 3 * u) (n := 9) (by omega); have := dr_range L (4 + 3 * u) (n := 7) (by omega); rw [mhF_eq, myF_eq]; omega
end Go.Hg
/- Geometry: RingChecks answers true: the end. -/
namespace Go.Hg
open Go.Hx Go.Proofs
def mm (L : List PV) : Nat := 2 + (dr L 0 4).toNat
theorem mcols (L : List PV) : Cols (mm L) (mxF (dr L)) (myF (dr L)) (mhF (dr L)) := made_cols L
abbrev colM (L : List PV) : List PV := colL (mm L) (mxF (dr L)) (myF (dr L)) (mhF (dr L))
theorem madeL_get (L : List PV) (j : Nat) (hj : j < 2 * mm L) : (madeL L).getD j .any = tp (dr L 1 4) (cpx (mm L) (mxF (dr L)) j) (cpy (mm L) (myF (dr L)) (mhF (dr L)) j) := by
  show (mdF (dr L) (mm L)).getD j .any = _
  unfold mdF cpx cpy
  rw [List.getD_eq_getElem?_getD]
  by_cases g : j < mm L
  · rw [List.getElem?_append_left (by simp; exact g), List.getElem?_map, List.getElem?_range g, if_pos g, if_pos g]; rfl
  · rw [List.getElem?_append_right (by simp; omega), List.getElem?_map, List.getElem?_reverse (by simp; omega), if_neg g, if_neg g, if_pos hj, if_pos hj]
    simp only [List.length_map, List.length_range]
    rw [List.getElem?_range (by omega), show mm L - 1 - (j - mm L) = 2 * mm L - 1 - j by omega]; rfl
theorem madeL_len2 (L : List PV) : (madeL L).length = 2 * mm L := by show (mdF (dr L) (mm L)).length = _; unfold mdF; simp; omega
theorem mm_le (L : List PV) : 2 ≤ mm L ∧ mm L ≤ 5 := by unfold mm; have := dr_range L 0 (n := 4) (by omega); omega
theorem cp_bd {m : Nat} {x y h : Nat → Int} (hC : Cols m x y h) {j : Nat} (hj : j < 2 * m) : (-60 ≤ cpx m x j ∧ cpx m x j ≤ 60) ∧ (-60 ≤ cpy m y h j ∧ cpy m y h j ≤ 60) := by
  unfold cpx cpy
  by_cases g : j < m
  · rw [if_pos g, if_pos g]; exact ⟨hC.bx j g, hC.by_ j g⟩
  · rw [if_neg g, if_neg g, if_pos hj, if_pos hj]; exact ⟨hC.bx _ (by omega), hC.bh _ (by omega)⟩
theorem made_img (L : List PV) : Img (colM L) (madeL L) (fun x y => qtx (dr L 1 4) x y) (fun x y => qty (dr L 1 4) x y) := by
  have hC := mcols L
  have ht := dr_range L 1 (n := 4) (by omega)
  have hl : (colM L).length = 2 * mm L := colL_len (mm L) (mxF (dr L)) (myF (dr L)) (mhF (dr L))
  have key : ∀ i, 0 ≤ i → i < ((colM L).length : Int) → (qX (madeL L) i = qtx (dr L 1 4) (qX (colM L) i) (qY (colM L) i)) ∧ (qY (madeL L) i = qty (dr L 1 4) (qX (colM L) i) (qY (colM L) i)) := fun i h0 h1 => by
    have hi : i.toNat < 2 * mm L := by omega
    have b := cp_bd hC hi
    have e := trx_qt (x := cpx (mm L) (mxF (dr L)) i.toNat) (y := cpy (mm L) (myF (dr L)) (mhF (dr L)) i.toNat) (t := dr L 1 4) (by omega) (by omega) ht
    unfold qX qY
    rw [madeL_get L i.toNat hi, colL_get _ _ _ _ i.toNat hi]
    exact e
  exact ⟨by rw [madeL_len2, hl], fun i h0 h1 => (key i h0 h1).1, fun i h0 h1 => (key i h0 h1).2⟩
/-- A made ring is right. -/
theorem made_ok (L : List PV) : rchk (madeL L) = 0 := by
  have hC := mcols L
  have hm := mm_le L
  have hl : (colM L).length = 2 * mm L := colL_len (mm L) (mxF (dr L)) (myF (dr L)) (mhF (dr L))
  have hl2 := madeL_len2 L
  have hI := app_q (made_img L) (by omega)
  have hlA : (colM L ++ [qp (colM L) 0]).length = 2 * mm L + 1 := by simp [hl]
  have bA : ∀ i, 0 ≤ i → i < ((colM L ++ [qp (colM L) 0]).length : Int) → (-60 ≤ qX (colM L ++ [qp (colM L) 0]) i ∧ qX (colM L ++ [qp (colM L) 0]) i ≤ 60) ∧ (-60 ≤ qY (colM L ++ [qp (colM L) 0]) i ∧ qY (colM L ++ [qp (colM L) 0]) i ≤ 60) := fun i h0 h1 => by
    rw [hlA] at h1
    have e := colA_q (x := mxF (dr L)) (y := myF (dr L)) (h := mhF (dr L)) hm.1 (j := i.toNat) (by omega)
    rw [show (i.toNat : Int) = i by omega] at e
    rw [e.1, e.2]
    by_cases g : i.toNat < 2 * mm L
    · exact cp_bd hC g
    · have b := cp_bd hC (j := 0) (by omega)
      unfold cpx cpy at b ⊢
      rw [if_pos (show 0 < mm L by omega), if_pos (show 0 < mm L by omega)] at b
      rw [if_neg (show ¬ i.toNat < mm L by omega), if_neg (show ¬ i.toNat < mm L by omega), if_neg g, if_neg g]
      exact b
  have q1 : ∀ {a b : Int}, -60 ≤ a ∧ a ≤ 60 → -60 ≤ b ∧ b ≤ 60 → (-60 ≤ qtx (dr L 1 4) a b ∧ qtx (dr L 1 4) a b ≤ 60) ∧ (-60 ≤ qty (dr L 1 4) a b ∧ qty (dr L 1 4) a b ≤ 60) := fun {a b} ga gb => by unfold qtx qty; constructor <;> (repeat' split) <;> omega
  have bB : ∀ i, 0 ≤ i → i < ((colM L ++ [qp (colM L) 0]).length : Int) → (-60 ≤ qX (madeL L ++ [qp (madeL L) 0]) i ∧ qX (madeL L ++ [qp (madeL L) 0]) i ≤ 60) ∧ (-60 ≤ qY (madeL L ++ [qp (madeL L) 0]) i ∧ qY (madeL L ++ [qp (madeL L) 0]) i ≤ 60) := fun i h0 h1 => by
    have b := bA i h0 h1
    rw [hI.x i h0 h1, hI.y i h0 h1]
    exact q1 b.1 b.2
  have e := img_chk (qt_keeps (dr L 1 4)) hI (fun i g0 g1 => by have := bA i g0 g1; unfold bd; omega) (fun i g0 g1 => by have := bB i g0 g1; unfold bd; omega)
    (fin_bds fun i g0 g1 => by have := bA i g0 g1; omega) (fin_bds fun i g0 g1 => by have := bB i g0 (by rw [← hI.len]; exact g1); omega)
  unfold rchk
  rw [e, col_chk hC hm.2, decide_eq_false (by omega), decide_eq_false (by omega)]; rfl
theorem frz9_eq {es : List PV} {n : Nat} (h : es.length = n) (k : List PV → Option PV) : frz9 es n k = k es := by
  unfold frz9; rw [h, List.drop_zero, ← h, List.take_length]; simp
theorem tL_eq {es : List PV} (h : es.length ≤ 1000000) (k : Option PV) : tL es k = k := by
  unfold tL; rw [show big es = true by simpa using h]; simp
theorem tS_eq {es : List PV} {n : Nat} (hn : es.length = n) (h : es.length ≤ 1000000) (k : Option PV) : tS es n k = k := by
  unfold tS; rw [frz9_eq hn, frz9_eq hn, frz9_eq hn, frz9_eq hn, show big es = true by simpa using h]; simp
theorem law9 (f g : Bool) (L R : List PV) {wh : Int} (tx ty : Int) (hw : 0 ≤ wh ∧ wh < 256) : Enters Try.prog 9 ∧ PCall Try.prog 9 [.lst f 3 L, .val (.int .u8 wh), ptv tx ty, .lst g 23 R] (bv true) := by
  refine runP_sound ok61 (n := 100) ?_
  have hl := madeL_len L
  have h2 := cut12_len R
  rw [q9]
  unfold all9 end9
  rw [Nat.zero_add, Nat.zero_add, Nat.zero_add]
  have hz : 0 ≤ Int.tmod (W wh) ((madeL L).length : Int) ∧ Int.tmod (W wh) ((madeL L).length : Int) < ((madeL L).length : Int) := by
    rw [W_id (by omega) (by omega)]; exact ⟨Int.tmod_nonneg _ hw.1, Int.tmod_lt_of_pos _ (by omega)⟩
  have hp : ∀ odd : List PV, pC9 (lC9 g R true false (madeL L) (madeL L).length (madeL L).length 0 0 (g && false) (cut12 R) ((cut12 R).length : Int) 0 tx ty false odd true []) = true := fun odd => by simp [pC9]; omega
  rw [decide_eq_true (show (madeL L).length * 16 ≤ 140737488355328 by omega), show (!decide (((madeL L).length : Int) = 0)) = true by rw [decide_eq_false (by omega)]; rfl,
    show (decide (0 ≤ Int.tmod (W wh) ((madeL L).length : Int)) && decide (Int.tmod (W wh) ((madeL L).length : Int) < ((madeL L).length : Int))) = true by rw [Bool.and_eq_true, decide_eq_true_eq, decide_eq_true_eq]; exact hz,
    show ((madeL L).length == (madeL L).length) = true by simp, mn12_ok, hp, show (((cut12 R).length : Int) - 0).toNat = (cut12 R).length by omega,
    decide_eq_true (show (madeL L).length = (madeL L).length from rfl), decide_eq_true (show ((madeL L).length + (madeL L).length) * 16 ≤ 140737488355328 by omega)]
  simp only [cond_true, Bool.and_true]
  rw [tL_eq (by omega), tS_eq (by rw [List.length_set]) (by rw [List.length_set]; omega), tL_eq (by omega), tS_eq (smL_len _ _ _) (by rw [smL_len]; omega), tS_eq (by rw [List.length_append]) (by rw [List.length_append]; omega), made_ok]
  rfl
end Go.Hg
/- Geometry: the frames of the laws: their arguments. -/
namespace Go.Proofs.Ytneklpbkfmljfaa
open Go.ChangeShapes Go.WideShapes Go.ChangeAt Go.RowKit Go.Hx Go.Hg

theorem own : ownKnob Try.prog.godebug = none := by kernel_rfl
theorem laidOut : laidOutB Try.prog = true := by kernel_rfl
theorem wt_nil {ps : List PV} (h : wtcs [] ps = true) : ps = [] := by
  cases ps with
  | nil => rfl
  | cons p ps => simp [wtcs] at h
theorem wtc_int {k : IntKind} {p : PV} (h : wtc (.int k) p = true) : ∃ n, p = .val (.int k n) := by
  cases p with
  | val v => cases v <;> simp_all [wtc]
  | lst f t es => simp_all [wtc]
  | _ => simp [wtc] at h
theorem wt_int {k : IntKind} {ks : List Kind} {ps : List PV} (h : wtcs ((.int k) :: ks) ps = true) : ∃ n qs, ps = .val (.int k n) :: qs ∧ wtcs ks qs = true := by
  cases ps with
  | nil => simp [wtcs] at h
  | cons p ps =>
    simp only [wtcs, Bool.and_eq_true] at h
    obtain ⟨n, rfl⟩ := wtc_int h.1
    exact ⟨n, ps, rfl, h.2⟩
theorem wtc_bool {p : PV} (h : wtc (.bool) p = true) : ∃ b, p = .val (.bool b) := by
  cases p with
  | val v => cases v <;> simp_all [wtc]
  | lst f t es => simp_all [wtc]
  | _ => simp [wtc] at h
theorem wt_bool {ks : List Kind} {ps : List PV} (h : wtcs ((.bool) :: ks) ps = true) : ∃ b qs, ps = .val (.bool b) :: qs ∧ wtcs ks qs = true := by
  cases ps with
  | nil => simp [wtcs] at h
  | cons p ps =>
    simp only [wtcs, Bool.and_eq_true] at h
    obtain ⟨b, rfl⟩ := wtc_bool h.1
    exact ⟨b, ps, rfl, h.2⟩
theorem wtc_str {p : PV} (h : wtc (.str) p = true) : ∃ s, p = .val (.string s) := by
  cases p with
  | val v => cases v <;> simp_all [wtc]
  | lst f t es => simp_all [wtc]
  | _ => simp [wtc] at h
theorem wt_str {ks : List Kind} {ps : List PV} (h : wtcs ((.str) :: ks) ps = true) : ∃ s qs, ps = .val (.string s) :: qs ∧ wtcs ks qs = true := by
  cases ps with
  | nil => simp [wtcs] at h
  | cons p ps =>
    simp only [wtcs, Bool.and_eq_true] at h
    obtain ⟨s, rfl⟩ := wtc_str h.1
    exact ⟨s, ps, rfl, h.2⟩
theorem wtc_sl {e : TypeId} {p : PV} (h : wtc (.sl e) p = true) : ∃ f es, p = .lst f e es := by
  cases p with
  | val v => cases v <;> simp [wtc] at h
  | lst f t es =>
    have : e = t := by simpa [wtc] using h
    subst this
    exact ⟨f, es, rfl⟩
  | _ => simp [wtc] at h
theorem wt_sl {e : TypeId} {ks : List Kind} {ps : List PV} (h : wtcs (.sl e :: ks) ps = true) : ∃ f es qs, ps = .lst f e es :: qs ∧ wtcs ks qs = true := by
  cases ps with
  | nil => simp [wtcs] at h
  | cons p ps =>
    simp only [wtcs, Bool.and_eq_true] at h
    obtain ⟨f, es, rfl⟩ := wtc_sl h.1
    exact ⟨f, es, ps, rfl, h.2⟩
theorem fit_i64 {n : Int} (h : Fit (.val (.int .i64 n))) : -9223372036854775808 ≤ n ∧ n ≤ 9223372036854775807 := by
  cases h with
  | int h => exact bounds_i64 h
theorem fit_u8 {n : Int} (h : Fit (.val (.int .u8 n))) : 0 ≤ n ∧ n ≤ 255 := by
  cases h with
  | int h => exact bounds_u8 h
theorem fit_u16 {n : Int} (h : Fit (.val (.int .u16 n))) : 0 ≤ n ∧ n ≤ 65535 := by
  cases h with
  | int h => exact bounds_u16 h
theorem rv_agg {t : TypeId} {ps : List PV} {W : World} {v : Value} (h : RV Try.prog (Ctx.of W) (mkE Try.prog t ps) v) (ha : isAggT Try.prog t = true) : RV Try.prog (Ctx.of W) (.agg ps) v := by
  unfold mkE at h
  rwa [if_pos ha] at h
theorem rv_one {t : TypeId} {p : PV} {W : World} {v : Value} (h : RV Try.prog (Ctx.of W) (mkE Try.prog t [p]) v) (ha : isAggT Try.prog t = false) : RV Try.prog (Ctx.of W) p v := by
  unfold mkE at h
  rwa [if_neg (by simp [ha])] at h
theorem cs_one {W : World} {p : PV} {v : Value} (h1 : RV Try.prog (Ctx.of W) p v) : Cs Try.prog (Ctx.of W) [p] #[v] := by
  refine ⟨rfl, fun j c x a b => ?_⟩
  match j with
  | 0 => simp at a b; subst a; subst b; exact h1
  | j + 1 => simp at a
theorem cs_four {W : World} {p q s t : PV} {v u x y : Value} (h1 : RV Try.prog (Ctx.of W) p v) (h2 : RV Try.prog (Ctx.of W) q u) (h3 : RV Try.prog (Ctx.of W) s x) (h4 : RV Try.prog (Ctx.of W) t y) : Cs Try.prog (Ctx.of W) [p, q, s, t] #[v, u, x, y] := by
  refine ⟨rfl, fun j c z a b => ?_⟩
  match j with
  | 0 => simp at a b; subst a; subst b; exact h1
  | 1 => simp at a b; subst a; subst b; exact h2
  | 2 => simp at a b; subst a; subst b; exact h3
  | 3 => simp at a b; subst a; subst b; exact h4
  | j + 4 => simp at a
theorem cs_two {W : World} {p q : PV} {v u : Value} (h1 : RV Try.prog (Ctx.of W) p v) (h2 : RV Try.prog (Ctx.of W) q u) : Cs Try.prog (Ctx.of W) [p, q] #[v, u] := by
  refine ⟨rfl, fun j c x a b => ?_⟩
  match j with
  | 0 => simp at a b; subst a; subst b; exact h1
  | 1 => simp at a b; subst a; subst b; exact h2
  | j + 2 => simp at a
theorem cs_three {W : World} {p q s : PV} {v u x : Value} (h1 : RV Try.prog (Ctx.of W) p v) (h2 : RV Try.prog (Ctx.of W) q u) (h3 : RV Try.prog (Ctx.of W) s x) : Cs Try.prog (Ctx.of W) [p, q, s] #[v, u, x] := by
  refine ⟨rfl, fun j c y a b => ?_⟩
  match j with
  | 0 => simp at a b; subst a; subst b; exact h1
  | 1 => simp at a b; subst a; subst b; exact h2
  | 2 => simp at a b; subst a; subst b; exact h3
  | j + 3 => simp at a
end Go.Proofs.Ytneklpbkfmljfaa
