/- Geometry: contracts: Area2 and Inside of rings, both. -/
import Derived.Test.YtneklpbkfmljfaaHgW8
namespace Go.Hg
open Go.Hx Go.Proofs
def nx (es : List PV) (i : Int) : Int := Int.tmod (i + 1) (es.length : Int)
theorem nx_range {es : List PV} {i : Int} (h0 : 0 ≤ i) (h1 : i < (es.length : Int)) : 0 ≤ nx es i ∧ nx es i < (es.length : Int) := by
  unfold nx
  exact ⟨Int.tmod_nonneg _ (by omega), Int.tmod_lt_of_pos _ (by omega)⟩
theorem nx_inr {es : List PV} {i : Int} (h0 : 0 ≤ i) (h1 : i < (es.length : Int)) : inr es (nx es i) = true := by
  have := nx_range h0 h1
  exact inr_of this.1 this.2
theorem nxW_eq {es : List PV} {i : Int} (h0 : 0 ≤ i) (h1 : i < (es.length : Int)) (h : es.length ≤ 1000000) : nxW es i = nx es i := by unfold nxW nx; rw [W_id (by omega) (by omega)]
theorem nz_of {es : List PV} {i : Int} (h0 : 0 ≤ i) (h1 : i < (es.length : Int)) : nz es = true := by unfold nz; simp; intro h; subst h; simp at h1; omega
/-- The sum of the cross products from i on. -/
def arS (es : List PV) (i : Int) : Nat → Int → Int
  | 0, acc => acc
  | n + 1, acc => arS es (i + 1) n (W (acc + crW es i (nx es i)))
def onS (es : List PV) (x y i : Int) : Nat → Bool
  | 0 => false
  | n + 1 => onq es i (nx es i) x y || onS es x y (i + 1) n
def smS (es : List PV) (x y i : Int) : Nat → Int → Int
  | 0, acc => acc
  | n + 1, acc => smS es x y (i + 1) n (W (acc + ryq es i (nx es i) x y))
/-- The sum when a segment's on is met. -/
def smU (es : List PV) (x y i : Int) : Nat → Int → Int
  | 0, acc => acc
  | n + 1, acc => bif onq es i (nx es i) x y then acc else smU es x y (i + 1) n (W (acc + ryq es i (nx es i) x y))

noncomputable def pA : LS → Bool
  | ([.l _ es, .i l, .i i], [.i sum, .l f2 es2, .r r]) => decide (0 ≤ i) && decide (i ≤ (es.length : Int)) && big es && (decide (l = (es.length : Int)) && (same r (lrA .ready) && same es es2))
  | _ => false
noncomputable def fA : LS → DT (PX × List PV × List Row)
  | ([.l _ es, .i l, .i i], [.i sum, .l f2 es2, .r r]) => .leaf (.exit 0, tm 25 [], hA (arS es i ((es.length : Int) - i).toNat sum) f2 es2 r)
  | _ => .no
def mA : LS → Nat
  | ([.l _ es, .i l, .i i], [.i sum, .l f2 es2, .r r]) => ((es.length : Int) - i).toNat
  | _ => 0
theorem sA : ∀ s r, pA s = true → (fA s).run = some r → r.1 ≠ .normal ∧ (runB Try.prog E37 60 145 (lpb Try.f145 1) [0, 1, 5, 6, 7] [] (shA.put s).1 (shA.put s).2 = some r ∨
      ∃ s', runB Try.prog E37 60 145 (lpb Try.f145 1) [0, 1, 5, 6, 7] [] (shA.put s).1 (shA.put s).2 = some (.normal, shA.put s') ∧ pA s' = true ∧ mA s' < mA s ∧ (fA s').run = some r) := by
  intro s r hp hr
  unfold pA at hp; split at hp
  · rename_i f es l i sum f2 es2 r0
    simp only [Bool.and_eq_true, decide_eq_true_eq, same_iff] at hp
    obtain ⟨⟨⟨h1, h2⟩, h3⟩, rfl, rfl, rfl⟩ := hp
    have hr' := (Option.some.inj hr).symm
    refine ⟨by rw [hr']; simp, ?_⟩
    rw [qA]
    have hw := W_id (n := i + 1) (by omega) (by omega)
    by_cases hi : i < (es.length : Int)
    · rw [decide_eq_true hi, cond_true, inr_of h1 hi, nz_of h1 hi, nxW_eq h1 hi h3, nx_inr h1 hi, hw]
      simp only [cond_true]
      obtain ⟨n, hn⟩ : ∃ n, ((es.length : Int) - i).toNat = n + 1 := ⟨((es.length : Int) - i).toNat - 1, by omega⟩
      rw [hn] at hr'
      simp only [arS] at hr'
      refine .inr ⟨lA f es (es.length : Int) (i + 1) (W (sum + crW es i (nx es i))) f2 es (lrA .ready), rfl, by simp [pA, same_self]; omega, by simp only [mA]; omega, ?_⟩
      rw [hr']
      simp only [fA]
      rw [show ((es.length : Int) - (i + 1)).toNat = n by omega]
      rfl
    · rw [decide_eq_false hi]
      rw [show ((es.length : Int) - i).toNat = 0 by omega] at hr'
      exact .inl (by rw [hr']; rfl)
  · cases hp
noncomputable def E37a : EnvK := E37.addW 145 1 [0, 1, 5, 6, 7] [] shA pA fA
theorem ok37a : EnvOK Try.prog E37a.env :=
  ok37.addW (n := 60) Try.func145 (show Try.f145.body = some (bod Try.f145) by kernel_rfl) (show (loops (bod Try.f145)).filter (fun b => rid b == 1) = [lpb Try.f145 1] by kernel_rfl) [0, 1, 5, 6, 7] [] [] shA mA sA
noncomputable def pB : LS → Bool
  | ([.l _ es, .i sum, .i i], []) => decide (0 ≤ i) && decide (i ≤ (es.length : Int)) && big es
  | _ => false
noncomputable def fB : LS → DT (PX × List PV × List Row)
  | ([.l _ es, .i sum, .i i], []) => .leaf (.exit 0, tm 22 [(3, iv (arS es i ((es.length : Int) - i).toNat sum))], [])
  | _ => .no
def mB : LS → Nat
  | ([.l _ es, .i sum, .i i], []) => ((es.length : Int) - i).toNat
  | _ => 0
theorem sB : ∀ s r, pB s = true → (fB s).run = some r → r.1 ≠ .normal ∧ (runB Try.prog E37 60 61 (lpb Try.f61 3) [0, 3, 4] [3] (shB.put s).1 (shB.put s).2 = some r ∨
      ∃ s', runB Try.prog E37 60 61 (lpb Try.f61 3) [0, 3, 4] [3] (shB.put s).1 (shB.put s).2 = some (.normal, shB.put s') ∧ pB s' = true ∧ mB s' < mB s ∧ (fB s').run = some r) := by
  intro s r hp hr
  unfold pB at hp; split at hp
  · rename_i f es sum i
    simp only [Bool.and_eq_true, decide_eq_true_eq, same_iff] at hp
    obtain ⟨⟨h1, h2⟩, h3⟩ := hp
    have hr' := (Option.some.inj hr).symm
    refine ⟨by rw [hr']; simp, ?_⟩
    rw [qB]
    have hw := W_id (n := i + 1) (by omega) (by omega)
    by_cases hi : i < (es.length : Int)
    · rw [decide_eq_true hi, cond_true, inr_of h1 hi, nz_of h1 hi, nxW_eq h1 hi h3, nx_inr h1 hi, hw]
      simp only [cond_true]
      obtain ⟨n, hn⟩ : ∃ n, ((es.length : Int) - i).toNat = n + 1 := ⟨((es.length : Int) - i).toNat - 1, by omega⟩
      rw [hn] at hr'
      simp only [arS] at hr'
      refine .inr ⟨([.l f es, .i (W (sum + crW es i (nx es i))), .i (i + 1)], []), rfl, by simp [pB, same_self]; omega, by simp only [mB]; omega, ?_⟩
      rw [hr']
      simp only [fB]
      rw [show ((es.length : Int) - (i + 1)).toNat = n by omega]
      rfl
    · rw [decide_eq_false hi]
      rw [show ((es.length : Int) - i).toNat = 0 by omega] at hr'
      exact .inl (by rw [hr']; rfl)
  · cases hp
noncomputable def E37b : EnvK := E37.addW 61 3 [0, 3, 4] [] shB pB fB
theorem ok37b : EnvOK Try.prog E37b.env :=
  ok37.addW (n := 60) Try.func61 (show Try.f61.body = some (bod Try.f61) by kernel_rfl) (show (loops (bod Try.f61)).filter (fun b => rid b == 3) = [lpb Try.f61 3] by kernel_rfl) [0, 3, 4] [3] [] shB mB sB
noncomputable def pN : LS → Bool
  | ([.l _ es, .i l, .i i], [.i x, .i y, .i res, .i sum, .l f2 es2, .r r]) => decide (0 ≤ i) && decide (i ≤ (es.length : Int)) && big es && (decide (l = (es.length : Int)) && (same r (lrN .ready) && same es es2))
  | _ => false
noncomputable def fN : LS → DT (PX × List PV × List Row)
  | ([.l _ es, .i l, .i i], [.i x, .i y, .i res, .i sum, .l f2 es2, .r r]) => .br (onS es x y i ((es.length : Int) - i).toNat) (.leaf (.ret, tm 25 [], hN x y 0 (smU es x y i ((es.length : Int) - i).toNat sum) f2 es2 (lrN (.done .ret)))) (.leaf (.exit 0, tm 25 [], hN x y res (smS es x y i ((es.length : Int) - i).toNat sum) f2 es2 r))
  | _ => .no
def mN : LS → Nat
  | ([.l _ es, .i l, .i i], [.i x, .i y, .i res, .i sum, .l f2 es2, .r r]) => ((es.length : Int) - i).toNat
  | _ => 0
theorem sN : ∀ s r, pN s = true → (fN s).run = some r → r.1 ≠ .normal ∧ (runB Try.prog E37 60 145 (lpb Try.f145 1) [0, 1, 5, 6, 7] [] (shN.put s).1 (shN.put s).2 = some r ∨
      ∃ s', runB Try.prog E37 60 145 (lpb Try.f145 1) [0, 1, 5, 6, 7] [] (shN.put s).1 (shN.put s).2 = some (.normal, shN.put s') ∧ pN s' = true ∧ mN s' < mN s ∧ (fN s').run = some r) := by
  intro s r hp hr
  unfold pN at hp; split at hp
  · rename_i f es l i x y res sum f2 es2 r0
    simp only [Bool.and_eq_true, decide_eq_true_eq, same_iff] at hp
    obtain ⟨⟨⟨h1, h2⟩, h3⟩, rfl, rfl, rfl⟩ := hp
    have hr' := run_br2 hr
    refine ⟨by rw [hr']; cases onS es x y i ((es.length : Int) - i).toNat <;> simp, ?_⟩
    rw [qN]
    have hw := W_id (n := i + 1) (by omega) (by omega)
    by_cases hi : i < (es.length : Int)
    · rw [decide_eq_true hi, cond_true, inr_of h1 hi, nz_of h1 hi, nxW_eq h1 hi h3, nx_inr h1 hi, hw]
      simp only [cond_true]
      obtain ⟨n, hn⟩ : ∃ n, ((es.length : Int) - i).toNat = n + 1 := ⟨((es.length : Int) - i).toNat - 1, by omega⟩
      rw [hn] at hr'
      simp only [onS, smS, smU] at hr'
      cases hE : onq es i (nx es i) x y with
      | true => rw [hE] at hr'; exact .inl (by rw [hr']; rfl)
      | false =>
        rw [hE] at hr'
        refine .inr ⟨lN f es (es.length : Int) (i + 1) x y res (W (sum + ryq es i (nx es i) x y)) f2 es (lrN .ready), rfl, by simp [pN, same_self]; omega, by simp only [mN]; omega, ?_⟩
        rw [hr']
        simp only [fN]
        rw [show ((es.length : Int) - (i + 1)).toNat = n by omega]
        simp only [Bool.false_or, cond_false]
        cases onS es x y (i + 1) n <;> rfl
    · rw [decide_eq_false hi]
      rw [show ((es.length : Int) - i).toNat = 0 by omega] at hr'
      exact .inl (by rw [hr']; rfl)
  · cases hp
noncomputable def E37c : EnvK := E37.addW 145 1 [0, 1, 5, 6, 7] [] shN pN fN
theorem ok37c : EnvOK Try.prog E37c.env :=
  ok37.addW (n := 60) Try.func145 (show Try.f145.body = some (bod Try.f145) by kernel_rfl) (show (loops (bod Try.f145)).filter (fun b => rid b == 1) = [lpb Try.f145 1] by kernel_rfl) [0, 1, 5, 6, 7] [] [] shN mN sN
noncomputable def pM : LS → Bool
  | ([.l f es, .i sum, .i i], [.i x, .i y]) => decide (0 ≤ i) && decide (i ≤ (es.length : Int)) && big es
  | _ => false
noncomputable def fM : LS → DT (PX × List PV × List Row)
  | ([.l f es, .i sum, .i i], [.i x, .i y]) => .br (onS es x y i ((es.length : Int) - i).toNat) (.leaf (.ret, tm 40 [(4, iv 0), (5, iv (smU es x y i ((es.length : Int) - i).toNat sum))], (shM.put ([.l f es, .i sum, .i i], [.i x, .i y])).2)) (.leaf (.exit 0, tm 40 [(5, iv (smS es x y i ((es.length : Int) - i).toNat sum))], (shM.put ([.l f es, .i sum, .i i], [.i x, .i y])).2))
  | _ => .no
def mM : LS → Nat
  | ([.l f es, .i sum, .i i], [.i x, .i y]) => ((es.length : Int) - i).toNat
  | _ => 0
theorem sM : ∀ s r, pM s = true → (fM s).run = some r → r.1 ≠ .normal ∧ (runB Try.prog E37 60 63 (lpb Try.f63 5) [0, 3, 5, 6] [4, 5] (shM.put s).1 (shM.put s).2 = some r ∨
      ∃ s', runB Try.prog E37 60 63 (lpb Try.f63 5) [0, 3, 5, 6] [4, 5] (shM.put s).1 (shM.put s).2 = some (.normal, shM.put s') ∧ pM s' = true ∧ mM s' < mM s ∧ (fM s').run = some r) := by
  intro s r hp hr
  unfold pM at hp; split at hp
  · rename_i f es sum i x y
    simp only [Bool.and_eq_true, decide_eq_true_eq, same_iff] at hp
    obtain ⟨⟨h1, h2⟩, h3⟩ := hp
    have hr' := run_br2 hr
    refine ⟨by rw [hr']; cases onS es x y i ((es.length : Int) - i).toNat <;> simp, ?_⟩
    rw [qM]
    have hw := W_id (n := i + 1) (by omega) (by omega)
    by_cases hi : i < (es.length : Int)
    · rw [decide_eq_true hi, cond_true, inr_of h1 hi, nz_of h1 hi, nxW_eq h1 hi h3, nx_inr h1 hi, hw]
      simp only [cond_true]
      obtain ⟨n, hn⟩ : ∃ n, ((es.length : Int) - i).toNat = n + 1 := ⟨((es.length : Int) - i).toNat - 1, by omega⟩
      rw [hn] at hr'
      simp only [onS, smS, smU] at hr'
      cases hE : onq es i (nx es i) x y with
      | true => rw [hE] at hr'; exact .inl (by rw [hr']; rfl)
      | false =>
        rw [hE] at hr'
        refine .inr ⟨([.l f es, .i (W (sum + ryq es i (nx es i) x y)), .i (i + 1)], [.i x, .i y]), rfl, by simp [pM, same_self]; omega, by simp only [mM]; omega, ?_⟩
        rw [hr']
        simp only [fM]
        rw [show ((es.length : Int) - (i + 1)).toNat = n by omega]
        simp only [Bool.false_or, cond_false]
        cases onS es x y (i + 1) n <;> rfl
    · rw [decide_eq_false hi]
      rw [show ((es.length : Int) - i).toNat = 0 by omega] at hr'
      exact .inl (by rw [hr']; rfl)
  · cases hp
noncomputable def E37d : EnvK := E37.addW 63 5 [0, 3, 5, 6] [] shM pM fM
theorem ok37d : EnvOK Try.prog E37d.env :=
  ok37.addW (n := 60) Try.func63 (show Try.f63.body = some (bod Try.f63) by kernel_rfl) (show (loops (bod Try.f63)).filter (fun b => rid b == 5) = [lpb Try.f63 5] by kernel_rfl) [0, 3, 5, 6] [4, 5] [] shM mM sM
def ar2 (es : List PV) : Int := arS es 0 es.length 0
noncomputable def arT (f : Bool) (es : List PV) : Option PV := bif pA (lA f es (es.length : Int) 0 0 f es (lrA .ready)) then some (iv (arS es 0 ((es.length : Int) - 0).toNat 0)) else none
theorem qArea (f : Bool) (es : List PV) : runP Try.prog E37a 60 60 [.lst f 23 es] = arT f es := by kernel_rfl
theorem qRArea (f : Bool) (es : List PV) : runP Try.prog E37b 60 61 [.lst f 23 es] = bif pB ([.l f es, .i 0, .i 0], []) then some (iv (arS es 0 ((es.length : Int) - 0).toNat 0)) else none := by kernel_rfl
theorem qArea' (f : Bool) (es : List PV) (h : big es = true) : runP Try.prog E37a 60 60 [.lst f 23 es] = some (iv (ar2 es)) := by
  rw [qArea]; unfold arT ar2
  rw [show pA (lA f es (es.length : Int) 0 0 f es (lrA .ready)) = true by simp [pA, same_self]; simpa using h, show ((es.length : Int) - 0).toNat = es.length by omega]; rfl
theorem qRArea' (f : Bool) (es : List PV) (h : big es = true) : runP Try.prog E37b 60 61 [.lst f 23 es] = some (iv (ar2 es)) := by
  rw [qRArea]; unfold ar2
  rw [show pB ([.l f es, .i 0, .i 0], []) = true by simp [pB]; simpa using h, show ((es.length : Int) - 0).toNat = es.length by omega]; rfl
def cArea : List PV → Option (DT PV) | [.lst _ 23 es] => some (.br (big es) (.leaf (iv (ar2 es))) .no) | _ => none
theorem eArea : Enters Try.prog 60 := (runP_sound ok37a (qArea' true [] rfl)).1
theorem eRArea : Enters Try.prog 61 := (runP_sound ok37b (qRArea' true [] rfl)).1
theorem oArea (args : List PV) (d : DT PV) (r : PV) (h : cArea args = some d) (hr : d.run = some r) : PCall Try.prog 60 args r := by
  unfold cArea at h; split at h
  · rename_i f es; cases h; obtain ⟨h1, rfl⟩ := run_br hr; exact (runP_sound ok37a (qArea' f es h1)).2
  · cases h
theorem oRArea (args : List PV) (d : DT PV) (r : PV) (h : cArea args = some d) (hr : d.run = some r) : PCall Try.prog 61 args r := by
  unfold cArea at h; split at h
  · rename_i f es; cases h; obtain ⟨h1, rfl⟩ := run_br hr; exact (runP_sound ok37b (qRArea' f es h1)).2
  · cases h
/-- P6.5. -/
def ins (es : List PV) (x y : Int) : Int := bif rchk es != 0 then -1 else bif onS es x y 0 es.length then 0 else bif smS es x y 0 es.length 0 == 0 then -1 else 1
noncomputable def insT (f : Bool) (es : List PV) (x y : Int) : Option PV := bif rchk es != 0 then some (iv (-1)) else bif pN (lN f es (es.length : Int) 0 x y 0 0 f es (lrN .ready)) then
    bif onS es x y 0 ((es.length : Int) - 0).toNat then some (iv 0) else bif smS es x y 0 ((es.length : Int) - 0).toNat 0 == 0 then some (iv (-1)) else some (iv 1) else none
theorem qIns (f : Bool) (es : List PV) (x y : Int) : runP Try.prog E37c 60 62 [.lst f 23 es, ptv x y] = insT f es x y := by kernel_rfl
theorem qRIns (f : Bool) (es : List PV) (x y : Int) : runP Try.prog E37d 60 63 [.lst f 23 es, ptv x y] = bif rchk es != 0 then some (iv (-1)) else bif pM ([.l f es, .i 0, .i 0], [.i x, .i y]) then
    bif onS es x y 0 ((es.length : Int) - 0).toNat then some (iv 0) else bif smS es x y 0 ((es.length : Int) - 0).toNat 0 == 0 then some (iv (-1)) else some (iv 1) else none := by kernel_rfl
theorem qIns' (f : Bool) (es : List PV) (x y : Int) (h : big es = true) : runP Try.prog E37c 60 62 [.lst f 23 es, ptv x y] = some (iv (ins es x y)) := by
  rw [qIns]; unfold insT ins
  rw [show pN (lN f es (es.length : Int) 0 x y 0 0 f es (lrN .ready)) = true by simp [pN, same_self]; simpa using h, show ((es.length : Int) - 0).toNat = es.length by omega]
  cases rchk es != 0 <;> cases onS es x y 0 es.length <;> cases smS es x y 0 es.length 0 == 0 <;> rfl
theorem qRIns' (f : Bool) (es : List PV) (x y : Int) (h : big es = true) : runP Try.prog E37d 60 63 [.lst f 23 es, ptv x y] = some (iv (ins es x y)) := by
  rw [qRIns]; unfold ins
  rw [show pM ([.l f es, .i 0, .i 0], [.i x, .i y]) = true by simp [pM]; simpa using h, show ((es.length : Int) - 0).toNat = es.length by omega]
  cases rchk es != 0 <;> cases onS es x y 0 es.length <;> cases smS es x y 0 es.length 0 == 0 <;> rfl
def cIns : List PV → Option (DT PV) | [.lst _ 23 es, .agg [.val (.int .i64 x), .val (.int .i64 y)]] => some (.br (big es) (.leaf (iv (ins es x y))) .no) | _ => none
theorem eIns : Enters Try.prog 62 := (runP_sound ok37c (qIns' true [] 0 0 rfl)).1
theorem eRIns : Enters Try.prog 63 := (runP_sound ok37d (qRIns' true [] 0 0 rfl)).1
theorem oIns (args : List PV) (d : DT PV) (r : PV) (h : cIns args = some d) (hr : d.run = some r) : PCall Try.prog 62 args r := by
  unfold cIns at h; split at h
  · rename_i f es x y; cases h; obtain ⟨h1, rfl⟩ := run_br hr; exact (runP_sound ok37c (qIns' f es x y h1)).2
  · cases h
theorem oRIns (args : List PV) (d : DT PV) (r : PV) (h : cIns args = some d) (hr : d.run = some r) : PCall Try.prog 63 args r := by
  unfold cIns at h; split at h
  · rename_i f es x y; cases h; obtain ⟨h1, rfl⟩ := run_br hr; exact (runP_sound ok37d (qRIns' f es x y h1)).2
  · cases h
noncomputable def E38 : EnvK := (((E36.addF 60 cArea).addF 61 cArea).addF 62 cIns).addF 63 cIns
theorem ok38 : EnvOK Try.prog E38.env := (((ok36.addF eArea oArea).addF eRArea oRArea).addF eIns oIns).addF eRIns oRIns
end Go.Hg
