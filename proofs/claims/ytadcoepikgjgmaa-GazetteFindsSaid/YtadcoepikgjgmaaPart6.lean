/- Strings (gazette): the reference's put. -/
import Derived.Test.YtadcoepikgjgmaaPart5
import Derived.Test.YtadcoepikgjgmaaRows
import Derived.Test.YtadcoepikgjgmaaPart4
namespace Go.Hs
open Go.Hx Go.Proofs
def shPu : S1 := ⟨33, [(0, .lst 3), (1, I64), (5, I64)], []⟩
abbrev lPu (g : Bool) (l : List PV) (n a : Int) : LS := ([.l g l, .i n, .i a], [])
theorem qPu (g : Bool) (l : List PV) (n a : Int) : runB Try.prog EF4 60 47 (lpb Try.f47 2) [0, 1, 5] [0, 1, 5] (shPu.put (lPu g l n a)).1 (shPu.put (lPu g l n a)).2 =
  bif decide (a > 0) then bif inr l (W (a - 1)) then bif decide (eB l (W (a - 1)) > n) then some (.normal, shPu.put (lPu g l n (W (a - 1)))) else some (.exit 0, shPu.put (lPu g l n a)) else none
  else some (.exit 0, shPu.put (lPu g l n a)) := by kernel_rfl
def atI (n : Int) (l : List PV) : Nat → Nat
  | 0 => 0
  | a + 1 => bif decide (eB l (a : Int) > n) then atI n l a else a + 1
theorem atI_le (n : Int) (l : List PV) : ∀ a, atI n l a ≤ a
  | 0 => Nat.le_refl _
  | a + 1 => by
    rw [atI]
    cases decide (eB l (a : Int) > n) with
    | true => exact Nat.le_succ_of_le (atI_le n l a)
    | false => exact Nat.le_refl _
def pPu : LS → Bool
  | ([.l _ l, .i _, .i a], []) => decide (0 ≤ a ∧ a ≤ (l.length : Int) ∧ l.length ≤ 1000000)
  | _ => false
noncomputable def fPu : LS → DT (PX × List PV × List Row)
  | ([.l g l, .i n, .i a], []) => .leaf (.exit 0, shPu.put (lPu g l n (atI n l a.toNat : Nat)))
  | _ => .no
def mPu : LS → Nat
  | ([.l _ _, .i _, .i a], []) => a.toNat
  | _ => 0
theorem sPu : ∀ s r, pPu s = true → (fPu s).run = some r → r.1 ≠ .normal ∧ (runB Try.prog EF4 60 47 (lpb Try.f47 2) [0, 1, 5] [0, 1, 5] (shPu.put s).1 (shPu.put s).2 = some r ∨
      ∃ s', runB Try.prog EF4 60 47 (lpb Try.f47 2) [0, 1, 5] [0, 1, 5] (shPu.put s).1 (shPu.put s).2 = some (.normal, shPu.put s') ∧ pPu s' = true ∧ mPu s' < mPu s ∧ (fPu s').run = some r) := by
  intro t r hp hr
  unfold pPu at hp; split at hp
  · rename_i g l n a
    simp only [decide_eq_true_eq] at hp
    obtain ⟨h1, h2, h3⟩ := hp
    have hr' := (Option.some.inj hr).symm
    refine ⟨by rw [hr']; simp, ?_⟩
    rw [show shPu.put ([.l g l, .i n, .i a], []) = shPu.put (lPu g l n a) from rfl, qPu]
    by_cases hi : a > 0
    · rw [decide_eq_true hi, cond_true, W_id (by omega) (by omega), inr_of (by omega) (by omega), cond_true]
      obtain ⟨m, hm⟩ : ∃ m, a.toNat = m + 1 := ⟨a.toNat - 1, by omega⟩
      have hm2 : a - 1 = (m : Int) := by omega
      rw [hm] at hr'
      simp only [atI] at hr'
      rw [hm2]
      cases hc : decide (eB l (m : Int) > n) with
      | true =>
        rw [hc] at hr'
        refine .inr ⟨lPu g l n (m : Int), rfl, by simp [pPu]; omega, by simp only [mPu]; omega, ?_⟩
        rw [hr']; rfl
      | false =>
        rw [hc] at hr'
        refine .inl ?_
        rw [hr']
        simp only [cond_false]
        rw [show ((m + 1 : Nat) : Int) = a by omega]
    · rw [decide_eq_false hi]
      rw [show a.toNat = 0 by omega] at hr'
      refine .inl ?_
      rw [hr']
      obtain rfl : a = 0 := by omega
      rfl
  · cases hp
noncomputable def EF5 : EnvK := EF4.addW 47 2 [0, 1, 5] [] shPu pPu fPu
theorem okF5 : EnvOK Try.prog EF5.env :=
  okF4.addW (n := 60) Try.func47 (show Try.f47.body = some (bod Try.f47) by kernel_rfl) (show (loops (bod Try.f47)).filter (fun b => rid b == 2) = [lpb Try.f47 2] by kernel_rfl) [0, 1, 5] [0, 1, 5] [] shPu mPu sPu
theorem qPut (f : Bool) (l : List PV) (n : Int) : runP Try.prog EF5 40 47 [.lst f 3 l, iv n] =
  bif pPu (lPu f l n (l.length : Int)) then insC 8 l (iv n) (atI n l (l.length : Int).toNat : Nat) fun l' => some (.lst false 3 l') else none := by kernel_rfl
def putL (l : List PV) (n : Int) : List PV := insX l (iv n) (atI n l l.length)
theorem putL_len (l : List PV) (n : Int) : (putL l n).length = l.length + 1 := insX_len (atI_le _ _ _)
theorem qPut' (f : Bool) (l : List PV) (n : Int) (h : big l = true) : runP Try.prog EF5 40 47 [.lst f 3 l, iv n] = some (.lst false 3 (putL l n)) := by
  have h' : l.length ≤ 1000000 := of_decide_eq_true h
  rw [qPut, show pPu (lPu f l n (l.length : Int)) = true by simp [pPu]; omega, cond_true, Int.toNat_natCast, insC_of (atI_le _ _ _) (by show _ ≤ 140737488355328; omega)]
  rfl
def cPut : List PV → Option (DT PV)
  | [.lst _ 3 l, .val (.int .i64 n)] => some (.br (big l) (.leaf (.lst false 3 (putL l n))) .no)
  | _ => none
theorem ePut : Hx.Enters Try.prog 47 := (runP_sound okF5 (qPut' true [] 0 rfl)).1
theorem oPut (args : List PV) (d : DT PV) (r : PV) (h : cPut args = some d) (hr : d.run = some r) : PCall Try.prog 47 args r := by
  unfold cPut at h; split at h
  · rename_i f l n; cases h; obtain ⟨h1, rfl⟩ := run_br1 hr; exact (runP_sound okF5 (qPut' f l n h1)).2
  · cases h
noncomputable def EF6 : EnvK := EF5.addF 47 cPut
theorem okF6 : EnvOK Try.prog EF6.env := okF5.addF ePut oPut
theorem pcall_nil {P : Program} {k : FuncId} {args : List PV} (t : TypeId) (h : PCall P k args (.val (.slice none 0 0))) : PCall P k args (.lst false t []) := by
  intro C hR Vs hv
  refine (h C hR Vs hv).mono ?_
  rintro e w' ⟨V, rfl, hs, h1⟩
  refine ⟨V, rfl, hs, ?_⟩
  cases h1
  exact .lst 0 0 (fun _ _ => undef) (Nat.le_refl _) (fun h => by cases h) (fun h => by simp at h) (fun x e j p h1 _ => by simp at h1) (fun x e j p h1 _ => by simp at h1) (fun e h1 => by cases h1)
/-- The Ids of those with a name (its cell is c), put in order. -/
def putN (c : Nat) (s : ByteArray) (out : List PV) (x : PV) : List PV := bif isN c s x then putL out (idN x) else out
theorem putN_len (c : Nat) (s : ByteArray) (out : List PV) (x : PV) : (putN c s out x).length ≤ out.length + 1 := by
  unfold putN
  cases isN c s x with
  | true => rw [cond_true, putL_len]; exact Nat.le_refl _
  | false => simp
end Go.Hs
/- Strings (gazette): the reference's Named: its loops. -/
namespace Go.Hs
open Go.Hx Go.Proofs
def shRa : S1 := ⟨82, [(1, .str), (2, .ptr 3 1 0 0), (5, .lst 3), (6, I64)], [.many 38 5, .many 41 8, .many 36 7, .onef 32 4 (.agg [.nil, .sl 0, .sl 1, .sl 2])]⟩
abbrev lRa (s : ByteArray) (g : Bool) (out : List PV) (k : Int) (a b c d e f : Nat) (z1 : Bool) (F : List PV) (z2 : Bool) (Y : List PV) (z3 : Bool) (Q : List PV) : LS := ([.s s, .l g out, .i k], [.l z1 F, .l z2 Y, .l z3 Q, .n a, .n b, .n c, .n d, .n e, .n f])
noncomputable abbrev xRa (s : ByteArray) (g : Bool) (out : List PV) (a b c d e f : Nat) (z1 : Bool) (F : List PV) (z2 : Bool) (Y : List PV) (z3 : Bool) (Q : List PV) : PX × List PV × List Row := (.exit 0, tm 82 [(1, sv s), (2, .ptr 3 1 0 0), (5, .lst g 3 out)], (shRa.put (lRa s g out 0 a b c d e f z1 F z2 Y z3 Q)).2)
theorem qRa (s : ByteArray) (g : Bool) (out : List PV) (k : Int) (a b c d e f : Nat) (z1 : Bool) (F : List PV) (z2 : Bool) (Y : List PV) (z3 : Bool) (Q : List PV) : runBr Try.prog EF6 60 3 24 (lpb Try.f24 5) [1, 2, 5, 6] [1, 2, 5] (shRa.put (lRa s g out k a b c d e f z1 F z2 Y z3 Q)).1 (shRa.put (lRa s g out k a b c d e f z1 F z2 Y z3 Q)).2 =
  bif decide (k < (b : Int)) then ixR F a b k (ldR F a (ldR F a (bif isN 2 s (rE F k) then ixR F a b k (ldR F a (ldR F a (bif big out then some (.normal, shRa.put (lRa s false (putL out (idN (rE F k))) (W (k + 1)) a b c d e f z1 F z2 Y z3 Q)) else none)))
    else some (.normal, shRa.put (lRa s g out (W (k + 1)) a b c d e f z1 F z2 Y z3 Q))))) else some (xRa s g out a b c d e f z1 F z2 Y z3 Q) := by kernel_rfl
def pRa : LS → Bool
  | ([.s _, .l false out, .i k], [.l _ F, .l _ _, .l _ _, .n a, .n b, .n _, .n _, .n _, .n _]) => decide (a = F.length ∧ b = F.length ∧ 0 ≤ k ∧ k ≤ (F.length : Int) ∧ F.length ≤ 100000 ∧ (out.length : Int) + ((F.length : Int) - k) ≤ 1000000)
  | _ => false
noncomputable def fRa : LS → DT (PX × List PV × List Row)
  | ([.s s, .l false out, .i k], [.l z1 F, .l z2 Y, .l z3 Q, .n a, .n b, .n c, .n d, .n e, .n f]) => .leaf (xRa s false ((F.drop k.toNat).foldl (putN 2 s) out) a b c d e f z1 F z2 Y z3 Q)
  | _ => .no
def mRa : LS → Nat
  | ([.s _, .l false _, .i k], [.l _ F, .l _ _, .l _ _, .n _, .n _, .n _, .n _, .n _, .n _]) => ((F.length : Int) - k).toNat
  | _ => 0
theorem sRa : ∀ s r, pRa s = true → (fRa s).run = some r → r.1 ≠ .normal ∧ (runBr Try.prog EF6 60 3 24 (lpb Try.f24 5) [1, 2, 5, 6] [1, 2, 5] (shRa.put s).1 (shRa.put s).2 = some r ∨
      ∃ s', runBr Try.prog EF6 60 3 24 (lpb Try.f24 5) [1, 2, 5, 6] [1, 2, 5] (shRa.put s).1 (shRa.put s).2 = some (.normal, shRa.put s') ∧ pRa s' = true ∧ mRa s' < mRa s ∧ (fRa s').run = some r) := by
  intro t r hp hr
  unfold pRa at hp; split at hp
  · rename_i s out k z1 F z2 Y z3 Q a b c d e f
    simp only [decide_eq_true_eq] at hp
    obtain ⟨rfl, rfl, h1, h2, h3, h4⟩ := hp
    have hr' := (Option.some.inj hr).symm
    refine ⟨by rw [hr']; simp, ?_⟩
    rw [show shRa.put ([.s s, .l false out, .i k], [.l z1 F, .l z2 Y, .l z3 Q, .n F.length, .n F.length, .n c, .n d, .n e, .n f]) = shRa.put (lRa s false out k F.length F.length c d e f z1 F z2 Y z3 Q) from rfl, qRa]
    by_cases hi : k < (F.length : Int)
    · obtain ⟨g1, g2⟩ := rE_of h1 hi
      have hd : F.drop k.toNat = rE F k :: F.drop (k + 1).toNat := by
        rw [g2, List.drop_eq_getElem_cons g1, show (k + 1).toNat = k.toNat + 1 by omega]
      rw [hd, List.foldl_cons] at hr'
      have hl := putN_len 2 s out (rE F k)
      have i1 : ∀ {α : Type} (k0 : Option α), ixR F F.length F.length k k0 = k0 := fun k0 => ixR_of rfl h1 hi
      have i2 : ∀ {α : Type} (k0 : Option α), ldR F F.length k0 = k0 := fun k0 => ldR_of rfl
      simp only [i1, i2]
      rw [decide_eq_true hi, cond_true, show big out = true from decide_eq_true (by omega), cond_true, W_id (by omega) (by omega)]
      refine .inr ⟨lRa s false (putN 2 s out (rE F k)) (k + 1) F.length F.length c d e f z1 F z2 Y z3 Q, ?_, by simp only [pRa, decide_eq_true_eq]; exact ⟨trivial, trivial, by omega, by omega, by omega, by omega⟩, by simp only [mRa]; omega, ?_⟩
      · unfold putN; cases isN 2 s (rE F k) <;> rfl
      · rw [hr']; rfl
    · rw [decide_eq_false hi]
      rw [List.drop_of_length_le (by omega)] at hr'
      exact .inl (by rw [hr']; rfl)
  · cases hp
noncomputable def EF7 : EnvK := EF6.addWr 3 24 5 [1, 2, 5, 6] shRa pRa fRa
theorem okF7 : EnvOK Try.prog EF7.env :=
  okF6.addWr (n := 60) (q := 3) Try.func24 (show Try.f24.body = some (bod Try.f24) by kernel_rfl) (show (loops (bod Try.f24)).filter (fun b => rid b == 5) = [lpb Try.f24 5] by kernel_rfl) [1, 2, 5, 6] [1, 2, 5] shRa mRa sRa
def shRb : S1 := ⟨82, [(1, .str), (2, .ptr 3 1 0 0), (5, .lst 3), (7, I64)], [.many 38 5, .many 41 8, .many 36 7, .onef 32 4 (.agg [.nil, .sl 0, .sl 1, .sl 2])]⟩
abbrev lRb (s : ByteArray) (g : Bool) (out : List PV) (k : Int) (a b c d e f : Nat) (z1 : Bool) (F : List PV) (z2 : Bool) (Y : List PV) (z3 : Bool) (Q : List PV) : LS := ([.s s, .l g out, .i k], [.l z1 F, .l z2 Y, .l z3 Q, .n a, .n b, .n c, .n d, .n e, .n f])
noncomputable abbrev xRb (s : ByteArray) (g : Bool) (out : List PV) (a b c d e f : Nat) (z1 : Bool) (F : List PV) (z2 : Bool) (Y : List PV) (z3 : Bool) (Q : List PV) : PX × List PV × List Row := (.exit 2, tm 82 [(1, sv s), (2, .ptr 3 1 0 0), (5, .lst g 3 out)], (shRb.put (lRb s g out 0 a b c d e f z1 F z2 Y z3 Q)).2)
theorem qRb (s : ByteArray) (g : Bool) (out : List PV) (k : Int) (a b c d e f : Nat) (z1 : Bool) (F : List PV) (z2 : Bool) (Y : List PV) (z3 : Bool) (Q : List PV) : runBr Try.prog EF7 60 3 24 (lpb Try.f24 10) [1, 2, 5, 7] [1, 2, 5] (shRb.put (lRb s g out k a b c d e f z1 F z2 Y z3 Q)).1 (shRb.put (lRb s g out k a b c d e f z1 F z2 Y z3 Q)).2 =
  bif decide (k < (d : Int)) then ixR Y c d k (ldR Y c (ldR Y c (bif isN 4 s (rE Y k) then ixR Y c d k (ldR Y c (ldR Y c (bif big out then some (.normal, shRb.put (lRb s false (putL out (idN (rE Y k))) (W (k + 1)) a b c d e f z1 F z2 Y z3 Q)) else none)))
    else some (.normal, shRb.put (lRb s g out (W (k + 1)) a b c d e f z1 F z2 Y z3 Q))))) else some (xRb s g out a b c d e f z1 F z2 Y z3 Q) := by kernel_rfl
def pRb : LS → Bool
  | ([.s _, .l false out, .i k], [.l _ _, .l _ Y, .l _ _, .n _, .n _, .n c, .n d, .n _, .n _]) => decide (c = Y.length ∧ d = Y.length ∧ 0 ≤ k ∧ k ≤ (Y.length : Int) ∧ Y.length ≤ 100000 ∧ (out.length : Int) + ((Y.length : Int) - k) ≤ 1000000)
  | _ => false
noncomputable def fRb : LS → DT (PX × List PV × List Row)
  | ([.s s, .l false out, .i k], [.l z1 F, .l z2 Y, .l z3 Q, .n a, .n b, .n c, .n d, .n e, .n f]) => .leaf (xRb s false ((Y.drop k.toNat).foldl (putN 4 s) out) a b c d e f z1 F z2 Y z3 Q)
  | _ => .no
def mRb : LS → Nat
  | ([.s _, .l false _, .i k], [.l _ _, .l _ Y, .l _ _, .n _, .n _, .n _, .n _, .n _, .n _]) => ((Y.length : Int) - k).toNat
  | _ => 0
theorem sRb : ∀ s r, pRb s = true → (fRb s).run = some r → r.1 ≠ .normal ∧ (runBr Try.prog EF7 60 3 24 (lpb Try.f24 10) [1, 2, 5, 7] [1, 2, 5] (shRb.put s).1 (shRb.put s).2 = some r ∨
      ∃ s', runBr Try.prog EF7 60 3 24 (lpb Try.f24 10) [1, 2, 5, 7] [1, 2, 5] (shRb.put s).1 (shRb.put s).2 = some (.normal, shRb.put s') ∧ pRb s' = true ∧ mRb s' < mRb s ∧ (fRb s').run = some r) := by
  intro t r hp hr
  unfold pRb at hp; split at hp
  · rename_i s out k z1 F z2 Y z3 Q a b c d e f
    simp only [decide_eq_true_eq] at hp
    obtain ⟨rfl, rfl, h1, h2, h3, h4⟩ := hp
    have hr' := (Option.some.inj hr).symm
    refine ⟨by rw [hr']; simp, ?_⟩
    rw [show shRb.put ([.s s, .l false out, .i k], [.l z1 F, .l z2 Y, .l z3 Q, .n a, .n b, .n Y.length, .n Y.length, .n e, .n f]) = shRb.put (lRb s false out k a b Y.length Y.length e f z1 F z2 Y z3 Q) from rfl, qRb]
    by_cases hi : k < (Y.length : Int)
    · obtain ⟨g1, g2⟩ := rE_of h1 hi
      have hd : Y.drop k.toNat = rE Y k :: Y.drop (k + 1).toNat := by
        rw [g2, List.drop_eq_getElem_cons g1, show (k + 1).toNat = k.toNat + 1 by omega]
      rw [hd, List.foldl_cons] at hr'
      have hl := putN_len 4 s out (rE Y k)
      have i1 : ∀ {α : Type} (k0 : Option α), ixR Y Y.length Y.length k k0 = k0 := fun k0 => ixR_of rfl h1 hi
      have i2 : ∀ {α : Type} (k0 : Option α), ldR Y Y.length k0 = k0 := fun k0 => ldR_of rfl
      simp only [i1, i2]
      rw [decide_eq_true hi, cond_true, show big out = true from decide_eq_true (by omega), cond_true, W_id (by omega) (by omega)]
      refine .inr ⟨lRb s false (putN 4 s out (rE Y k)) (k + 1) a b Y.length Y.length e f z1 F z2 Y z3 Q, ?_, by simp only [pRb, decide_eq_true_eq]; exact ⟨trivial, trivial, by omega, by omega, by omega, by omega⟩, by simp only [mRb]; omega, ?_⟩
      · unfold putN; cases isN 4 s (rE Y k) <;> rfl
      · rw [hr']; rfl
    · rw [decide_eq_false hi]
      rw [List.drop_of_length_le (by omega)] at hr'
      exact .inl (by rw [hr']; rfl)
  · cases hp
noncomputable def EF8 : EnvK := EF7.addWr 3 24 10 [1, 2, 5, 7] shRb pRb fRb
theorem okF8 : EnvOK Try.prog EF8.env :=
  okF7.addWr (n := 60) (q := 3) Try.func24 (show Try.f24.body = some (bod Try.f24) by kernel_rfl) (show (loops (bod Try.f24)).filter (fun b => rid b == 10) = [lpb Try.f24 10] by kernel_rfl) [1, 2, 5, 7] [1, 2, 5] shRb mRb sRb
def shRc : S1 := ⟨82, [(1, .str), (2, .ptr 3 1 0 0), (5, .lst 3), (8, I64)], [.many 38 5, .many 41 8, .many 36 7, .onef 32 4 (.agg [.nil, .sl 0, .sl 1, .sl 2])]⟩
abbrev lRc (s : ByteArray) (g : Bool) (out : List PV) (k : Int) (a b c d e f : Nat) (z1 : Bool) (F : List PV) (z2 : Bool) (Y : List PV) (z3 : Bool) (Q : List PV) : LS := ([.s s, .l g out, .i k], [.l z1 F, .l z2 Y, .l z3 Q, .n a, .n b, .n c, .n d, .n e, .n f])
noncomputable abbrev xRc (s : ByteArray) (g : Bool) (out : List PV) (a b c d e f : Nat) (z1 : Bool) (F : List PV) (z2 : Bool) (Y : List PV) (z3 : Bool) (Q : List PV) : PX × List PV × List Row := (.exit 4, tm 82 [(1, sv s), (2, .ptr 3 1 0 0), (5, .lst g 3 out)], (shRc.put (lRc s g out 0 a b c d e f z1 F z2 Y z3 Q)).2)
theorem qRc (s : ByteArray) (g : Bool) (out : List PV) (k : Int) (a b c d e f : Nat) (z1 : Bool) (F : List PV) (z2 : Bool) (Y : List PV) (z3 : Bool) (Q : List PV) : runBr Try.prog EF8 60 3 24 (lpb Try.f24 15) [1, 2, 5, 8] [1, 2, 5] (shRc.put (lRc s g out k a b c d e f z1 F z2 Y z3 Q)).1 (shRc.put (lRc s g out k a b c d e f z1 F z2 Y z3 Q)).2 =
  bif decide (k < (f : Int)) then ixR Q e f k (ldR Q e (ldR Q e (bif isN 4 s (rE Q k) then ixR Q e f k (ldR Q e (ldR Q e (bif big out then some (.normal, shRc.put (lRc s false (putL out (idN (rE Q k))) (W (k + 1)) a b c d e f z1 F z2 Y z3 Q)) else none)))
    else some (.normal, shRc.put (lRc s g out (W (k + 1)) a b c d e f z1 F z2 Y z3 Q))))) else some (xRc s g out a b c d e f z1 F z2 Y z3 Q) := by kernel_rfl
def pRc : LS → Bool
  | ([.s _, .l false out, .i k], [.l _ _, .l _ _, .l _ Q, .n _, .n _, .n _, .n _, .n e, .n f]) => decide (e = Q.length ∧ f = Q.length ∧ 0 ≤ k ∧ k ≤ (Q.length : Int) ∧ Q.length ≤ 100000 ∧ (out.length : Int) + ((Q.length : Int) - k) ≤ 1000000)
  | _ => false
noncomputable def fRc : LS → DT (PX × List PV × List Row)
  | ([.s s, .l false out, .i k], [.l z1 F, .l z2 Y, .l z3 Q, .n a, .n b, .n c, .n d, .n e, .n f]) => .leaf (xRc s false ((Q.drop k.toNat).foldl (putN 4 s) out) a b c d e f z1 F z2 Y z3 Q)
  | _ => .no
def mRc : LS → Nat
  | ([.s _, .l false _, .i k], [.l _ _, .l _ _, .l _ Q, .n _, .n _, .n _, .n _, .n _, .n _]) => ((Q.length : Int) - k).toNat
  | _ => 0
theorem sRc : ∀ s r, pRc s = true → (fRc s).run = some r → r.1 ≠ .normal ∧ (runBr Try.prog EF8 60 3 24 (lpb Try.f24 15) [1, 2, 5, 8] [1, 2, 5] (shRc.put s).1 (shRc.put s).2 = some r ∨
      ∃ s', runBr Try.prog EF8 60 3 24 (lpb Try.f24 15) [1, 2, 5, 8] [1, 2, 5] (shRc.put s).1 (shRc.put s).2 = some (.normal, shRc.put s') ∧ pRc s' = true ∧ mRc s' < mRc s ∧ (fRc s').run = some r) := by
  intro t r hp hr
  unfold pRc at hp; split at hp
  · rename_i s out k z1 F z2 Y z3 Q a b c d e f
    simp only [decide_eq_true_eq] at hp
    obtain ⟨rfl, rfl, h1, h2, h3, h4⟩ := hp
    have hr' := (Option.some.inj hr).symm
    refine ⟨by rw [hr']; simp, ?_⟩
    rw [show shRc.put ([.s s, .l false out, .i k], [.l z1 F, .l z2 Y, .l z3 Q, .n a, .n b, .n c, .n d, .n Q.length, .n Q.length]) = shRc.put (lRc s false out k a b c d Q.length Q.length z1 F z2 Y z3 Q) from rfl, qRc]
    by_cases hi : k < (Q.length : Int)
    · obtain ⟨g1, g2⟩ := rE_of h1 hi
      have hd : Q.drop k.toNat = rE Q k :: Q.drop (k + 1).toNat := by
        rw [g2, List.drop_eq_getElem_cons g1, show (k + 1).toNat = k.toNat + 1 by omega]
      rw [hd, List.foldl_cons] at hr'
      have hl := putN_len 4 s out (rE Q k)
      have i1 : ∀ {α : Type} (k0 : Option α), ixR Q Q.length Q.length k k0 = k0 := fun k0 => ixR_of rfl h1 hi
      have i2 : ∀ {α : Type} (k0 : Option α), ldR Q Q.length k0 = k0 := fun k0 => ldR_of rfl
      simp only [i1, i2]
      rw [decide_eq_true hi, cond_true, show big out = true from decide_eq_true (by omega), cond_true, W_id (by omega) (by omega)]
      refine .inr ⟨lRc s false (putN 4 s out (rE Q k)) (k + 1) a b c d Q.length Q.length z1 F z2 Y z3 Q, ?_, by simp only [pRc, decide_eq_true_eq]; exact ⟨trivial, trivial, by omega, by omega, by omega, by omega⟩, by simp only [mRc]; omega, ?_⟩
      · unfold putN; cases isN 4 s (rE Q k) <;> rfl
      · rw [hr']; rfl
    · rw [decide_eq_false hi]
      rw [List.drop_of_length_le (by omega)] at hr'
      exact .inl (by rw [hr']; rfl)
  · cases hp
noncomputable def EF9 : EnvK := EF8.addWr 3 24 15 [1, 2, 5, 8] shRc pRc fRc
theorem okF9 : EnvOK Try.prog EF9.env :=
  okF8.addWr (n := 60) (q := 3) Try.func24 (show Try.f24.body = some (bod Try.f24) by kernel_rfl) (show (loops (bod Try.f24)).filter (fun b => rid b == 15) = [lpb Try.f24 15] by kernel_rfl) [1, 2, 5, 8] [1, 2, 5] shRc mRc sRc
end Go.Hs
/- Strings (gazette): GazetteNamed: the loop that makes the map. -/
namespace Go.Hs
open Go.Hx Go.Proofs
abbrev em : ByteArray := ByteArray.mk #[]
def mkF (k : Int) (s : ByteArray) : PV := .agg [iv k, sv em, sv s, iv 0, iv 0]
def mkY (k : Int) (s : ByteArray) : PV := .agg [iv k, .lst true 34 [], iv 0, sv em, sv s, bv false, iv 0, iv 0]
def roomB (es : List PV) (n l b : Nat) : Bool := decide (es.length = n) && decide (n = l) && decide ((n + 1) * b ≤ 140737488355328)
abbrev lL6 (n l : Nat) (ok : Bool) (nn ln : Nat) (m q : Nat) (len k : Int) (z : Bool) (es : List PV) (a b c d e f : Nat) (b1 : Bool) (nm : List PV) (b2 : Bool) (F : List PV) (b3 : Bool) (Y : List PV) (b4 : Bool) (Q : List PV) : LS :=
  ([.n n, .n l, .b ok, .n nn, .n ln, .n m, .n q, .i len, .i k], [.l z es, .n a, .n b, .n c, .n d, .n e, .n f, .l b1 nm, .l b2 F, .l b3 Y, .l b4 Q])
noncomputable abbrev xL6 (n l : Nat) (ok : Bool) (nn ln : Nat) (z : Bool) (es : List PV) (a b c d e f : Nat) (b1 : Bool) (nm : List PV) (b2 : Bool) (F : List PV) (b3 : Bool) (Y : List PV) (b4 : Bool) (Q : List PV) : PX × List PV × List Row :=
  (.exit 0, tm 101 [(0, .sl 0 n 0 l), (5, bv ok), (6, .ptr 1 1 0 0), (7, .sl 2 nn 0 ln)], (shL6.put (lL6 0 0 ok 0 0 0 0 0 0 z es a b c d e f b1 nm b2 F b3 Y b4 Q)).2)
theorem qL6 (n l : Nat) (ok : Bool) (nn ln : Nat) (m q : Nat) (len k : Int) (z : Bool) (es : List PV) (a b c d e f : Nat) (b1 : Bool) (nm : List PV) (b2 : Bool) (F : List PV) (b3 : Bool) (Y : List PV) (b4 : Bool) (Q : List PV) :
  runB Try.prog EL0 60 8 (lpb Try.f8 6) [0, 5, 6, 7, 21, 22, 23] [0, 5, 6, 7] (shL6.put (lL6 n l ok nn ln m q len k z es a b c d e f b1 nm b2 F b3 Y b4 Q)).1 (shL6.put (lL6 n l ok nn ln m q len k z es a b c d e f b1 nm b2 F b3 Y b4 Q)).2 =
  bif decide (k < len) then ixR es m q k (ldR es m (bif roomB nm nn ln 16 then
    (bif k.tmod 3 == 0 then (bif roomB Y c d 96 then some (.normal, shL6.put (lL6 n l ok (nn + 1) (nn + 1) m q len (W (k + 1)) z es a b (c + 1) (c + 1) e f (b1 && false) (nm ++ [sv (pNm (rE es k))]) b2 F (b3 && false) (Y ++ [mkY k (pNm (rE es k))]) b4 Q)) else none)
    else (bif k.tmod 3 == 1 then (bif roomB F a b 56 then some (.normal, shL6.put (lL6 n l ok (nn + 1) (nn + 1) m q len (W (k + 1)) z es (a + 1) (a + 1) c d e f (b1 && false) (nm ++ [sv (pNm (rE es k))]) (b2 && false) (F ++ [mkF k (pNm (rE es k))]) b3 Y b4 Q)) else none)
    else (bif roomB Q e f 72 then some (.normal, shL6.put (lL6 n l ok (nn + 1) (nn + 1) m q len (W (k + 1)) z es a b c d (e + 1) (e + 1) (b1 && false) (nm ++ [sv (pNm (rE es k))]) b2 F b3 Y (b4 && false) (Q ++ [pl k 0 0 em (pNm (rE es k)) 0 0]))) else none))) else none))
  else some (xL6 n l ok nn ln z es a b c d e f b1 nm b2 F b3 Y b4 Q) := by kernel_rfl
end Go.Hs
/- Strings (gazette): GazetteNamed: the loop that makes the map, as a contract. -/
namespace Go.Hs
open Go.Hx Go.Proofs
def nmL (es : List PV) (k : Int) : Nat → List PV
  | 0 => []
  | m + 1 => sv (pNm (rE es k)) :: nmL es (k + 1) m
def yL (es : List PV) (k : Int) : Nat → List PV
  | 0 => []
  | m + 1 => bif k.tmod 3 == 0 then mkY k (pNm (rE es k)) :: yL es (k + 1) m else yL es (k + 1) m
def fL (es : List PV) (k : Int) : Nat → List PV
  | 0 => []
  | m + 1 => bif k.tmod 3 == 0 then fL es (k + 1) m else bif k.tmod 3 == 1 then mkF k (pNm (rE es k)) :: fL es (k + 1) m else fL es (k + 1) m
def qL (es : List PV) (k : Int) : Nat → List PV
  | 0 => []
  | m + 1 => bif k.tmod 3 == 0 then qL es (k + 1) m else bif k.tmod 3 == 1 then qL es (k + 1) m else pl k 0 0 em (pNm (rE es k)) 0 0 :: qL es (k + 1) m
def pL6 : LS → Bool
  | ([.n _, .n _, .b _, .n nn, .n ln, .n m, .n q, .i len, .i k], [.l _ es, .n a, .n b, .n c, .n d, .n e, .n f, .l _ nm, .l _ F, .l _ Y, .l _ Q]) =>
    decide (nn = nm.length ∧ ln = nm.length ∧ m = es.length ∧ q = es.length ∧ len = (es.length : Int) ∧ a = F.length ∧ b = F.length ∧ c = Y.length ∧ d = Y.length ∧ e = Q.length ∧ f = Q.length) && decide (0 ≤ k ∧ k ≤ len ∧ es.length ≤ 1000 ∧ (nm.length : Int) + (len - k) ≤ 100000 ∧ (F.length : Int) + (len - k) ≤ 100000 ∧ (Y.length : Int) + (len - k) ≤ 100000 ∧ (Q.length : Int) + (len - k) ≤ 100000)
  | _ => false
noncomputable def fL6 : LS → DT (PX × List PV × List Row)
  | ([.n n, .n l, .b ok, .n _, .n _, .n _, .n _, .i len, .i k], [.l z es, .n _, .n _, .n _, .n _, .n _, .n _, .l b1 nm, .l b2 F, .l b3 Y, .l b4 Q]) =>
    .leaf (xL6 n l ok (nm ++ nmL es k (len - k).toNat).length (nm ++ nmL es k (len - k).toNat).length z es (F ++ fL es k (len - k).toNat).length (F ++ fL es k (len - k).toNat).length (Y ++ yL es k (len - k).toNat).length (Y ++ yL es k (len - k).toNat).length (Q ++ qL es k (len - k).toNat).length (Q ++ qL es k (len - k).toNat).length
      (b1 && (nmL es k (len - k).toNat).isEmpty) (nm ++ nmL es k (len - k).toNat) (b2 && (fL es k (len - k).toNat).isEmpty) (F ++ fL es k (len - k).toNat) (b3 && (yL es k (len - k).toNat).isEmpty) (Y ++ yL es k (len - k).toNat) (b4 && (qL es k (len - k).toNat).isEmpty) (Q ++ qL es k (len - k).toNat))
  | _ => .no
def mL6 : LS → Nat
  | ([.n _, .n _, .b _, .n _, .n _, .n _, .n _, .i len, .i k], [.l _ _, .n _, .n _, .n _, .n _, .n _, .n _, .l _ _, .l _ _, .l _ _, .l _ _]) => (len - k).toNat
  | _ => 0
theorem sL6 : ∀ s r, pL6 s = true → (fL6 s).run = some r → r.1 ≠ .normal ∧ (runB Try.prog EL0 60 8 (lpb Try.f8 6) [0, 5, 6, 7, 21, 22, 23] [0, 5, 6, 7] (shL6.put s).1 (shL6.put s).2 = some r ∨
      ∃ s', runB Try.prog EL0 60 8 (lpb Try.f8 6) [0, 5, 6, 7, 21, 22, 23] [0, 5, 6, 7] (shL6.put s).1 (shL6.put s).2 = some (.normal, shL6.put s') ∧ pL6 s' = true ∧ mL6 s' < mL6 s ∧ (fL6 s').run = some r) := by
  intro t r hp hr
  unfold pL6 at hp; split at hp
  · rename_i n l ok nn ln m q len k z es a b c d e f b1 nm b2 F b3 Y b4 Q
    simp only [Bool.and_eq_true, decide_eq_true_eq] at hp
    obtain ⟨⟨rfl, rfl, rfl, rfl, rfl, rfl, rfl, rfl, rfl, rfl, rfl⟩, h2, h3, h4, h5, h6, h7, h8⟩ := hp
    have hr' := (Option.some.inj hr).symm
    refine ⟨by rw [hr']; simp, ?_⟩
    rw [show shL6.put ([.n n, .n l, .b ok, .n nm.length, .n nm.length, .n es.length, .n es.length, .i (es.length : Int), .i k], [.l z es, .n F.length, .n F.length, .n Y.length, .n Y.length, .n Q.length, .n Q.length, .l b1 nm, .l b2 F, .l b3 Y, .l b4 Q]) =
      shL6.put (lL6 n l ok nm.length nm.length es.length es.length (es.length : Int) k z es F.length F.length Y.length Y.length Q.length Q.length b1 nm b2 F b3 Y b4 Q) from rfl, qL6]
    by_cases hi : k < (es.length : Int)
    · have hR : ∀ (X : List PV) (b : Nat), b ≤ 96 → X.length ≤ 100000 → roomB X X.length X.length b = true := fun X b hb hX => by
        unfold roomB
        simp only [Bool.and_eq_true, decide_eq_true_eq]
        refine ⟨⟨trivial, trivial⟩, ?_⟩
        have := Nat.mul_le_mul (show X.length + 1 ≤ 100001 by omega) hb
        omega
      rw [decide_eq_true hi, cond_true, ixR_of rfl h2 hi, ldR_of rfl, hR nm 16 (by omega) (by omega), hR Y 96 (by omega) (by omega), hR F 56 (by omega) (by omega), hR Q 72 (by omega) (by omega), W_id (by omega) (by omega)]
      simp only [cond_true, Bool.and_false]
      obtain ⟨x, hx⟩ : ∃ x, ((es.length : Int) - k).toNat = x + 1 := ⟨((es.length : Int) - k).toNat - 1, by omega⟩
      have hx2 : ((es.length : Int) - (k + 1)).toNat = x := by omega
      rw [hx] at hr'
      simp only [nmL, yL, fL, qL] at hr'
      cases c0 : k.tmod 3 == 0 with
      | true =>
        rw [c0] at hr'
        simp only [cond_true] at hr' ⊢
        refine .inr ⟨lL6 n l ok (nm.length + 1) (nm.length + 1) es.length es.length (es.length : Int) (k + 1) z es F.length F.length (Y.length + 1) (Y.length + 1) Q.length Q.length false (nm ++ [sv (pNm (rE es k))]) b2 F false (Y ++ [mkY k (pNm (rE es k))]) b4 Q, rfl, by simp [pL6]; omega, by simp only [mL6]; omega, ?_⟩
        rw [hr']
        simp only [fL6, hx2, List.append_assoc, List.cons_append, List.nil_append, Bool.false_and, List.isEmpty_cons, Bool.and_false]
        rfl
      | false =>
        rw [c0] at hr'
        simp only [cond_false] at hr' ⊢
        cases c1 : k.tmod 3 == 1 with
        | true =>
          rw [c1] at hr'
          simp only [cond_true] at hr' ⊢
          refine .inr ⟨lL6 n l ok (nm.length + 1) (nm.length + 1) es.length es.length (es.length : Int) (k + 1) z es (F.length + 1) (F.length + 1) Y.length Y.length Q.length Q.length false (nm ++ [sv (pNm (rE es k))]) false (F ++ [mkF k (pNm (rE es k))]) b3 Y b4 Q, rfl, by simp [pL6]; omega, by simp only [mL6]; omega, ?_⟩
          rw [hr']
          simp only [fL6, hx2, List.append_assoc, List.cons_append, List.nil_append, Bool.false_and, List.isEmpty_cons, Bool.and_false]
          rfl
        | false =>
          rw [c1] at hr'
          simp only [cond_false] at hr' ⊢
          refine .inr ⟨lL6 n l ok (nm.length + 1) (nm.length + 1) es.length es.length (es.length : Int) (k + 1) z es F.length F.length Y.length Y.length (Q.length + 1) (Q.length + 1) false (nm ++ [sv (pNm (rE es k))]) b2 F b3 Y false (Q ++ [pl k 0 0 em (pNm (rE es k)) 0 0]), rfl, by simp [pL6]; omega, by simp only [mL6]; omega, ?_⟩
          rw [hr']
          simp only [fL6, hx2, List.append_assoc, List.cons_append, List.nil_append, Bool.false_and, List.isEmpty_cons, Bool.and_false]
          rfl
    · rw [decide_eq_false hi]
      rw [show ((es.length : Int) - k).toNat = 0 by omega] at hr'
      exact .inl (by rw [hr']; simp [nmL, fL, yL, qL])
  · cases hp
noncomputable def EL1 : EnvK := EL0.addW 8 6 [0, 5, 6, 7, 21, 22, 23] [] shL6 pL6 fL6
theorem okL1 : EnvOK Try.prog EL1.env :=
  okL0.addW (n := 60) Try.func8 (show Try.f8.body = some (bod Try.f8) by kernel_rfl) (show (loops (bod Try.f8)).filter (fun b => rid b == 6) = [lpb Try.f8 6] by kernel_rfl) [0, 5, 6, 7, 21, 22, 23] [0, 5, 6, 7] [] shL6 mL6 sL6
end Go.Hs
/- Strings (gazette): GazetteNamed: the loop that looks for a name. -/
namespace Go.Hs
open Go.Hx Go.Proofs
noncomputable def EL2 : EnvK := EL1.addN 8 21 [(12, 3, 1)]
theorem okL2 : EnvOK Try.prog EL2.env := okL1.addN 8 21 [(12, 3, 1)]
abbrev rowsM : List Y1 := [.many 36 7, .onef 32 4 (.agg [.nil, .sl 3, .sl 4, .sl 5]), .many 9 1, .many 38 5, .many 41 8, .many 36 7, .many 3 1]
def shL7 : S1 := ⟨101, [(0, .sl 0), (5, .bool), (6, .ptr 1 1 0 0), (11, .str), (12, .sl 6), (67, .sl 2), (68, I64), (69, I64), (73, .sl 0), (74, I64), (75, I64)], rowsM⟩
abbrev lL7 (n l : Nat) (ok : Bool) (s : ByteArray) (w x : Nat) (nn ln : Nat) (h i : Int) (m q : Nat) (len k : Int) (z : Bool) (es : List PV) (a b c d e f : Nat) (b1 : Bool) (nm : List PV) (b2 : Bool) (F : List PV) (b3 : Bool) (Y : List PV) (b4 : Bool) (Q : List PV) (bw : Bool) (wa : List PV) : LS :=
  ([.n n, .n l, .b ok, .s s, .n w, .n x, .n nn, .n ln, .i h, .i i, .n m, .n q, .i len, .i k], [.l z es, .n a, .n b, .n c, .n d, .n e, .n f, .l b1 nm, .l b2 F, .l b3 Y, .l b4 Q, .l bw wa])
noncomputable abbrev xL7 (n l : Nat) (ok : Bool) (s : ByteArray) (w x : Nat) (nn ln : Nat) (h i : Int) (z : Bool) (es : List PV) (a b c d e f : Nat) (b1 : Bool) (nm : List PV) (b2 : Bool) (F : List PV) (b3 : Bool) (Y : List PV) (b4 : Bool) (Q : List PV) (bw : Bool) (wa : List PV) : PX × List PV × List Row :=
  (.exit 5, tm 101 [(0, .sl 0 n 0 l), (5, bv ok), (6, .ptr 1 1 0 0), (11, sv s), (12, .sl 6 w 0 x), (67, .sl 2 nn 0 ln), (68, iv h), (69, iv i)], (shL7.put (lL7 0 0 ok s 0 0 0 0 0 0 0 0 0 0 z es a b c d e f b1 nm b2 F b3 Y b4 Q bw wa)).2)
theorem qL7 (n l : Nat) (ok : Bool) (s : ByteArray) (w x : Nat) (nn ln : Nat) (h i : Int) (m q : Nat) (len k : Int) (z : Bool) (es : List PV) (a b c d e f : Nat) (b1 : Bool) (nm : List PV) (b2 : Bool) (F : List PV) (b3 : Bool) (Y : List PV) (b4 : Bool) (Q : List PV) (bw : Bool) (wa : List PV) :
  runB Try.prog EL2 60 8 (lpb Try.f8 21) [0, 5, 6, 11, 12, 67, 68, 69, 73, 74, 75] [0, 5, 6, 11, 12, 67, 68, 69] (shL7.put (lL7 n l ok s w x nn ln h i m q len k z es a b c d e f b1 nm b2 F b3 Y b4 Q bw wa)).1 (shL7.put (lL7 n l ok s w x nn ln h i m q len k z es a b c d e f b1 nm b2 F b3 Y b4 Q bw wa)).2 =
  bif decide (k < len) then ixR es m q k (ldR es m (bif (pNm (rE es k)).toList == s.toList then (bif !(s.toList == em.toList) then
      (bif roomB wa w x 8 then some (.normal, shL7.put (lL7 n l ok s (w + 1) (w + 1) nn ln h i m q len (W (k + 1)) z es a b c d e f b1 nm b2 F b3 Y b4 Q (bw && false) (wa ++ [iv k]))) else none)
      else some (.normal, shL7.put (lL7 n l ok s w x nn ln h i m q len (W (k + 1)) z es a b c d e f b1 nm b2 F b3 Y b4 Q bw wa)))
    else some (.normal, shL7.put (lL7 n l ok s w x nn ln h i m q len (W (k + 1)) z es a b c d e f b1 nm b2 F b3 Y b4 Q bw wa))))
  else some (xL7 n l ok s w x nn ln h i z es a b c d e f b1 nm b2 F b3 Y b4 Q bw wa) := by kernel_rfl
def wanL (s : ByteArray) (es : List PV) (k : Int) : Nat → List PV
  | 0 => []
  | m + 1 => bif (pNm (rE es k)).toList == s.toList then (bif !(s.toList == em.toList) then iv k :: wanL s es (k + 1) m else wanL s es (k + 1) m) else wanL s es (k + 1) m
def pL7 : LS → Bool
  | ([.n _, .n _, .b _, .s _, .n w, .n x, .n _, .n _, .i _, .i _, .n m, .n q, .i len, .i k], [.l _ es, .n _, .n _, .n _, .n _, .n _, .n _, .l _ _, .l _ _, .l _ _, .l _ _, .l _ wa]) =>
    decide (w = wa.length ∧ x = wa.length ∧ m = es.length ∧ q = es.length ∧ len = (es.length : Int)) && decide (0 ≤ k ∧ k ≤ len ∧ es.length ≤ 1000 ∧ (wa.length : Int) + (len - k) ≤ 100000)
  | _ => false
noncomputable def fL7 : LS → DT (PX × List PV × List Row)
  | ([.n n, .n l, .b ok, .s s, .n _, .n _, .n nn, .n ln, .i h, .i i, .n _, .n _, .i len, .i k], [.l z es, .n a, .n b, .n c, .n d, .n e, .n f, .l b1 nm, .l b2 F, .l b3 Y, .l b4 Q, .l bw wa]) =>
    .leaf (xL7 n l ok s (wa ++ wanL s es k (len - k).toNat).length (wa ++ wanL s es k (len - k).toNat).length nn ln h i z es a b c d e f b1 nm b2 F b3 Y b4 Q (bw && (wanL s es k (len - k).toNat).isEmpty) (wa ++ wanL s es k (len - k).toNat))
  | _ => .no
def mL7 : LS → Nat
  | ([.n _, .n _, .b _, .s _, .n _, .n _, .n _, .n _, .i _, .i _, .n _, .n _, .i len, .i k], [.l _ _, .n _, .n _, .n _, .n _, .n _, .n _, .l _ _, .l _ _, .l _ _, .l _ _, .l _ _]) => (len - k).toNat
  | _ => 0
theorem sL7 : ∀ s r, pL7 s = true → (fL7 s).run = some r → r.1 ≠ .normal ∧ (runB Try.prog EL2 60 8 (lpb Try.f8 21) [0, 5, 6, 11, 12, 67, 68, 69, 73, 74, 75] [0, 5, 6, 11, 12, 67, 68, 69] (shL7.put s).1 (shL7.put s).2 = some r ∨
      ∃ s', runB Try.prog EL2 60 8 (lpb Try.f8 21) [0, 5, 6, 11, 12, 67, 68, 69, 73, 74, 75] [0, 5, 6, 11, 12, 67, 68, 69] (shL7.put s).1 (shL7.put s).2 = some (.normal, shL7.put s') ∧ pL7 s' = true ∧ mL7 s' < mL7 s ∧ (fL7 s').run = some r) := by
  intro t r hp hr
  unfold pL7 at hp; split at hp
  · rename_i n l ok s w x nn ln h i m q len k z es a b c d e f b1 nm b2 F b3 Y b4 Q bw wa
    simp only [Bool.and_eq_true, decide_eq_true_eq] at hp
    obtain ⟨⟨rfl, rfl, rfl, rfl, rfl⟩, h2, h3, h4, h5⟩ := hp
    have hr' := (Option.some.inj hr).symm
    refine ⟨by rw [hr']; simp, ?_⟩
    rw [show shL7.put ([.n n, .n l, .b ok, .s s, .n wa.length, .n wa.length, .n nn, .n ln, .i h, .i i, .n es.length, .n es.length, .i (es.length : Int), .i k], [.l z es, .n a, .n b, .n c, .n d, .n e, .n f, .l b1 nm, .l b2 F, .l b3 Y, .l b4 Q, .l bw wa]) =
      shL7.put (lL7 n l ok s wa.length wa.length nn ln h i es.length es.length (es.length : Int) k z es a b c d e f b1 nm b2 F b3 Y b4 Q bw wa) from rfl, qL7]
    by_cases hi : k < (es.length : Int)
    · have hR : roomB wa wa.length wa.length 8 = true := by
        unfold roomB
        simp only [Bool.and_eq_true, decide_eq_true_eq]
        exact ⟨⟨trivial, trivial⟩, by omega⟩
      rw [decide_eq_true hi, cond_true, ixR_of rfl h2 hi, ldR_of rfl, hR, W_id (by omega) (by omega)]
      simp only [cond_true, Bool.and_false]
      obtain ⟨y, hy⟩ : ∃ y, ((es.length : Int) - k).toNat = y + 1 := ⟨((es.length : Int) - k).toNat - 1, by omega⟩
      have hy2 : ((es.length : Int) - (k + 1)).toNat = y := by omega
      rw [hy] at hr'
      simp only [wanL] at hr'
      have same : (bif (pNm (rE es k)).toList == s.toList then (bif !(s.toList == em.toList) then iv k :: wanL s es (k + 1) y else wanL s es (k + 1) y) else wanL s es (k + 1) y) = wanL s es (k + 1) y →
          ∃ s', some ((PX.normal, shL7.put (lL7 n l ok s wa.length wa.length nn ln h i es.length es.length (es.length : Int) (k + 1) z es a b c d e f b1 nm b2 F b3 Y b4 Q bw wa)) : PX × List PV × List Row) = some (.normal, shL7.put s') ∧ pL7 s' = true ∧ mL7 s' < mL7 ([.n n, .n l, .b ok, .s s, .n wa.length, .n wa.length, .n nn, .n ln, .i h, .i i, .n es.length, .n es.length, .i (es.length : Int), .i k], [.l z es, .n a, .n b, .n c, .n d, .n e, .n f, .l b1 nm, .l b2 F, .l b3 Y, .l b4 Q, .l bw wa]) ∧ (fL7 s').run = some r := by
        intro e0
        refine ⟨lL7 n l ok s wa.length wa.length nn ln h i es.length es.length (es.length : Int) (k + 1) z es a b c d e f b1 nm b2 F b3 Y b4 Q bw wa, rfl, by simp [pL7]; omega, by simp only [mL7]; omega, ?_⟩
        rw [hr', e0]
        simp only [fL7, hy2]
        rfl
      cases c0 : (pNm (rE es k)).toList == s.toList with
      | true =>
        cases c1 : !(s.toList == em.toList) with
        | true =>
          rw [c0, c1] at hr'
          simp only [cond_true] at hr' ⊢
          refine .inr ⟨lL7 n l ok s (wa.length + 1) (wa.length + 1) nn ln h i es.length es.length (es.length : Int) (k + 1) z es a b c d e f b1 nm b2 F b3 Y b4 Q false (wa ++ [iv k]), rfl, by simp [pL7]; omega, by simp only [mL7]; omega, ?_⟩
          rw [hr']
          simp only [fL7, hy2, List.append_assoc, List.cons_append, List.nil_append, Bool.false_and, List.isEmpty_cons, Bool.and_false]
          rfl
        | false =>
          simp only [cond_true, cond_false]
          exact .inr (same (by rw [c0, c1]; rfl))
      | false =>
        simp only [cond_false]
        exact .inr (same (by rw [c0]; rfl))
    · rw [decide_eq_false hi]
      rw [show ((es.length : Int) - k).toNat = 0 by omega] at hr'
      exact .inl (by rw [hr']; simp [wanL])
  · cases hp
noncomputable def EL3 : EnvK := EL2.addW 8 21 [0, 5, 6, 11, 12, 67, 68, 69, 73, 74, 75] [] shL7 pL7 fL7
theorem okL3 : EnvOK Try.prog EL3.env :=
  okL2.addW (n := 60) Try.func8 (show Try.f8.body = some (bod Try.f8) by kernel_rfl) (show (loops (bod Try.f8)).filter (fun b => rid b == 21) = [lpb Try.f8 21] by kernel_rfl) [0, 5, 6, 11, 12, 67, 68, 69, 73, 74, 75] [0, 5, 6, 11, 12, 67, 68, 69] [] shL7 mL7 sL7
def shL8 : S1 := ⟨101, [(0, .sl 0), (5, .bool), (6, .ptr 1 1 0 0), (67, .sl 2), (68, I64), (69, I64)], rowsL⟩
end Go.Hs
/- Strings (gazette): GazetteNamed: the loop over the names: its round. -/
namespace Go.Hs
open Go.Hx Go.Proofs
abbrev lL8 (n l : Nat) (ok : Bool) (nn ln : Nat) (len k : Int) (z : Bool) (es : List PV) (a b c d e f : Nat) (b1 : Bool) (nm : List PV) (b2 : Bool) (F : List PV) (b3 : Bool) (Y : List PV) (b4 : Bool) (Q : List PV) : LS :=
  ([.n n, .n l, .b ok, .n nn, .n ln, .i len, .i k], [.l z es, .n a, .n b, .n c, .n d, .n e, .n f, .l b1 nm, .l b2 F, .l b3 Y, .l b4 Q])
noncomputable abbrev xL8 (ok : Bool) (z : Bool) (es : List PV) (a b c d e f : Nat) (b1 : Bool) (nm : List PV) (b2 : Bool) (F : List PV) (b3 : Bool) (Y : List PV) (b4 : Bool) (Q : List PV) : PX × List PV × List Row :=
  (.exit 3, tm 101 [(5, bv ok)], (shL8.put (lL8 0 0 ok 0 0 0 0 z es a b c d e f b1 nm b2 F b3 Y b4 Q)).2)
noncomputable abbrev rL8 (ok : Bool) (z : Bool) (es : List PV) (a b c d e f : Nat) (b1 : Bool) (nm : List PV) (b2 : Bool) (F : List PV) (b3 : Bool) (Y : List PV) (b4 : Bool) (Q : List PV) : PX × List PV × List Row :=
  (.ret, tm 101 [(4, bv false), (5, bv ok)], (shL8.put (lL8 0 0 ok 0 0 0 0 z es a b c d e f b1 nm b2 F b3 Y b4 Q)).2)
def sNm (nm : List PV) (k : Int) : ByteArray := ((rE nm k).cellAt 0).getS
def wanA (s : ByteArray) (es : List PV) (l : Nat) : List PV := [] ++ wanL s es 0 ((l : Int) - 0).toNat
def namQ (F Y Q : List PV) (s : ByteArray) : List PV := bif s.toList == (ByteArray.mk #[]).toList then [] else namL F Y Q s
theorem qL8 (n l : Nat) (ok : Bool) (nn ln : Nat) (len k : Int) (z : Bool) (es : List PV) (a b c d e f : Nat) (b1 : Bool) (nm : List PV) (b2 : Bool) (F : List PV) (b3 : Bool) (Y : List PV) (b4 : Bool) (Q : List PV) :
  runB Try.prog EL3 60 8 (lpb Try.f8 17) [0, 5, 6, 67, 68, 69] [4, 5] (shL8.put (lL8 n l ok nn ln len k z es a b c d e f b1 nm b2 F b3 Y b4 Q)).1 (shL8.put (lL8 n l ok nn ln len k z es a b c d e f b1 nm b2 F b3 Y b4 Q)).2 =
  bif decide (k < len) then ixR nm nn ln k (ldR nm nn (bif pL7 (lL7 n l ok (sNm nm k) 0 0 nn ln len k n l (l : Int) 0 z es a b c d e f b1 nm b2 F b3 Y b4 Q true []) then
    ldR F a (ldR Y c (ldR Q e (bif okN F Y Q a b c d e f then ldR (wanA (sNm nm k) es l) (wanA (sNm nm k) es l).length (bif big (namQ F Y Q (sNm nm k)) then
      (bif !sameI (namQ F Y Q (sNm nm k)) (((wanA (sNm nm k) es l).drop 0).take (wanA (sNm nm k) es l).length) then some (rL8 ok z es a b c d e f b1 nm b2 F b3 Y b4 Q)
        else some (.normal, shL8.put (lL8 n l ok nn ln len (W (k + 1)) z es a b c d e f b1 nm b2 F b3 Y b4 Q))) else none) else none))) else none))
  else some (xL8 ok z es a b c d e f b1 nm b2 F b3 Y b4 Q) := by kernel_rfl
end Go.Hs
/- Strings (gazette): the reference's Named as a contract; GazetteFinds: the rounds of its loops. -/
namespace Go.Hs
open Go.Hx Go.Proofs
def rn1 (F : List PV) (s : ByteArray) : List PV := (F.drop 0).foldl (putN 2 s) []
def rn2 (F Y : List PV) (s : ByteArray) : List PV := (Y.drop 0).foldl (putN 4 s) (rn1 F s)
def rn3 (F Y Q : List PV) (s : ByteArray) : List PV := (Q.drop 0).foldl (putN 4 s) (rn2 F Y s)
noncomputable def rnT (a b c d e f : Nat) (z1 : Bool) (F : List PV) (z2 : Bool) (Y : List PV) (z3 : Bool) (Q : List PV) (s : ByteArray) : Option PV :=
  bif s.toList == nilS.toList then some (.val (.slice none 0 0)) else
  bif pRa (lRa s false [] 0 a b c d e f z1 F z2 Y z3 Q) then bif pRb (lRb s false (rn1 F s) 0 a b c d e f z1 F z2 Y z3 Q) then bif pRc (lRc s false (rn2 F Y s) 0 a b c d e f z1 F z2 Y z3 Q) then some (.lst false 3 (rn3 F Y Q s)) else none else none else none
theorem qRN (a b c d e f : Nat) (z1 : Bool) (F : List PV) (z2 : Bool) (Y : List PV) (z3 : Bool) (Q : List PV) (s : ByteArray) :
  runSE Try.prog EF9 60 24 [.agg [.val (.slice none 0 0), .sl 0 a 0 b, .sl 1 c 0 d, .sl 2 e 0 f], sv s] [rN 38 5 z1 F, rN 41 8 z2 Y, rN 36 7 z3 Q] = rnT a b c d e f z1 F z2 Y z3 Q s := by kernel_rfl
def rnQ (F Y Q : List PV) (s : ByteArray) : List PV := bif s.toList == nilS.toList then [] else rn3 F Y Q s
def okRN (a b c d e f : Nat) (F Y Q : List PV) : Bool := decide (a = F.length ∧ b = F.length ∧ c = Y.length ∧ d = Y.length ∧ e = Q.length ∧ f = Q.length ∧ F.length ≤ 100000 ∧ Y.length ≤ 100000 ∧ Q.length ≤ 100000)
theorem foldN_len (c : Nat) (s : ByteArray) : ∀ (X out : List PV), (X.foldl (putN c s) out).length ≤ out.length + X.length
  | [], out => by simp
  | x :: X, out => by
    rw [List.foldl_cons]
    have := foldN_len c s X (putN c s out x)
    have := putN_len c s out x
    simp; omega
theorem rn1_len (F : List PV) (s : ByteArray) : (rn1 F s).length ≤ F.length := by have := foldN_len 2 s (F.drop 0) []; unfold rn1; simpa using this
theorem rn2_len (F Y : List PV) (s : ByteArray) : (rn2 F Y s).length ≤ F.length + Y.length := by have := foldN_len 4 s (Y.drop 0) (rn1 F s); have := rn1_len F s; unfold rn2; simp at *; omega
theorem rn3_len (F Y Q : List PV) (s : ByteArray) : (rn3 F Y Q s).length ≤ F.length + Y.length + Q.length := by have := foldN_len 4 s (Q.drop 0) (rn2 F Y s); have := rn2_len F Y s; unfold rn3; simp at *; omega
theorem rnT_eq {a b c d e f : Nat} {z1 : Bool} {F : List PV} {z2 : Bool} {Y : List PV} {z3 : Bool} {Q : List PV} {s : ByteArray} (h : okRN a b c d e f F Y Q = true) :
    rnT a b c d e f z1 F z2 Y z3 Q s = some (bif s.toList == nilS.toList then .val (.slice none 0 0) else .lst false 3 (rn3 F Y Q s)) := by
  obtain ⟨rfl, rfl, rfl, rfl, rfl, rfl, h1, h2, h3⟩ := of_decide_eq_true h
  unfold rnT
  cases s.toList == nilS.toList with
  | true => rfl
  | false =>
    have g1 := rn1_len F s
    have g2 := rn2_len F Y s
    rw [show pRa (lRa s false [] 0 F.length F.length Y.length Y.length Q.length Q.length z1 F z2 Y z3 Q) = true by simp [pRa]; omega, show pRb (lRb s false (rn1 F s) 0 F.length F.length Y.length Y.length Q.length Q.length z1 F z2 Y z3 Q) = true by simp [pRb]; omega,
      show pRc (lRc s false (rn2 F Y s) 0 F.length F.length Y.length Y.length Q.length Q.length z1 F z2 Y z3 Q) = true by simp [pRc]; omega]
    rfl
def cRN : List PV → List Row → Option (DT PV)
  | [.agg [.val (.slice none 0 0), .sl 0 a 0 b, .sl 1 c 0 d, .sl 2 e 0 f], .val (.string s)], [⟨F, 5, 38, true, true, _, none⟩, ⟨Y, 8, 41, true, true, _, none⟩, ⟨Q, 7, 36, true, true, _, none⟩] => some (.br (okRN a b c d e f F Y Q) (.leaf (.lst false 3 (rnQ F Y Q s))) .no)
  | _, _ => none
theorem eRN : Hx.Enters Try.prog 24 := (runSE_sound okF9 ((qRN 0 0 0 0 0 0 true [] true [] true [] .empty).trans (rnT_eq rfl))).1
theorem oRN (args : List PV) (H : List Row) (dt : DT PV) (r : PV) (h : cRN args H = some dt) (hr : dt.run = some r) : RCall Try.prog H.length 24 args H r H := by
  unfold cRN at h; split at h
  · rename_i a b c d e f s F z1 Y z2 Q z3
    cases h
    obtain ⟨h1, rfl⟩ := run_br1 hr
    have h2 := (runSE_sound okF9 ((qRN a b c d e f z1 F z2 Y z3 Q s).trans (rnT_eq h1))).2
    unfold rnQ
    cases h0 : s.toList == nilS.toList with
    | true => rw [h0] at h2; exact rcall_nil _ h2
    | false => rw [h0] at h2; exact h2
  · cases h
noncomputable def EG0 : EnvK := (EF9.addRE 24 cRN).addN 4 5 [(1101, 38, 5), (1102, 41, 8)]
theorem okG0 : EnvOK Try.prog EG0.env := (okF9.addRE eRN oRN).addN 4 5 [(1101, 38, 5), (1102, 41, 8)]
/-! The loop that makes the map. -/
def x1 (n : Int) : Int := bits .xor .i64 n 1
def gF (e : PV) : PV := mkF (pWt e) (pNm e)
def gY (e : PV) : PV := mkY (x1 (pId e)) (pNm e)
def shG5 : S1 := ⟨99, [(0, .sl 0), (1, .str), (5, .bool), (6, .ptr 1 1 0 0), (19, .sl 0), (20, I64), (21, I64)], [.many 36 7, .onef 32 4 (.agg [.nil, .sl 2, .sl 3, .sl 0]), .many 38 5, .many 41 8]⟩
abbrev lG5 (n l : Nat) (p : ByteArray) (ok : Bool) (m q : Nat) (len k : Int) (z : Bool) (es : List PV) (a b c d e f : Nat) (b1 : Bool) (F : List PV) (b2 : Bool) (Y : List PV) : LS :=
  ([.n n, .n l, .s p, .b ok, .n m, .n q, .i len, .i k], [.l z es, .n a, .n b, .n c, .n d, .n e, .n f, .l b1 F, .l b2 Y])
noncomputable abbrev xG5 (n l : Nat) (p : ByteArray) (ok : Bool) (z : Bool) (es : List PV) (a b c d e f : Nat) (b1 : Bool) (F : List PV) (b2 : Bool) (Y : List PV) : PX × List PV × List Row :=
  (.exit 0, tm 99 [(0, .sl 0 n 0 l), (1, sv p), (5, bv ok), (6, .ptr 1 1 0 0)], (shG5.put (lG5 0 0 p ok 0 0 0 0 z es a b c d e f b1 F b2 Y)).2)
theorem qG5 (n l : Nat) (p : ByteArray) (ok : Bool) (m q : Nat) (len k : Int) (z : Bool) (es : List PV) (a b c d e f : Nat) (b1 : Bool) (F : List PV) (b2 : Bool) (Y : List PV) :
  runB Try.prog EG0 60 4 (lpb Try.f4 5) [0, 1, 5, 6, 19, 20, 21] [0, 1, 5, 6] (shG5.put (lG5 n l p ok m q len k z es a b c d e f b1 F b2 Y)).1 (shG5.put (lG5 n l p ok m q len k z es a b c d e f b1 F b2 Y)).2 =
  bif decide (k < len) then ixR es m q k (ldR es m (
    bif k.tmod 2 == 0 then bif roomB F a b 56 then bif roomB Y c d 96 then
      some (.normal, shG5.put (lG5 n l p ok m q len (W (k + 1)) z es (a + 1) (a + 1) (c + 1) (c + 1) e f (b1 && false) (F ++ [gF (rE es k)]) (b2 && false) (Y ++ [gY (rE es k)]))) else none else none
    else bif roomB Y c d 96 then some (.normal, shG5.put (lG5 n l p ok m q len (W (k + 1)) z es a b (c + 1) (c + 1) e f b1 F (b2 && false) (Y ++ [gY (rE es k)]))) else none))
  else some (xG5 n l p ok z es a b c d e f b1 F b2 Y) := by kernel_rfl
end Go.Hs
/- Strings (gazette): GazetteFinds: the loops that make the map and the words. -/
namespace Go.Hs
open Go.Hx Go.Proofs
def g1L (es : List PV) (k : Int) : Nat → List PV
  | 0 => []
  | m + 1 => bif k.tmod 2 == 0 then gF (rE es k) :: g1L es (k + 1) m else g1L es (k + 1) m
def g2L (es : List PV) (k : Int) : Nat → List PV
  | 0 => []
  | m + 1 => gY (rE es k) :: g2L es (k + 1) m
def pG5 : LS → Bool
  | ([.n _, .n _, .s _, .b _, .n m, .n q, .i len, .i k], [.l _ es, .n a, .n b, .n c, .n d, .n _, .n _, .l _ F, .l _ Y]) =>
    decide (m = es.length ∧ q = es.length ∧ len = (es.length : Int) ∧ a = F.length ∧ b = F.length ∧ c = Y.length ∧ d = Y.length) && decide (0 ≤ k ∧ k ≤ len ∧ es.length ≤ 1000 ∧ (F.length : Int) + (len - k) ≤ 100000 ∧ (Y.length : Int) + (len - k) ≤ 100000)
  | _ => false
noncomputable def fG5 : LS → DT (PX × List PV × List Row)
  | ([.n n, .n l, .s p, .b ok, .n _, .n _, .i len, .i k], [.l z es, .n _, .n _, .n _, .n _, .n e, .n f, .l b1 F, .l b2 Y]) =>
    .leaf (xG5 n l p ok z es (F ++ g1L es k (len - k).toNat).length (F ++ g1L es k (len - k).toNat).length (Y ++ g2L es k (len - k).toNat).length (Y ++ g2L es k (len - k).toNat).length e f
      (b1 && (g1L es k (len - k).toNat).isEmpty) (F ++ g1L es k (len - k).toNat) (b2 && (g2L es k (len - k).toNat).isEmpty) (Y ++ g2L es k (len - k).toNat))
  | _ => .no
def mG5 : LS → Nat
  | ([.n _, .n _, .s _, .b _, .n _, .n _, .i len, .i k], [.l _ _, .n _, .n _, .n _, .n _, .n _, .n _, .l _ _, .l _ _]) => (len - k).toNat
  | _ => 0
theorem roomB_of {X : List PV} {b : Nat} (hb : b ≤ 96) (hX : X.length ≤ 100000) : roomB X X.length X.length b = true := by
  unfold roomB
  simp only [Bool.and_eq_true, decide_eq_true_eq]
  refine ⟨⟨trivial, trivial⟩, ?_⟩
  have := Nat.mul_le_mul (show X.length + 1 ≤ 100001 by omega) hb
  omega
theorem sG5 : ∀ s r, pG5 s = true → (fG5 s).run = some r → r.1 ≠ .normal ∧ (runB Try.prog EG0 60 4 (lpb Try.f4 5) [0, 1, 5, 6, 19, 20, 21] [0, 1, 5, 6] (shG5.put s).1 (shG5.put s).2 = some r ∨
      ∃ s', runB Try.prog EG0 60 4 (lpb Try.f4 5) [0, 1, 5, 6, 19, 20, 21] [0, 1, 5, 6] (shG5.put s).1 (shG5.put s).2 = some (.normal, shG5.put s') ∧ pG5 s' = true ∧ mG5 s' < mG5 s ∧ (fG5 s').run = some r) := by
  intro t r hp hr
  unfold pG5 at hp; split at hp
  · rename_i n l p ok m q len k z es a b c d e f b1 F b2 Y
    simp only [Bool.and_eq_true, decide_eq_true_eq] at hp
    obtain ⟨⟨rfl, rfl, rfl, rfl, rfl, rfl, rfl⟩, h2, h3, h4, h5, h6⟩ := hp
    have hr' := (Option.some.inj hr).symm
    refine ⟨by rw [hr']; simp, ?_⟩
    rw [show shG5.put ([.n n, .n l, .s p, .b ok, .n es.length, .n es.length, .i (es.length : Int), .i k], [.l z es, .n F.length, .n F.length, .n Y.length, .n Y.length, .n e, .n f, .l b1 F, .l b2 Y]) =
      shG5.put (lG5 n l p ok es.length es.length (es.length : Int) k z es F.length F.length Y.length Y.length e f b1 F b2 Y) from rfl, qG5]
    by_cases hi : k < (es.length : Int)
    · rw [decide_eq_true hi, cond_true, ixR_of rfl h2 hi, ldR_of rfl, roomB_of (X := F) (b := 56) (by omega) (by omega), roomB_of (X := Y) (b := 96) (by omega) (by omega), W_id (by omega) (by omega)]
      simp only [cond_true, Bool.and_false]
      obtain ⟨x, hx⟩ : ∃ x, ((es.length : Int) - k).toNat = x + 1 := ⟨((es.length : Int) - k).toNat - 1, by omega⟩
      have hx2 : ((es.length : Int) - (k + 1)).toNat = x := by omega
      rw [hx] at hr'
      simp only [g1L, g2L] at hr'
      cases c0 : k.tmod 2 == 0 with
      | true =>
        rw [c0] at hr'
        simp only [cond_true] at hr' ⊢
        refine .inr ⟨lG5 n l p ok es.length es.length (es.length : Int) (k + 1) z es (F.length + 1) (F.length + 1) (Y.length + 1) (Y.length + 1) e f false (F ++ [gF (rE es k)]) false (Y ++ [gY (rE es k)]), rfl, by simp [pG5]; omega, by simp only [mG5]; omega, ?_⟩
        rw [hr']
        simp only [fG5, hx2, List.append_assoc, List.cons_append, List.nil_append, Bool.false_and, List.isEmpty_cons, Bool.and_false]
        rfl
      | false =>
        rw [c0] at hr'
        simp only [cond_false] at hr' ⊢
        refine .inr ⟨lG5 n l p ok es.length es.length (es.length : Int) (k + 1) z es F.length F.length (Y.length + 1) (Y.length + 1) e f b1 F false (Y ++ [gY (rE es k)]), rfl, by simp [pG5]; omega, by simp only [mG5]; omega, ?_⟩
        rw [hr']
        simp only [fG5, hx2, List.append_assoc, List.cons_append, List.nil_append, Bool.false_and, List.isEmpty_cons, Bool.and_false]
        rfl
    · rw [decide_eq_false hi]
      rw [show ((es.length : Int) - k).toNat = 0 by omega] at hr'
      exact .inl (by rw [hr']; simp [g1L, g2L])
  · cases hp
noncomputable def EG1 : EnvK := EG0.addW 4 5 [0, 1, 5, 6, 19, 20, 21] [] shG5 pG5 fG5
theorem okG1 : EnvOK Try.prog EG1.env :=
  okG0.addW (n := 60) Try.func4 (show Try.f4.body = some (bod Try.f4) by kernel_rfl) (show (loops (bod Try.f4)).filter (fun b => rid b == 5) = [lpb Try.f4 5] by kernel_rfl) [0, 1, 5, 6, 19, 20, 21] [0, 1, 5, 6] [] shG5 mG5 sG5
/-! The words. -/
def rowsG : List Y1 := [.many 36 7, .onef 32 4 (.agg [.nil, .sl 2, .sl 3, .sl 0]), .many 38 5, .many 41 8, .many 9 1]
def shG13 : S1 := ⟨99, [(0, .sl 0), (5, .bool), (6, .ptr 1 1 0 0), (9, .sl 4), (54, .sl 0), (55, I64), (56, I64)], rowsG⟩
abbrev lG13 (n l : Nat) (ok : Bool) (nn ln m q : Nat) (len k : Int) (z : Bool) (es : List PV) (a b c d e f : Nat) (b1 : Bool) (F : List PV) (b2 : Bool) (Y : List PV) (b3 : Bool) (nm : List PV) : LS :=
  ([.n n, .n l, .b ok, .n nn, .n ln, .n m, .n q, .i len, .i k], [.l z es, .n a, .n b, .n c, .n d, .n e, .n f, .l b1 F, .l b2 Y, .l b3 nm])
noncomputable abbrev xG13 (n l : Nat) (ok : Bool) (nn ln : Nat) (z : Bool) (es : List PV) (a b c d e f : Nat) (b1 : Bool) (F : List PV) (b2 : Bool) (Y : List PV) (b3 : Bool) (nm : List PV) : PX × List PV × List Row :=
  (.exit 2, tm 99 [(0, .sl 0 n 0 l), (5, bv ok), (6, .ptr 1 1 0 0), (9, .sl 4 nn 0 ln)], (shG13.put (lG13 0 0 ok 0 0 0 0 0 0 z es a b c d e f b1 F b2 Y b3 nm)).2)
def hf (s : ByteArray) : Int := W (Int.tdiv (s.size : Int) 2)
def room2 (es : List PV) (n l : Nat) : Bool := decide (es.length = n) && decide (n = l) && decide ((n + 2) * 16 ≤ M47)
def half (s : ByteArray) : ByteArray := s.extract 0 (hf s).toNat
theorem qG13 (n l : Nat) (ok : Bool) (nn ln m q : Nat) (len k : Int) (z : Bool) (es : List PV) (a b c d e f : Nat) (b1 : Bool) (F : List PV) (b2 : Bool) (Y : List PV) (b3 : Bool) (nm : List PV) :
  runB Try.prog EG1 60 4 (lpb Try.f4 13) [0, 5, 6, 9, 54, 55, 56] [0, 5, 6, 9] (shG13.put (lG13 n l ok nn ln m q len k z es a b c d e f b1 F b2 Y b3 nm)).1 (shG13.put (lG13 n l ok nn ln m q len k z es a b c d e f b1 F b2 Y b3 nm)).2 =
  bif decide (k < len) then ixR es m q k (ldR es m (bif decide ((0 : Int) ≤ 0) && decide (0 ≤ hf (pNm (rE es k))) && decide (hf (pNm (rE es k)) ≤ ((pNm (rE es k)).size : Int)) then bif room2 nm nn ln then
    some (.normal, shG13.put (lG13 n l ok (nn + 2) (nn + 2) m q len (W (k + 1)) z es a b c d e f b1 F b2 Y (b3 && false) (nm ++ [sv (pNm (rE es k)), sv (half (pNm (rE es k)))]))) else none else none))
  else some (xG13 n l ok nn ln z es a b c d e f b1 F b2 Y b3 nm) := by kernel_rfl
end Go.Hs
/- Strings (gazette): GazetteFinds: the words as a contract; the round of the law's loop. -/
namespace Go.Hs
open Go.Hx Go.Proofs
theorem hf_of {s : ByteArray} (h : bigS s = true) : 0 ≤ hf s ∧ hf s ≤ (s.size : Int) := by
  have : s.size ≤ 1000000 := of_decide_eq_true h
  unfold hf
  rw [Int.tdiv_eq_ediv_of_nonneg (by omega), W_id (by omega) (by omega)]
  omega
def wL (es : List PV) (k : Int) : Nat → List PV
  | 0 => []
  | m + 1 => sv (pNm (rE es k)) :: sv (half (pNm (rE es k))) :: wL es (k + 1) m
theorem wL_len (es : List PV) : ∀ (m : Nat) (k : Int), (wL es k m).length = 2 * m
  | 0, _ => rfl
  | m + 1, k => by simp [wL, wL_len es m (k + 1)]; omega
def pG13 : LS → Bool
  | ([.n _, .n _, .b _, .n nn, .n ln, .n m, .n q, .i len, .i k], [.l _ es, .n _, .n _, .n _, .n _, .n _, .n _, .l _ _, .l _ _, .l _ nm]) =>
    decide (nn = nm.length ∧ ln = nm.length ∧ m = es.length ∧ q = es.length ∧ len = (es.length : Int)) && decide (0 ≤ k ∧ k ≤ len ∧ es.length ≤ 1000 ∧ (nm.length : Int) + 2 * (len - k) ≤ 100000) && bigN es
  | _ => false
noncomputable def fG13 : LS → DT (PX × List PV × List Row)
  | ([.n n, .n l, .b ok, .n _, .n _, .n _, .n _, .i len, .i k], [.l z es, .n a, .n b, .n c, .n d, .n e, .n f, .l b1 F, .l b2 Y, .l b3 nm]) =>
    .leaf (xG13 n l ok (nm ++ wL es k (len - k).toNat).length (nm ++ wL es k (len - k).toNat).length z es a b c d e f b1 F b2 Y (b3 && (wL es k (len - k).toNat).isEmpty) (nm ++ wL es k (len - k).toNat))
  | _ => .no
def mG13 : LS → Nat
  | ([.n _, .n _, .b _, .n _, .n _, .n _, .n _, .i len, .i k], [.l _ _, .n _, .n _, .n _, .n _, .n _, .n _, .l _ _, .l _ _, .l _ _]) => (len - k).toNat
  | _ => 0
theorem sG13 : ∀ s r, pG13 s = true → (fG13 s).run = some r → r.1 ≠ .normal ∧ (runB Try.prog EG1 60 4 (lpb Try.f4 13) [0, 5, 6, 9, 54, 55, 56] [0, 5, 6, 9] (shG13.put s).1 (shG13.put s).2 = some r ∨
      ∃ s', runB Try.prog EG1 60 4 (lpb Try.f4 13) [0, 5, 6, 9, 54, 55, 56] [0, 5, 6, 9] (shG13.put s).1 (shG13.put s).2 = some (.normal, shG13.put s') ∧ pG13 s' = true ∧ mG13 s' < mG13 s ∧ (fG13 s').run = some r) := by
  intro t r hp hr
  unfold pG13 at hp; split at hp
  · rename_i n l ok nn ln m q len k z es a b c d e f b1 F b2 Y b3 nm
    rw [Bool.and_eq_true, Bool.and_eq_true, decide_eq_true_eq, decide_eq_true_eq] at hp
    obtain ⟨⟨⟨rfl, rfl, rfl, rfl, rfl⟩, h2, h3, h4, h5⟩, h6⟩ := hp
    have hr' := (Option.some.inj hr).symm
    refine ⟨by rw [hr']; simp, ?_⟩
    rw [show shG13.put ([.n n, .n l, .b ok, .n nm.length, .n nm.length, .n es.length, .n es.length, .i (es.length : Int), .i k], [.l z es, .n a, .n b, .n c, .n d, .n e, .n f, .l b1 F, .l b2 Y, .l b3 nm]) =
      shG13.put (lG13 n l ok nm.length nm.length es.length es.length (es.length : Int) k z es a b c d e f b1 F b2 Y b3 nm) from rfl, qG13]
    by_cases hi : k < (es.length : Int)
    · have hb := hf_of (bigN_at h6 h2 hi)
      rw [decide_eq_true hi, cond_true, ixR_of rfl h2 hi, ldR_of rfl, decide_eq_true (show (0 : Int) ≤ 0 by omega), decide_eq_true hb.1, decide_eq_true hb.2, show room2 nm nm.length nm.length = true by unfold room2 M47; simp; omega, W_id (by omega) (by omega)]
      simp only [Bool.and_self, cond_true, Bool.and_false]
      obtain ⟨x, hx⟩ : ∃ x, ((es.length : Int) - k).toNat = x + 1 := ⟨((es.length : Int) - k).toNat - 1, by omega⟩
      have hx2 : ((es.length : Int) - (k + 1)).toNat = x := by omega
      rw [hx] at hr'
      simp only [wL] at hr'
      refine .inr ⟨lG13 n l ok (nm.length + 2) (nm.length + 2) es.length es.length (es.length : Int) (k + 1) z es a b c d e f b1 F b2 Y false (nm ++ [sv (pNm (rE es k)), sv (half (pNm (rE es k)))]), rfl, ?_, by simp only [mG13]; omega, ?_⟩
      · show (_ && _ && _) = true
        rw [Bool.and_eq_true, Bool.and_eq_true, decide_eq_true_eq, decide_eq_true_eq]
        simp only [List.length_append, List.length_cons, List.length_nil]
        exact ⟨⟨⟨trivial, trivial, trivial, trivial, trivial⟩, by omega, by omega, h4, by omega⟩, h6⟩
      · rw [hr']
        simp only [fG13, hx2, List.append_assoc, List.cons_append, List.nil_append, Bool.false_and, List.isEmpty_cons, Bool.and_false]
        rfl
    · rw [decide_eq_false hi]
      rw [show ((es.length : Int) - k).toNat = 0 by omega] at hr'
      exact .inl (by rw [hr']; simp [wL])
  · cases hp
noncomputable def EG2 : EnvK := EG1.addW 4 13 [0, 5, 6, 9, 54, 55, 56] [] shG13 pG13 fG13
theorem okG2 : EnvOK Try.prog EG2.env :=
  okG1.addW (n := 60) Try.func4 (show Try.f4.body = some (bod Try.f4) by kernel_rfl) (show (loops (bod Try.f4)).filter (fun b => rid b == 13) = [lpb Try.f4 13] by kernel_rfl) [0, 5, 6, 9, 54, 55, 56] [0, 5, 6, 9] [] shG13 mG13 sG13
def shG18 : S1 := ⟨99, [(0, .sl 0), (5, .bool), (6, .ptr 1 1 0 0), (73, .sl 4), (74, I64), (75, I64)], rowsG⟩
abbrev lG18 (n l : Nat) (ok : Bool) (nn ln : Nat) (len k : Int) (z : Bool) (es : List PV) (a b c d e f : Nat) (b1 : Bool) (F : List PV) (b2 : Bool) (Y : List PV) (b3 : Bool) (nm : List PV) : LS :=
  ([.n n, .n l, .b ok, .n nn, .n ln, .i len, .i k], [.l z es, .n a, .n b, .n c, .n d, .n e, .n f, .l b1 F, .l b2 Y, .l b3 nm])
noncomputable abbrev xG18 (ok : Bool) (z : Bool) (es : List PV) (a b c d e f : Nat) (b1 : Bool) (F : List PV) (b2 : Bool) (Y : List PV) (b3 : Bool) (nm : List PV) : PX × List PV × List Row :=
  (.exit 4, tm 99 [(5, bv ok)], (shG18.put (lG18 0 0 ok 0 0 0 0 z es a b c d e f b1 F b2 Y b3 nm)).2)
noncomputable abbrev rG18 (ok : Bool) (z : Bool) (es : List PV) (a b c d e f : Nat) (b1 : Bool) (F : List PV) (b2 : Bool) (Y : List PV) (b3 : Bool) (nm : List PV) : PX × List PV × List Row :=
  (.ret, tm 99 [(4, bv false), (5, bv ok)], (shG18.put (lG18 0 0 ok 0 0 0 0 z es a b c d e f b1 F b2 Y b3 nm)).2)
def fz (es : List PV) (l : Nat) : List PV := (es.drop 0).take l
theorem qG18 (n l : Nat) (ok : Bool) (nn ln : Nat) (len k : Int) (es : List PV) (a b c d e f : Nat) (b1 : Bool) (F : List PV) (b2 : Bool) (Y : List PV) (b3 : Bool) (nm : List PV) :
  runB Try.prog EG2 60 4 (lpb Try.f4 18) [0, 5, 6, 73, 74, 75] [4, 5] (shG18.put (lG18 n l ok nn ln len k false es a b c d e f b1 F b2 Y b3 nm)).1 (shG18.put (lG18 n l ok nn ln len k false es a b c d e f b1 F b2 Y b3 nm)).2 =
  bif decide (k < len) then ixR nm nn ln k (ldR nm nn (
    ldR es n (bif okFd n l es (sNm nm k) then ldR es n (bif okRF n l es (sNm nm k) then bif big (findL es (sNm nm k)) then
      bif !sameI (findL es (sNm nm k)) (idM (rfS es (sNm nm k))) then some (rG18 ok false es a b c d e f b1 F b2 Y b3 nm) else
      ldR F a (ldR Y c (ldR es e (bif okN F Y es a b c d e f then ldR F a (ldR Y c (ldR es e (bif okRN a b c d e f F Y es then bif big (namQ F Y es (sNm nm k)) then
        bif !sameI (namQ F Y es (sNm nm k)) (rnQ F Y es (sNm nm k)) then some (rG18 ok false es a b c d e f b1 F b2 Y b3 nm)
        else some (.normal, shG18.put (lG18 n l ok nn ln len (W (k + 1)) false es a b c d e f b1 F b2 Y b3 nm)) else none else none))) else none))) else none else none) else none)))
  else some (xG18 ok false es a b c d e f b1 F b2 Y b3 nm) := by kernel_rfl
end Go.Hs
/- Strings (gazette): GazetteNamed: the loop over the names as a contract, and the law as a plain function. -/
namespace Go.Hs
open Go.Hx Go.Proofs
def chkN (es F Y Q : List PV) (s : ByteArray) : Bool := sameI (namQ F Y Q s) (wanA s es es.length)
def allN (es F Y Q nm : List PV) (k : Int) : Nat → Bool
  | 0 => true
  | m + 1 => chkN es F Y Q (sNm nm k) && allN es F Y Q nm (k + 1) m
theorem namL_len (F Y Q : List PV) (s : ByteArray) : (namL F Y Q s).length ≤ F.length + Y.length + Q.length := by
  unfold namL
  rw [srtI_length, List.length_append, List.length_append]
  have h1 := idsN_len 2 s F ((F.length : Int) - 0).toNat 0
  have h2 := idsN_len 4 s Y ((Y.length : Int) - 0).toNat 0
  have h3 := idsN_len 4 s Q ((Q.length : Int) - 0).toNat 0
  unfold n1 n2; omega
theorem namQ_len (F Y Q : List PV) (s : ByteArray) : (namQ F Y Q s).length ≤ F.length + Y.length + Q.length := by
  unfold namQ
  cases s.toList == (ByteArray.mk #[]).toList with
  | true => exact Nat.zero_le _
  | false => exact namL_len F Y Q s
def pL8 : LS → Bool
  | ([.n n, .n l, .b _, .n nn, .n ln, .i len, .i k], [.l _ es, .n a, .n b, .n c, .n d, .n e, .n f, .l _ nm, .l _ F, .l _ Y, .l _ Q]) =>
    decide (n = es.length ∧ l = es.length ∧ nn = nm.length ∧ ln = nm.length ∧ len = (nm.length : Int) ∧ a = F.length ∧ b = F.length ∧ c = Y.length ∧ d = Y.length ∧ e = Q.length ∧ f = Q.length) && decide (0 ≤ k ∧ k ≤ len ∧ es.length ≤ 1000 ∧ nm.length ≤ 10000 ∧ F.length ≤ 1000 ∧ Y.length ≤ 1000 ∧ Q.length ≤ 1000)
  | _ => false
noncomputable def fL8 : LS → DT (PX × List PV × List Row)
  | ([.n _, .n _, .b ok, .n _, .n _, .i len, .i k], [.l z es, .n a, .n b, .n c, .n d, .n e, .n f, .l b1 nm, .l b2 F, .l b3 Y, .l b4 Q]) =>
    .br (allN es F Y Q nm k (len - k).toNat) (.leaf (xL8 ok z es a b c d e f b1 nm b2 F b3 Y b4 Q)) (.leaf (rL8 ok z es a b c d e f b1 nm b2 F b3 Y b4 Q))
  | _ => .no
def mL8 : LS → Nat
  | ([.n _, .n _, .b _, .n _, .n _, .i len, .i k], [.l _ _, .n _, .n _, .n _, .n _, .n _, .n _, .l _ _, .l _ _, .l _ _, .l _ _]) => (len - k).toNat
  | _ => 0
theorem sL8 : ∀ s r, pL8 s = true → (fL8 s).run = some r → r.1 ≠ .normal ∧ (runB Try.prog EL3 60 8 (lpb Try.f8 17) [0, 5, 6, 67, 68, 69] [4, 5] (shL8.put s).1 (shL8.put s).2 = some r ∨
      ∃ s', runB Try.prog EL3 60 8 (lpb Try.f8 17) [0, 5, 6, 67, 68, 69] [4, 5] (shL8.put s).1 (shL8.put s).2 = some (.normal, shL8.put s') ∧ pL8 s' = true ∧ mL8 s' < mL8 s ∧ (fL8 s').run = some r) := by
  intro t r hp hr
  unfold pL8 at hp; split at hp
  · rename_i n l ok nn ln len k z es a b c d e f b1 nm b2 F b3 Y b4 Q
    simp only [Bool.and_eq_true, decide_eq_true_eq] at hp
    obtain ⟨⟨rfl, rfl, rfl, rfl, rfl, rfl, rfl, rfl, rfl, rfl, rfl⟩, h2, h3, h4, h5, h6, h7, h8⟩ := hp
    have hr' := run_br2 hr
    refine ⟨by rw [hr']; cases allN es F Y Q nm k ((nm.length : Int) - k).toNat <;> simp, ?_⟩
    rw [show shL8.put ([.n es.length, .n es.length, .b ok, .n nm.length, .n nm.length, .i (nm.length : Int), .i k], [.l z es, .n F.length, .n F.length, .n Y.length, .n Y.length, .n Q.length, .n Q.length, .l b1 nm, .l b2 F, .l b3 Y, .l b4 Q]) =
      shL8.put (lL8 es.length es.length ok nm.length nm.length (nm.length : Int) k z es F.length F.length Y.length Y.length Q.length Q.length b1 nm b2 F b3 Y b4 Q) from rfl, qL8]
    by_cases hi : k < (nm.length : Int)
    · have k1 : pL7 (lL7 es.length es.length ok (sNm nm k) 0 0 nm.length nm.length (nm.length : Int) k es.length es.length (es.length : Int) 0 z es F.length F.length Y.length Y.length Q.length Q.length b1 nm b2 F b3 Y b4 Q true []) = true := by
        simp [pL7]; omega
      have k2 : okN F Y Q F.length F.length Y.length Y.length Q.length Q.length = true := by
        simp only [okN, decide_eq_true_eq]; exact ⟨trivial, trivial, trivial, trivial, trivial, trivial, by omega, by omega, by omega⟩
      have k3 : big (namQ F Y Q (sNm nm k)) = true := by
        have := namQ_len F Y Q (sNm nm k)
        unfold big; simp; omega
      rw [decide_eq_true hi, cond_true, ixR_of rfl h2 hi, ldR_of rfl, k1, cond_true, ldR_of rfl, ldR_of rfl, ldR_of rfl, k2, cond_true, ldR_of rfl, k3, cond_true, W_id (by omega) (by omega), List.drop_zero, List.take_length]
      obtain ⟨x, hx⟩ : ∃ x, ((nm.length : Int) - k).toNat = x + 1 := ⟨((nm.length : Int) - k).toNat - 1, by omega⟩
      have hx2 : ((nm.length : Int) - (k + 1)).toNat = x := by omega
      rw [hx] at hr'
      simp only [allN] at hr'
      cases hc : sameI (namQ F Y Q (sNm nm k)) (wanA (sNm nm k) es es.length) with
      | false =>
        rw [show chkN es F Y Q (sNm nm k) = false from hc, Bool.false_and] at hr'
        exact .inl (by rw [hr']; rfl)
      | true =>
        rw [show chkN es F Y Q (sNm nm k) = true from hc, Bool.true_and] at hr'
        refine .inr ⟨lL8 es.length es.length ok nm.length nm.length (nm.length : Int) (k + 1) z es F.length F.length Y.length Y.length Q.length Q.length b1 nm b2 F b3 Y b4 Q, rfl, by simp [pL8]; omega, by simp only [mL8]; omega, ?_⟩
        rw [hr']
        simp only [fL8, hx2]
        cases allN es F Y Q nm (k + 1) x <;> rfl
    · rw [decide_eq_false hi]
      rw [show ((nm.length : Int) - k).toNat = 0 by omega] at hr'
      exact .inl (by rw [hr']; rfl)
  · cases hp
noncomputable def EL4 : EnvK := EL3.addW 8 17 [0, 5, 6, 67, 68, 69] [] shL8 pL8 fL8
theorem okL4 : EnvOK Try.prog EL4.env :=
  okL3.addW (n := 60) Try.func8 (show Try.f8.body = some (bod Try.f8) by kernel_rfl) (show (loops (bod Try.f8)).filter (fun b => rid b == 17) = [lpb Try.f8 17] by kernel_rfl) [0, 5, 6, 67, 68, 69] [4, 5] [] shL8 mL8 sL8
end Go.Hs
/- Strings (gazette): GazetteFinds: the law's loop as a contract. -/
namespace Go.Hs
open Go.Hx Go.Proofs
theorem qG18n (ok : Bool) (nn ln : Nat) (len k : Int) (a b c d : Nat) (b1 : Bool) (F : List PV) (b2 : Bool) (Y : List PV) (b3 : Bool) (nm : List PV) :
  runB Try.prog EG2 60 4 (lpb Try.f4 18) [0, 5, 6, 73, 74, 75] [4, 5] (shG18.put (lG18 0 0 ok nn ln len k true [] a b c d 0 0 b1 F b2 Y b3 nm)).1 (shG18.put (lG18 0 0 ok nn ln len k true [] a b c d 0 0 b1 F b2 Y b3 nm)).2 =
  bif decide (k < len) then ixR nm nn ln k (ldR nm nn (
    bif bigS (sNm nm k) then bif okRF 0 0 [] (sNm nm k) then
      ldR F a (ldR Y c (bif okN F Y [] a b c d 0 0 then ldR F a (ldR Y c (bif okRN a b c d 0 0 F Y [] then bif big (namQ F Y [] (sNm nm k)) then
        bif !sameI (namQ F Y [] (sNm nm k)) (rnQ F Y [] (sNm nm k)) then some (rG18 ok true [] a b c d 0 0 b1 F b2 Y b3 nm)
        else some (.normal, shG18.put (lG18 0 0 ok nn ln len (W (k + 1)) true [] a b c d 0 0 b1 F b2 Y b3 nm)) else none else none)) else none)) else none else none))
  else some (xG18 ok true [] a b c d 0 0 b1 F b2 Y b3 nm) := by kernel_rfl
def chkF (es F Y : List PV) (s : ByteArray) : Bool := sameI (findL es s) (idM (rfS es s)) && sameI (namQ F Y es s) (rnQ F Y es s)
def allF (es F Y nm : List PV) (k : Int) : Nat → Bool
  | 0 => true
  | m + 1 => chkF es F Y (sNm nm k) && allF es F Y nm (k + 1) m
def bigW (nm : List PV) : Bool := nm.all fun e => bigS ((e.cellAt 0).getS)
theorem bigW_at {nm : List PV} (h : bigW nm = true) {i : Int} (h1 : 0 ≤ i) (h2 : i < (nm.length : Int)) : bigS (sNm nm i) = true := by
  obtain ⟨hl, he⟩ := rE_of h1 h2
  unfold sNm
  rw [he]; exact List.all_eq_true.1 h _ (List.getElem_mem hl)
noncomputable def pG18 : LS → Bool
  | ([.n n, .n l, .b _, .n nn, .n ln, .i len, .i k], [.l z es, .n a, .n b, .n c, .n d, .n e, .n f, .l _ F, .l _ Y, .l _ nm]) =>
    decide (n = es.length ∧ l = es.length ∧ nn = nm.length ∧ ln = nm.length ∧ len = (nm.length : Int) ∧ a = F.length ∧ b = F.length ∧ c = Y.length ∧ d = Y.length ∧ e = es.length ∧ f = es.length) &&
      (decide (0 ≤ k ∧ k ≤ len ∧ es.length ≤ 15 ∧ nm.length ≤ 10000 ∧ F.length ≤ 1000 ∧ Y.length ≤ 1000) && (bigN es && (normB es && (bigW nm && decide (z = es.isEmpty)))))
  | _ => false
noncomputable def fG18 : LS → DT (PX × List PV × List Row)
  | ([.n _, .n _, .b ok, .n _, .n _, .i len, .i k], [.l z es, .n a, .n b, .n c, .n d, .n e, .n f, .l b1 F, .l b2 Y, .l b3 nm]) =>
    .br (allF es F Y nm k (len - k).toNat) (.leaf (xG18 ok z es a b c d e f b1 F b2 Y b3 nm)) (.leaf (rG18 ok z es a b c d e f b1 F b2 Y b3 nm))
  | _ => .no
def mG18 : LS → Nat
  | ([.n _, .n _, .b _, .n _, .n _, .i len, .i k], [.l _ _, .n _, .n _, .n _, .n _, .n _, .n _, .l _ _, .l _ _, .l _ _]) => (len - k).toNat
  | _ => 0
/-- The round, whether there are places or not. -/
theorem qG18a (ok : Bool) {k : Int} {es : List PV} (b1 : Bool) {F : List PV} (b2 : Bool) {Y : List PV} (b3 : Bool) {nm : List PV} (h0 : 0 ≤ k) (h1 : k < (nm.length : Int)) (h2 : es.length ≤ 15) (h3 : nm.length ≤ 10000) (h4 : F.length ≤ 1000) (h5 : Y.length ≤ 1000) (h6 : bigN es = true) (h7 : normB es = true) (h8 : bigW nm = true) :
  runB Try.prog EG2 60 4 (lpb Try.f4 18) [0, 5, 6, 73, 74, 75] [4, 5] (shG18.put (lG18 es.length es.length ok nm.length nm.length (nm.length : Int) k es.isEmpty es F.length F.length Y.length Y.length es.length es.length b1 F b2 Y b3 nm)).1 (shG18.put (lG18 es.length es.length ok nm.length nm.length (nm.length : Int) k es.isEmpty es F.length F.length Y.length Y.length es.length es.length b1 F b2 Y b3 nm)).2 =
  bif chkF es F Y (sNm nm k) then some (.normal, shG18.put (lG18 es.length es.length ok nm.length nm.length (nm.length : Int) (k + 1) es.isEmpty es F.length F.length Y.length Y.length es.length es.length b1 F b2 Y b3 nm))
    else some (rG18 ok es.isEmpty es F.length F.length Y.length Y.length es.length es.length b1 F b2 Y b3 nm) := by
  have hs := bigW_at h8 h0 h1
  have k1 : okN F Y es F.length F.length Y.length Y.length es.length es.length = true := by
    simp only [okN, decide_eq_true_eq]; exact ⟨trivial, trivial, trivial, trivial, trivial, trivial, by omega, by omega, by omega⟩
  have k2 : okRN F.length F.length Y.length Y.length es.length es.length F Y es = true := by
    simp only [okRN, decide_eq_true_eq]; exact ⟨trivial, trivial, trivial, trivial, trivial, trivial, by omega, by omega, by omega⟩
  have k3 : big (namQ F Y es (sNm nm k)) = true := decide_eq_true (by have := namQ_len F Y es (sNm nm k); omega)
  have k4 : okRF es.length es.length es (sNm nm k) = true := by
    unfold okRF; rw [Bool.and_eq_true, Bool.and_eq_true, Bool.and_eq_true, decide_eq_true_eq]; exact ⟨⟨⟨⟨rfl, rfl, by omega⟩, h6⟩, h7⟩, hs⟩
  have k5 : okFd es.length es.length es (sNm nm k) = true := by
    unfold okFd; simp only [Bool.and_eq_true]
    exact ⟨⟨⟨⟨⟨by simp, by simp⟩, decide_eq_true (by omega)⟩, h6⟩, h7⟩, hs⟩
  have k6 : big (findL es (sNm nm k)) = true := decide_eq_true (by
    unfold findL; rw [List.length_map, sortR_len]
    have : (keepF es (fold (sNm nm k))).length ≤ es.length := List.length_filter_le _ _
    omega)
  have i1 : ∀ {α : Type} (k0 : Option α), ixR nm nm.length nm.length k k0 = k0 := fun k0 => ixR_of rfl h0 h1
  have i2 : ∀ {α : Type} (X : List PV) (k0 : Option α), ldR X X.length k0 = k0 := fun X k0 => ldR_of rfl
  unfold chkF
  cases es with
  | nil =>
    rw [show List.isEmpty ([] : List PV) = true from rfl, show ([] : List PV).length = 0 from rfl, qG18n]
    rw [show ([] : List PV).length = 0 from rfl] at k1 k2 k4
    simp only [i1, i2, decide_eq_true h1, cond_true, hs, k4, k1, k2, k3]
    rw [W_id (by omega) (by omega), show sameI (findL [] (sNm nm k)) (idM (rfS [] (sNm nm k))) = true from rfl, Bool.true_and]
    cases sameI (namQ F Y [] (sNm nm k)) (rnQ F Y [] (sNm nm k)) <;> rfl
  | cons e es =>
    rw [show List.isEmpty (e :: es) = false from rfl, qG18]
    simp only [i1, i2, decide_eq_true h1, cond_true, k5, k6, k4, k1, k2, k3]
    rw [W_id (by omega) (by omega)]
    cases sameI (findL (e :: es) (sNm nm k)) (idM (rfS (e :: es) (sNm nm k))) with
    | false => rfl
    | true => cases sameI (namQ F Y (e :: es) (sNm nm k)) (rnQ F Y (e :: es) (sNm nm k)) <;> rfl
theorem qG18x (ok : Bool) {k : Int} {es : List PV} (b1 : Bool) {F : List PV} (b2 : Bool) {Y : List PV} (b3 : Bool) {nm : List PV} (h1 : ¬ k < (nm.length : Int)) :
  runB Try.prog EG2 60 4 (lpb Try.f4 18) [0, 5, 6, 73, 74, 75] [4, 5] (shG18.put (lG18 es.length es.length ok nm.length nm.length (nm.length : Int) k es.isEmpty es F.length F.length Y.length Y.length es.length es.length b1 F b2 Y b3 nm)).1 (shG18.put (lG18 es.length es.length ok nm.length nm.length (nm.length : Int) k es.isEmpty es F.length F.length Y.length Y.length es.length es.length b1 F b2 Y b3 nm)).2 =
  some (xG18 ok es.isEmpty es F.length F.length Y.length Y.length es.length es.length b1 F b2 Y b3 nm) := by
  cases es with
  | nil => rw [show List.isEmpty ([] : List PV) = true from rfl, show ([] : List PV).length = 0 from rfl, qG18n, decide_eq_false h1]; rfl
  | cons e es => rw [show List.isEmpty (e :: es) = false from rfl, qG18, decide_eq_false h1]; rfl
theorem sG18 : ∀ s r, pG18 s = true → (fG18 s).run = some r → r.1 ≠ .normal ∧ (runB Try.prog EG2 60 4 (lpb Try.f4 18) [0, 5, 6, 73, 74, 75] [4, 5] (shG18.put s).1 (shG18.put s).2 = some r ∨
      ∃ s', runB Try.prog EG2 60 4 (lpb Try.f4 18) [0, 5, 6, 73, 74, 75] [4, 5] (shG18.put s).1 (shG18.put s).2 = some (.normal, shG18.put s') ∧ pG18 s' = true ∧ mG18 s' < mG18 s ∧ (fG18 s').run = some r) := by
  intro t r hp hr
  unfold pG18 at hp; split at hp
  · rename_i n l ok nn ln len k z es a b c d e f b1 F b2 Y b3 nm
    rw [Bool.and_eq_true, Bool.and_eq_true, Bool.and_eq_true, Bool.and_eq_true, Bool.and_eq_true, decide_eq_true_eq, decide_eq_true_eq, decide_eq_true_eq] at hp
    obtain ⟨⟨rfl, rfl, rfl, rfl, rfl, rfl, rfl, rfl, rfl, rfl, rfl⟩, ⟨h2, h3, h4, h5, h6, h7⟩, h8, h9, h10, rfl⟩ := hp
    have hr' := run_br2 hr
    refine ⟨by rw [hr']; cases allF es F Y nm k ((nm.length : Int) - k).toNat <;> simp, ?_⟩
    rw [show shG18.put ([.n es.length, .n es.length, .b ok, .n nm.length, .n nm.length, .i (nm.length : Int), .i k], [.l es.isEmpty es, .n F.length, .n F.length, .n Y.length, .n Y.length, .n es.length, .n es.length, .l b1 F, .l b2 Y, .l b3 nm]) =
      shG18.put (lG18 es.length es.length ok nm.length nm.length (nm.length : Int) k es.isEmpty es F.length F.length Y.length Y.length es.length es.length b1 F b2 Y b3 nm) from rfl]
    by_cases hi : k < (nm.length : Int)
    · rw [qG18a ok b1 b2 b3 h2 hi h4 h5 h6 h7 h8 h9 h10]
      obtain ⟨x, hx⟩ : ∃ x, ((nm.length : Int) - k).toNat = x + 1 := ⟨((nm.length : Int) - k).toNat - 1, by omega⟩
      have hx2 : ((nm.length : Int) - (k + 1)).toNat = x := by omega
      rw [hx] at hr'
      simp only [allF] at hr'
      cases hc : chkF es F Y (sNm nm k) with
      | false =>
        rw [hc, Bool.false_and] at hr'
        exact .inl (by rw [hr']; rfl)
      | true =>
        rw [hc, Bool.true_and] at hr'
        refine .inr ⟨lG18 es.length es.length ok nm.length nm.length (nm.length : Int) (k + 1) es.isEmpty es F.length F.length Y.length Y.length es.length es.length b1 F b2 Y b3 nm, rfl, ?_, by simp only [mG18]; omega, ?_⟩
        · show (_ && (_ && (_ && (_ && (_ && _))))) = true
          rw [Bool.and_eq_true, Bool.and_eq_true, Bool.and_eq_true, Bool.and_eq_true, Bool.and_eq_true, decide_eq_true_eq, decide_eq_true_eq, decide_eq_true_eq]
          exact ⟨⟨rfl, rfl, rfl, rfl, rfl, rfl, rfl, rfl, rfl, rfl, rfl⟩, ⟨by omega, by omega, h4, h5, h6, h7⟩, h8, h9, h10, rfl⟩
        · rw [hr']
          simp only [fG18, hx2]
          cases allF es F Y nm (k + 1) x <;> rfl
    · rw [qG18x ok b1 b2 b3 hi]
      rw [show ((nm.length : Int) - k).toNat = 0 by omega] at hr'
      exact .inl (by rw [hr']; rfl)
  · cases hp
noncomputable def EG3 : EnvK := EG2.addW 4 18 [0, 5, 6, 73, 74, 75] [] shG18 pG18 fG18
theorem okG3 : EnvOK Try.prog EG3.env :=
  okG2.addW (n := 60) Try.func4 (show Try.f4.body = some (bod Try.f4) by kernel_rfl) (show (loops (bod Try.f4)).filter (fun b => rid b == 18) = [lpb Try.f4 18] by kernel_rfl) [0, 5, 6, 73, 74, 75] [4, 5] [] shG18 mG18 sG18
end Go.Hs
/- Strings (gazette): GazetteFinds as a plain function. -/
namespace Go.Hs
open Go.Hx Go.Proofs
def wW (r : List PV) (p : ByteArray) : List PV := [sv (cutS p), sv em] ++ wL r 0 ((r.length : Int) - 0).toNat
def mFc (r : List PV) : List PV := [] ++ g1L r 0 ((r.length : Int) - 0).toNat
def mYc (r : List PV) : List PV := [] ++ g2L r 0 ((r.length : Int) - 0).toNat
noncomputable def finT (r : List PV) (p : ByteArray) : Option PV :=
  bif r.length == 0 then bif pG18 (lG18 0 0 true 2 2 2 0 true [] 0 0 0 0 0 0 true [] true [] false [sv (cutS p), sv em]) then bif allF [] [] [] [sv (cutS p), sv em] 0 2 then some (bv true) else some (bv false) else none else
  bif pG5 (lG5 r.length r.length p true r.length r.length (r.length : Int) 0 false r 0 0 0 0 r.length r.length true [] true []) then
  bif pG13 (lG13 r.length r.length true 2 2 r.length r.length (r.length : Int) 0 false r (mFc r).length (mFc r).length (mYc r).length (mYc r).length r.length r.length (true && (g1L r 0 ((r.length : Int) - 0).toNat).isEmpty) (mFc r) (true && (g2L r 0 ((r.length : Int) - 0).toNat).isEmpty) (mYc r) false [sv (cutS p), sv em]) then
  bif pG18 (lG18 r.length r.length true (wW r p).length (wW r p).length ((wW r p).length : Int) 0 false r (mFc r).length (mFc r).length (mYc r).length (mYc r).length r.length r.length (true && (g1L r 0 ((r.length : Int) - 0).toNat).isEmpty) (mFc r) (true && (g2L r 0 ((r.length : Int) - 0).toNat).isEmpty) (mYc r) (false && (wL r 0 ((r.length : Int) - 0).toNat).isEmpty) (wW r p)) then
  bif allF r (mFc r) (mYc r) (wW r p) 0 (((wW r p).length : Int) - 0).toNat then some (bv true) else some (bv false) else none else none else none
theorem qFin (f : Bool) (L : List PV) (p : ByteArray) : runP Try.prog EG3 80 4 [.lst f 36 L, sv p] = finT ([] ++ plsL L 0 (mn10 L - 0)) p := by kernel_rfl
end Go.Hs
/- Strings (gazette): GazetteNamed as a plain function. -/
namespace Go.Hs
open Go.Hx Go.Proofs
noncomputable def namT (r : List PV) (p : ByteArray) : Option PV :=
  bif r.length == 0 then bif allN [] [] [] [] [sv (cutS p), sv em] 0 2 then some (bv true) else some (bv false) else
  bif pL6 (lL6 r.length r.length true 2 2 r.length r.length (r.length : Int) 0 false r 0 0 0 0 0 0 false [sv (cutS p), sv em] true [] true [] true []) then
  bif pL8 (lL8 r.length r.length true ([sv (cutS p), sv em] ++ nmL r 0 ((r.length : Int) - 0).toNat).length ([sv (cutS p), sv em] ++ nmL r 0 ((r.length : Int) - 0).toNat).length (([sv (cutS p), sv em] ++ nmL r 0 ((r.length : Int) - 0).toNat).length : Int) 0 false r
    ([] ++ fL r 0 ((r.length : Int) - 0).toNat).length ([] ++ fL r 0 ((r.length : Int) - 0).toNat).length ([] ++ yL r 0 ((r.length : Int) - 0).toNat).length ([] ++ yL r 0 ((r.length : Int) - 0).toNat).length ([] ++ qL r 0 ((r.length : Int) - 0).toNat).length ([] ++ qL r 0 ((r.length : Int) - 0).toNat).length
    false ([sv (cutS p), sv em] ++ nmL r 0 ((r.length : Int) - 0).toNat) true ([] ++ fL r 0 ((r.length : Int) - 0).toNat) true ([] ++ yL r 0 ((r.length : Int) - 0).toNat) true ([] ++ qL r 0 ((r.length : Int) - 0).toNat)) then
  bif allN r ([] ++ fL r 0 ((r.length : Int) - 0).toNat) ([] ++ yL r 0 ((r.length : Int) - 0).toNat) ([] ++ qL r 0 ((r.length : Int) - 0).toNat) ([sv (cutS p), sv em] ++ nmL r 0 ((r.length : Int) - 0).toNat) 0 ((([sv (cutS p), sv em] ++ nmL r 0 ((r.length : Int) - 0).toNat).length : Int) - 0).toNat
    then some (bv true) else some (bv false) else none else none
theorem qNamL (f : Bool) (L : List PV) (p : ByteArray) : runP Try.prog EL4 80 8 [.lst f 36 L, sv p] = namT ([] ++ plsL L 0 (mn10 L - 0)) p := by kernel_rfl
end Go.Hs
/- Strings (gazette): GazetteNamed answers true. -/
namespace Go.Hs
open Go.Hx Go.Proofs
/-- The numbers from k on, m of them, for which q holds. -/
def selI (q : Int → Bool) (k : Int) : Nat → List Int
  | 0 => []
  | m + 1 => bif q k then k :: selI q (k + 1) m else selI q (k + 1) m
theorem selI_ge (q : Int → Bool) : ∀ (m : Nat) (k x : Int), x ∈ selI q k m → k ≤ x
  | 0, _, _, h => by cases h
  | m + 1, k, x, h => by
    simp only [selI] at h
    cases hq : q k with
    | true =>
      rw [hq] at h
      rcases List.mem_cons.1 h with rfl | h
      · exact Int.le_refl _
      · have := selI_ge q m (k + 1) x h; omega
    | false => rw [hq] at h; have := selI_ge q m (k + 1) x h; omega
theorem selI_sorted (q : Int → Bool) : ∀ (m : Nat) (k : Int), (selI q k m).Pairwise (· ≤ ·)
  | 0, _ => .nil
  | m + 1, k => by
    simp only [selI]
    cases q k with
    | true => exact .cons (fun x hx => by have := selI_ge q m (k + 1) x hx; omega) (selI_sorted q m (k + 1))
    | false => exact selI_sorted q m (k + 1)
theorem selI_false (q : Int → Bool) (h : ∀ k, q k = false) : ∀ (m : Nat) (k : Int), selI q k m = []
  | 0, _ => rfl
  | m + 1, k => by simp only [selI, h k, cond_false]; exact selI_false q h m (k + 1)
theorem selI_parts (h : Int → Bool) : ∀ (m : Nat) (k : Int),
    (selI (fun k => !(k.tmod 3 == 0) && (k.tmod 3 == 1) && h k) k m ++ selI (fun k => (k.tmod 3 == 0) && h k) k m ++ selI (fun k => !(k.tmod 3 == 0) && !(k.tmod 3 == 1) && h k) k m).Perm (selI h k m)
  | 0, _ => .refl _
  | m + 1, k => by
    have ih := selI_parts h m (k + 1)
    simp only [selI]
    cases h k with
    | false => simpa using ih
    | true =>
      cases c0 : k.tmod 3 == 0 with
      | true =>
        simp only [Bool.not_true, Bool.false_and, Bool.true_and, cond_false, cond_true]
        refine List.Perm.trans ?_ (ih.cons k)
        rw [List.append_assoc, List.append_assoc]
        exact List.perm_middle
      | false =>
        cases c1 : k.tmod 3 == 1 with
        | true =>
          simp only [Bool.not_true, Bool.not_false, Bool.and_false, Bool.true_and, Bool.false_and, cond_false, cond_true, List.cons_append]
          exact ih.cons k
        | false =>
          simp only [Bool.not_false, Bool.and_false, Bool.true_and, Bool.false_and, cond_false, cond_true]
          exact List.perm_middle.trans (ih.cons k)
/-- The Ids of those with a name, as a filter. -/
theorem idsN_filter (c : Nat) (s : ByteArray) (L : List PV) : ∀ (m i : Nat), i + m = L.length → idsN c s L (i : Int) m = ((L.drop i).filter (isN c s)).map fun e => iv (idN e)
  | 0, i, h => by rw [List.drop_of_length_le (by omega)]; rfl
  | m + 1, i, h => by
    rw [List.drop_eq_getElem_cons (by omega), idsN, show (i : Int) + 1 = ((i + 1 : Nat) : Int) by omega, idsN_filter c s L m (i + 1) (by omega)]
    have e : rE L (i : Int) = L[i] := by unfold rE; rw [Int.toNat_natCast, Nat.zero_add, List.getD_eq_getElem?_getD, List.getElem?_eq_getElem (by omega)]; rfl
    rw [e, List.filter_cons]
    cases isN c s L[i] with
    | true => rfl
    | false => rfl
theorem nums_map (l : List PV) (g : PV → Int) : nums (l.map fun e => iv (g e)) = l.map g := by
  unfold nums; rw [List.map_map]; rfl
theorem fL_ids (s : ByteArray) (r : List PV) : ∀ (m : Nat) (k : Int), ((fL r k m).filter (isN 2 s)).map idN = selI (fun k => !(k.tmod 3 == 0) && (k.tmod 3 == 1) && ((pNm (rE r k)).toList == s.toList)) k m
  | 0, _ => rfl
  | m + 1, k => by
    have ih := fL_ids s r m (k + 1)
    simp only [fL, selI]
    cases k.tmod 3 == 0 with
    | true => simpa using ih
    | false =>
      cases k.tmod 3 == 1 with
      | false => simpa using ih
      | true =>
        simp only [Bool.not_false, Bool.true_and, cond_false, cond_true]
        rw [List.filter_cons, show isN 2 s (mkF k (pNm (rE r k))) = ((pNm (rE r k)).toList == s.toList) from rfl]
        cases (pNm (rE r k)).toList == s.toList with
        | true => simp only [cond_true, if_true, List.map_cons]; rw [ih]; rfl
        | false => simpa using ih
theorem yL_ids (s : ByteArray) (r : List PV) : ∀ (m : Nat) (k : Int), ((yL r k m).filter (isN 4 s)).map idN = selI (fun k => (k.tmod 3 == 0) && ((pNm (rE r k)).toList == s.toList)) k m
  | 0, _ => rfl
  | m + 1, k => by
    have ih := yL_ids s r m (k + 1)
    simp only [yL, selI]
    cases k.tmod 3 == 0 with
    | false => simpa using ih
    | true =>
      simp only [Bool.true_and, cond_true]
      rw [List.filter_cons, show isN 4 s (mkY k (pNm (rE r k))) = ((pNm (rE r k)).toList == s.toList) from rfl]
      cases (pNm (rE r k)).toList == s.toList with
      | true => simp only [cond_true, if_true, List.map_cons]; rw [ih]; rfl
      | false => simpa using ih
theorem qL_ids (s : ByteArray) (r : List PV) : ∀ (m : Nat) (k : Int), ((qL r k m).filter (isN 4 s)).map idN = selI (fun k => !(k.tmod 3 == 0) && !(k.tmod 3 == 1) && ((pNm (rE r k)).toList == s.toList)) k m
  | 0, _ => rfl
  | m + 1, k => by
    have ih := qL_ids s r m (k + 1)
    simp only [qL, selI]
    cases k.tmod 3 == 0 with
    | true => simpa using ih
    | false =>
      cases k.tmod 3 == 1 with
      | true => simpa using ih
      | false =>
        simp only [Bool.not_false, Bool.true_and, cond_false]
        rw [List.filter_cons, show isN 4 s (pl k 0 0 em (pNm (rE r k)) 0 0) = ((pNm (rE r k)).toList == s.toList) from rfl]
        cases (pNm (rE r k)).toList == s.toList with
        | true => simp only [cond_true, if_true, List.map_cons]; rw [ih]; rfl
        | false => simpa using ih
theorem wanL_sel (s : ByteArray) (r : List PV) (hs : (s.toList == em.toList) = false) : ∀ (m : Nat) (k : Int), wanL s r k m = (selI (fun k => (pNm (rE r k)).toList == s.toList) k m).map iv
  | 0, _ => rfl
  | m + 1, k => by
    have ih := wanL_sel s r hs m (k + 1)
    simp only [wanL, selI, hs, Bool.not_false, cond_true]
    cases (pNm (rE r k)).toList == s.toList with
    | true => simp only [cond_true, List.map_cons]; rw [ih]
    | false => simpa using ih
theorem wanL_em (s : ByteArray) (r : List PV) (hs : (s.toList == em.toList) = true) : ∀ (m : Nat) (k : Int), wanL s r k m = []
  | 0, _ => rfl
  | m + 1, k => by
    have ih := wanL_em s r hs m (k + 1)
    simp only [wanL, hs, Bool.not_true, cond_false]
    cases (pNm (rE r k)).toList == s.toList <;> simpa using ih
theorem n_all (c : Nat) (L : List PV) (s : ByteArray) : idsN c s L 0 ((L.length : Int) - 0).toNat = (L.filter (isN c s)).map fun e => iv (idN e) := by
  rw [show ((L.length : Int) - 0).toNat = L.length by omega]
  have := idsN_filter c s L L.length 0 (by omega)
  simpa using this
theorem mem_iv {l : List PV} {g : PV → Int} : (l.map fun e => iv (g e)) = (l.map g).map iv := by rw [List.map_map]; rfl
theorem chkN_true (r : List PV) (s : ByteArray) : chkN r ([] ++ fL r 0 ((r.length : Int) - 0).toNat) ([] ++ yL r 0 ((r.length : Int) - 0).toNat) ([] ++ qL r 0 ((r.length : Int) - 0).toNat) s = true := by
  unfold chkN
  have e : namQ ([] ++ fL r 0 ((r.length : Int) - 0).toNat) ([] ++ yL r 0 ((r.length : Int) - 0).toNat) ([] ++ qL r 0 ((r.length : Int) - 0).toNat) s = wanA s r r.length := by
    simp only [List.nil_append, wanA, namQ]
    cases hs : s.toList == em.toList with
    | true => rw [wanL_em s r hs]; rfl
    | false =>
      rw [wanL_sel s r hs, cond_false]
      unfold namL n1 n2
      rw [n_all, n_all, n_all]
      unfold srtI
      congr 1
      have h1 : nums (((fL r 0 ((r.length : Int) - 0).toNat).filter (isN 2 s)).map (fun e => iv (idN e)) ++ ((yL r 0 ((r.length : Int) - 0).toNat).filter (isN 4 s)).map (fun e => iv (idN e)) ++ ((qL r 0 ((r.length : Int) - 0).toNat).filter (isN 4 s)).map fun e => iv (idN e)) =
          selI (fun k => !(k.tmod 3 == 0) && (k.tmod 3 == 1) && ((pNm (rE r k)).toList == s.toList)) 0 ((r.length : Int) - 0).toNat ++ selI (fun k => (k.tmod 3 == 0) && ((pNm (rE r k)).toList == s.toList)) 0 ((r.length : Int) - 0).toNat ++ selI (fun k => !(k.tmod 3 == 0) && !(k.tmod 3 == 1) && ((pNm (rE r k)).toList == s.toList)) 0 ((r.length : Int) - 0).toNat := by
        have hn : ∀ a b : List PV, nums (a ++ b) = nums a ++ nums b := fun a b => by simp [nums]
        rw [hn, hn, nums_map, nums_map, nums_map, fL_ids, yL_ids, qL_ids]
      rw [h1]
      have hp := selI_parts (fun k => (pNm (rE r k)).toList == s.toList) ((r.length : Int) - 0).toNat 0
      refine List.Perm.eq_of_pairwise (le := fun a b : Int => a ≤ b) (fun a b _ _ h1 h2 => Int.le_antisymm h1 h2) ?_ (selI_sorted _ _ _) ((List.mergeSort_perm _ _).trans hp)
      have := List.pairwise_mergeSort (le := fun x y : Int => decide (x ≤ y)) (fun a b c h1 h2 => by simp only [decide_eq_true_eq] at *; omega) (fun a b => by simp only [Bool.or_eq_true, decide_eq_true_eq]; omega)
        (selI (fun k => !(k.tmod 3 == 0) && (k.tmod 3 == 1) && ((pNm (rE r k)).toList == s.toList)) 0 ((r.length : Int) - 0).toNat ++ selI (fun k => (k.tmod 3 == 0) && ((pNm (rE r k)).toList == s.toList)) 0 ((r.length : Int) - 0).toNat ++ selI (fun k => !(k.tmod 3 == 0) && !(k.tmod 3 == 1) && ((pNm (rE r k)).toList == s.toList)) 0 ((r.length : Int) - 0).toNat)
      exact this.imp fun h => by simpa using h
  rw [e, sameI_self]
theorem allN_true {r F Y Q nm : List PV} (h : ∀ s, chkN r F Y Q s = true) : ∀ (m : Nat) (k : Int), allN r F Y Q nm k m = true
  | 0, _ => rfl
  | m + 1, k => by rw [allN, h, allN_true h m]; rfl
theorem parts_len (r : List PV) : ∀ (m : Nat) (k : Int), (nmL r k m).length = m ∧ (fL r k m).length ≤ m ∧ (yL r k m).length ≤ m ∧ (qL r k m).length ≤ m
  | 0, _ => ⟨rfl, Nat.le_refl _, Nat.le_refl _, Nat.le_refl _⟩
  | m + 1, k => by
    obtain ⟨h1, h2, h3, h4⟩ := parts_len r m (k + 1)
    simp only [nmL, fL, yL, qL]
    cases k.tmod 3 == 0 <;> cases k.tmod 3 == 1 <;> simp <;> omega
theorem namT_eq {r : List PV} (hr : r.length ≤ 10) (p : ByteArray) : namT r p = some (bv true) := by
  unfold namT
  cases h0 : r.length == 0 with
  | true =>
    have hr0 : r = [] := by simpa using h0
    have := allN_true (r := []) (F := []) (Y := []) (Q := []) (nm := [sv (cutS p), sv em]) (fun s => chkN_true [] s) 2 0
    rw [cond_true, this]; rfl
  | false =>
    obtain ⟨h1, h2, h3, h4⟩ := parts_len r ((r.length : Int) - 0).toNat 0
    rw [cond_false, allN_true (chkN_true r)]
    have k1 : pL6 (lL6 r.length r.length true 2 2 r.length r.length (r.length : Int) 0 false r 0 0 0 0 0 0 false [sv (cutS p), sv em] true [] true [] true []) = true := by
      simp [pL6]; omega
    rw [k1, cond_true]
    have k2 : ∀ (nm F Y Q : List PV), nm.length ≤ 10000 → F.length ≤ 1000 → Y.length ≤ 1000 → Q.length ≤ 1000 → pL8 (lL8 r.length r.length true nm.length nm.length (nm.length : Int) 0 false r F.length F.length Y.length Y.length Q.length Q.length false nm true F true Y true Q) = true := by
      intro nm F Y Q g1 g2 g3 g4
      simp [pL8]; omega
    rw [k2 _ _ _ _ (by simp only [List.length_append, List.length_cons, List.length_nil, h1]; omega) (by rw [List.nil_append]; omega) (by rw [List.nil_append]; omega) (by rw [List.nil_append]; omega)]
    rfl
theorem lawNamed (f : Bool) (L : List PV) (p : ByteArray) : Hx.Enters Try.prog 8 ∧ PCall Try.prog 8 [.lst f 36 L, sv p] (bv true) := by
  refine runP_sound okL4 (n := 80) ((qNamL f L p).trans ?_)
  refine namT_eq ?_ p
  rw [List.nil_append, plsL_len]; unfold mn10; omega
end Go.Hs
/- Strings (gazette): GazettePrefix: the law. -/
namespace Go.Hs
open Go.Hx Go.Proofs
def cntN (es : List PV) (c : Int) (i : Int) : Nat → Int
  | 0 => c
  | m + 1 => cntN es (bif !((pNm (rE es i)).toList == nilS.toList) then c + 1 else c) (i + 1) m
def pN1 : LS → Bool
  | ([.n _, .n _, .b _, .s _, .l false _, .i _, .i c, .n n2, .n l2, .i len, .i i], [.l false es]) => decide (n2 = es.length) && decide (l2 = es.length) && decide (len = (es.length : Int)) && decide (0 ≤ i) && decide (i ≤ len) && decide (0 ≤ c) && decide (c ≤ i) && decide (es.length ≤ 1000)
  | _ => false
noncomputable def fN1 : LS → DT (PX × List PV × List Row)
  | ([.n n, .n l, .b ok, .s s, .l false few, .i k, .i c, .n _, .n _, .i len, .i i], [.l false es]) => .leaf (xN1 n l ok s few k (cntN es c i (len - i).toNat) es)
  | _ => .no
def mN1 : LS → Nat
  | ([.n _, .n _, .b _, .s _, .l false _, .i _, .i _, .n _, .n _, .i len, .i i], [.l false _]) => (len - i).toNat
  | _ => 0
theorem sN1 : ∀ s r, pN1 s = true → (fN1 s).run = some r → r.1 ≠ .normal ∧ (runB Try.prog E32 60 6 (lpb Try.f6 18) [0, 7, 8, 10, 12, 15, 80, 81, 82] [0, 7, 8, 10, 12, 15] (shN1.put s).1 (shN1.put s).2 = some r ∨
      ∃ s', runB Try.prog E32 60 6 (lpb Try.f6 18) [0, 7, 8, 10, 12, 15, 80, 81, 82] [0, 7, 8, 10, 12, 15] (shN1.put s).1 (shN1.put s).2 = some (.normal, shN1.put s') ∧ pN1 s' = true ∧ mN1 s' < mN1 s ∧ (fN1 s').run = some r) := by
  intro t r hp hr
  unfold pN1 at hp; split at hp
  · rename_i n l ok s few k c n2 l2 len i es
    simp only [Bool.and_eq_true, decide_eq_true_eq] at hp
    obtain ⟨⟨⟨⟨⟨⟨⟨rfl, rfl⟩, rfl⟩, h2⟩, h3⟩, h4⟩, h5⟩, h6⟩ := hp
    have hr' := (Option.some.inj hr).symm
    refine ⟨by rw [hr']; simp, ?_⟩
    rw [show shN1.put ([.n n, .n l, .b ok, .s s, .l false few, .i k, .i c, .n es.length, .n es.length, .i (es.length : Int), .i i], [.l false es]) = shN1.put (lN1 n l ok s few k c es.length es.length (es.length : Int) i es) from rfl, qN1]
    by_cases hi : i < (es.length : Int)
    · rw [decide_eq_true hi, cond_true, ixR_of rfl h2 hi, ldR_of rfl, W_id (n := i + 1) (by omega) (by omega), W_id (n := c + 1) (by omega) (by omega)]
      obtain ⟨m, hm⟩ : ∃ m, ((es.length : Int) - i).toNat = m + 1 := ⟨((es.length : Int) - i).toNat - 1, by omega⟩
      have hm2 : ((es.length : Int) - (i + 1)).toNat = m := by omega
      rw [hm] at hr'
      simp only [cntN] at hr'
      cases he : (pNm (rE es i)).toList == nilS.toList with
      | true =>
        rw [he] at hr'
        refine .inr ⟨lN1 n l ok s few k c es.length es.length (es.length : Int) (i + 1) es, rfl, by simp [pN1]; omega, by simp only [mN1]; omega, ?_⟩
        rw [hr']; simp only [fN1, hm2]; rfl
      | false =>
        rw [he] at hr'
        refine .inr ⟨lN1 n l ok s few k (c + 1) es.length es.length (es.length : Int) (i + 1) es, rfl, by simp [pN1]; omega, by simp only [mN1]; omega, ?_⟩
        rw [hr']; simp only [fN1, hm2]; rfl
    · rw [decide_eq_false hi]
      rw [show ((es.length : Int) - i).toNat = 0 by omega] at hr'
      exact .inl (by rw [hr']; rfl)
  · cases hp
noncomputable def E33 : EnvK := E32.addW 6 18 [0, 7, 8, 10, 12, 15, 80, 81, 82] [] shN1 pN1 fN1
theorem ok33 : EnvOK Try.prog E33.env :=
  ok32.addW (n := 60) Try.func6 (show Try.f6.body = some (bod Try.f6) by kernel_rfl) (show (loops (bod Try.f6)).filter (fun b => rid b == 18) = [lpb Try.f6 18] by kernel_rfl) [0, 7, 8, 10, 12, 15, 80, 81, 82] [0, 7, 8, 10, 12, 15] [] shN1 mN1 sN1
def slT (s : ByteArray) (b : Int) {α : Type} (k : Option α) : Option α := bif decide ((0 : Int) ≤ 0) && decide (0 ≤ b) && decide (b ≤ (s.size : Int)) then k else none
noncomputable def fdR (r : List PV) (p : ByteArray) {α : Type} (k : Option α) : Option α := ldR r r.length (bif okFd r.length r.length r p then k else none)
noncomputable def endPre (r : List PV) (s : ByteArray) (few : List PV) (k c : Int) : Option PV :=
  bif k == (few.length : Int) then fdR r nilS (bif ((findL r nilS).length : Int) == c then bif bigS s then fdR r (fold s) (bif big (findL r (fold s)) then some (bv (sameI (findL r (fold s)) few)) else none) else none else some (bv false)) else some (bv false)
noncomputable def midPre (r : List PV) (s sh : ByteArray) : Option PV :=
  fdR r s (fdR r sh (bif pG1 (lG1 r.length r.length true s (findL r s) 0 false (findL r sh) ((findL r sh).length : Int) 0 r) then
    bif pN1 (lN1 r.length r.length true s (findL r s) (gr (findL r s) 0 (findL r sh) 0 (((findL r sh).length : Int) - 0).toNat) 0 r.length r.length (r.length : Int) 0 r) then
      endPre r s (findL r s) (gr (findL r s) 0 (findL r sh) 0 (((findL r sh).length : Int) - 0).toNat) (cntN r 0 0 ((r.length : Int) - 0).toNat) else none else none))
def cut1 (nm : ByteArray) (o : Int) : ByteArray := nm.extract 0 (Int.tmod (W o) (W ((nm.size : Int) + 1))).toNat
def cut2 (s : ByteArray) : ByteArray := s.extract 0 (W (Int.tdiv (s.size : Int) 2)).toNat
noncomputable def strPre (r : List PV) (nm : ByteArray) (o : Int) : Option PV :=
  bif !decide (W ((nm.size : Int) + 1) = 0) then slT nm (Int.tmod (W o) (W ((nm.size : Int) + 1))) (slT (cut1 nm o) (W (Int.tdiv ((cut1 nm o).size : Int) 2)) (midPre r (cut1 nm o) (cut2 (cut1 nm o)))) else none
noncomputable def preT (r : List PV) (w o : Int) : Option PV :=
  bif r.length == 0 then some (bv true) else bif (r.length : Int) == 0 then fdR r nilS (some (bv (((findL r nilS).length : Int) == 0))) else
  bif !decide ((r.length : Int) = 0) then ixR r r.length r.length (Int.tmod (W w) (r.length : Int)) (ldR r r.length (ldR r r.length (strPre r (pNm (rE r (Int.tmod (W w) (r.length : Int)))) o))) else none
theorem qPre (f : Bool) (L : List PV) (w o : Int) : runP Try.prog E33 80 6 [.lst f 36 L, .val (.int .u8 w), .val (.int .u8 o)] = preT ([] ++ plsL L 0 (mn10 L - 0)) w o := by kernel_rfl
end Go.Hs
/- Strings (gazette), plain: the sort and a part; prefixes. -/
namespace Go.Hs
open Go.Hx Go.Proofs Go.Lib
theorem cmpP_neg (a b : PV) : cmpP b a = - cmpP a b := by
  unfold cmpP cmp3
  have h2 := cmpN_neg (pNm a) (pNm b)
  have h1 : cmpI (pWt a) (pWt b) = - cmpI (pWt b) (pWt a) := by unfold cmpI; split <;> split <;> (try split) <;> omega
  have h3 : cmpI (pId b) (pId a) = - cmpI (pId a) (pId b) := by unfold cmpI; split <;> split <;> (try split) <;> omega
  rw [h1, h2, h3]
  generalize cmpI (pWt b) (pWt a) = x
  generalize cmpN (pNm a) (pNm b) = y
  have e : ∀ n : Int, (-n != 0) = (n != 0) := fun n => by
    by_cases h : n = 0
    · subst h; rfl
    · rw [bne_iff_ne.2 h, bne_iff_ne.2 (by omega)]
  rw [e, e]
  cases x != 0 <;> cases y != 0 <;> rfl
theorem cmpP_lt (a b : PV) : cmpP a b < 0 ↔ pWt b < pWt a ∨ (pWt a = pWt b ∧ (cmpN (pNm a) (pNm b) < 0 ∨ (pNm a = pNm b ∧ pId a < pId b))) := by
  unfold cmpP cmp3
  by_cases h1 : pWt a = pWt b
  · rw [show cmpI (pWt b) (pWt a) = 0 by unfold cmpI; rw [if_neg (by omega), if_neg (by omega)]]
    by_cases h2 : pNm a = pNm b
    · rw [(cmpN_zero _ _).2 h2]
      simp only [bne_self_eq_false, cond_false]
      unfold cmpI
      constructor
      · intro h; refine .inr ⟨h1, .inr ⟨h2, ?_⟩⟩; split at h <;> (try split at h) <;> omega
      · rintro (h | ⟨_, h | ⟨_, h⟩⟩)
        · omega
        · omega
        · rw [if_pos h]; omega
    · have hz : cmpN (pNm a) (pNm b) ≠ 0 := fun t => h2 ((cmpN_zero _ _).1 t)
      simp only [bne_self_eq_false, cond_false, bne_iff_ne.2 hz, cond_true]
      constructor
      · intro h; exact .inr ⟨h1, .inl h⟩
      · rintro (h | ⟨_, h | ⟨h, _⟩⟩)
        · omega
        · exact h
        · exact absurd h h2
  · have hz : cmpI (pWt b) (pWt a) ≠ 0 := by unfold cmpI; split <;> (try split) <;> omega
    rw [bne_iff_ne.2 hz, cond_true]
    unfold cmpI
    constructor
    · intro h; left; split at h <;> (try split at h) <;> omega
    · rintro (h | ⟨h, _⟩)
      · rw [if_pos h]; omega
      · exact absurd h h1
theorem cmpN_le {a b c : ByteArray} (h : cmpN a b ≤ 0) (k : cmpN b c ≤ 0) : cmpN a c ≤ 0 := by
  by_cases h1 : cmpN a b = 0
  · rw [(cmpN_zero _ _).1 h1]; exact k
  · by_cases h2 : cmpN b c = 0
    · rw [← (cmpN_zero _ _).1 h2]; exact h
    · have := cmpN_trans (a := a) (b := b) (c := c) (by omega) (by omega); omega
/-- Not before. -/
abbrev Nb (a b : PV) : Prop := ¬ cmpP a b < 0
theorem nb_trans {x y z : PV} (h : Nb x y) (k : Nb y z) : Nb x z := by
  unfold Nb at *
  rw [cmpP_lt] at *
  intro g
  have n1 := cmpN_neg (pNm x) (pNm y)
  have n2 := cmpN_neg (pNm y) (pNm z)
  have n3 := cmpN_neg (pNm x) (pNm z)
  have w1 : pWt x ≤ pWt y := by
    by_cases t : pWt y < pWt x
    · exact absurd (.inl t) h
    · omega
  have w2 : pWt y ≤ pWt z := by
    by_cases t : pWt z < pWt y
    · exact absurd (.inl t) k
    · omega
  rcases g with g | ⟨g1, g⟩
  · omega
  · have e1 : pWt x = pWt y := by omega
    have e2 : pWt y = pWt z := by omega
    have a1 : ¬ cmpN (pNm x) (pNm y) < 0 := fun t => h (.inr ⟨e1, .inl t⟩)
    have a2 : ¬ cmpN (pNm y) (pNm z) < 0 := fun t => k (.inr ⟨e2, .inl t⟩)
    have a3 := cmpN_le (a := pNm z) (b := pNm y) (c := pNm x) (by omega) (by omega)
    rcases g with g | ⟨g2, g3⟩
    · omega
    · rw [← g2] at a2
      have n4 : cmpN (pNm x) (pNm y) = 0 := by omega
      have e3 := (cmpN_zero _ _).1 n4
      have e4 : pNm y = pNm z := by rw [← e3, g2]
      have i1 : ¬ pId x < pId y := fun t => h (.inr ⟨e1, .inr ⟨e3, t⟩⟩)
      have i2 : ¬ pId y < pId z := fun t => k (.inr ⟨e2, .inr ⟨e4, t⟩⟩)
      omega
theorem nb_of {x y : PV} (h : cmpP x y < 0) : Nb y x := by unfold Nb; rw [cmpP_neg x y]; omega
theorem insRev_sorted {x : PV} : ∀ {S : List PV}, S.Pairwise Nb → (insRev x S).Pairwise Nb
  | [], _ => by simp [insRev]
  | y :: r, h => by
    rw [List.pairwise_cons] at h
    rw [insRev]
    by_cases hc : cmpP x y < 0
    · rw [decide_eq_true hc, cond_true, List.pairwise_cons]
      refine ⟨fun z hz => ?_, insRev_sorted h.2⟩
      rcases insRev_mem.1 hz with rfl | hz
      · exact nb_of hc
      · exact h.1 z hz
    · rw [decide_eq_false hc, cond_false, List.pairwise_cons, List.pairwise_cons]
      refine ⟨fun z hz => ?_, h⟩
      rcases List.mem_cons.1 hz with rfl | hz
      · exact hc
      · exact nb_trans hc (h.1 z hz)
theorem insRev_all {x : PV} : ∀ {S : List PV}, (∀ z ∈ S, Nb x z) → insRev x S = x :: S
  | [], _ => rfl
  | y :: r, h => by rw [insRev, decide_eq_false (h y (by simp))]; rfl
theorem insRev_keep (q : PV → Bool) {x : PV} (hx : q x = true) : ∀ {S : List PV}, S.Pairwise Nb → (insRev x S).filter q = insRev x (S.filter q)
  | [], _ => by simp [insRev, hx]
  | y :: r, h => by
    rw [List.pairwise_cons] at h
    rw [insRev]
    by_cases hc : cmpP x y < 0
    · rw [decide_eq_true hc, cond_true, List.filter_cons, List.filter_cons, insRev_keep q hx h.2]
      cases q y with
      | true => rw [if_pos rfl, if_pos rfl, insRev, decide_eq_true hc]; rfl
      | false => rfl
    · rw [decide_eq_false hc, cond_false, List.filter_cons, if_pos hx, insRev_all]
      intro z hz
      rcases List.mem_cons.1 (List.mem_filter.1 hz).1 with rfl | hz
      · exact hc
      · exact nb_trans hc (h.1 z hz)
theorem insRev_drop (q : PV → Bool) {x : PV} (hx : q x = false) : ∀ S : List PV, (insRev x S).filter q = S.filter q
  | [] => by simp [insRev, hx]
  | y :: r => by
    rw [insRev]
    cases decide (cmpP x y < 0) with
    | true => rw [cond_true, List.filter_cons, List.filter_cons, insRev_drop q hx r]
    | false => rw [cond_false, List.filter_cons, hx]; rfl
theorem foldl_keep (q : PV → Bool) : ∀ (K S : List PV), S.Pairwise Nb → (K.foldl (fun S e => insRev e S) S).filter q = (K.filter q).foldl (fun S e => insRev e S) (S.filter q)
  | [], _, _ => rfl
  | e :: K, S, h => by
    rw [List.foldl_cons, foldl_keep q K _ (insRev_sorted h), List.filter_cons]
    cases hq : q e with
    | true => rw [insRev_keep q hq h]; rfl
    | false => rw [insRev_drop q hq]; rfl
theorem sortR_keep (q : PV → Bool) (K : List PV) : sortR (K.filter q) = (sortR K).filter q := by
  unfold sortR
  rw [List.filter_reverse, foldl_keep q K [] List.Pairwise.nil]; rfl
/-! Prefixes. -/
theorem hasP_iff (s p : ByteArray) : hasP s p = true ↔ bl p <+: bl s := by
  unfold hasP
  rw [Bool.and_eq_true, decide_eq_true_eq, beq_iff_eq, toL, toL]
  have e : bl (s.extract 0 (p.size : Int).toNat) = (bl s).take p.size := by
    unfold bl
    simp [ByteArray.data_extract]
  have hp : (bl p).length = p.size := Array.length_toList
  rw [e, List.prefix_iff_eq_take, hp]
  constructor
  · rintro ⟨_, h⟩; exact h.symm
  · intro h
    refine ⟨?_, h.symm⟩
    have hs : (bl s).length = s.size := Array.length_toList
    have := congrArg List.length h
    rw [List.length_take, hp, hs] at this
    omega
theorem bl_take (s : ByteArray) (k : Nat) : bl (s.extract 0 k) <+: bl s := by
  unfold bl
  simp only [ByteArray.data_extract, Array.toList_extract]
  simpa using List.take_prefix k s.data.toList
theorem fold_prefix {s p : ByteArray} (h : bl p <+: bl s) : bl (fold p) <+: bl (fold s) := by
  rw [bl_fold, bl_fold]; exact h.map lowB
theorem keep_keep {es : List PV} {s p : ByteArray} (h : bl p <+: bl s) : keepF es s = (keepF es p).filter fun e => !delB e s := by
  unfold keepF
  rw [List.filter_filter]
  refine List.filter_congr fun e _ => ?_
  cases hs : delB e s with
  | true => rfl
  | false =>
    have : delB e p = false := by
      unfold delB at hs ⊢
      simp only [Bool.or_eq_false_iff, Bool.not_eq_false'] at hs ⊢
      exact ⟨hs.1, (hasP_iff _ _).2 (h.trans ((hasP_iff _ _).1 hs.2))⟩
    rw [this]; rfl
/-- A longer prefix finds a part of what a shorter one finds, in the same order. -/
theorem find_part {es : List PV} {s p : ByteArray} (h : bl p <+: bl s) : (findL es s).Sublist (findL es p) := by
  unfold findL
  rw [keep_keep (fold_prefix h), sortR_keep]
  exact List.filter_sublist.map _
end Go.Hs
/- Strings (gazette): GazettePrefix answers true. -/
namespace Go.Hs
open Go.Hx Go.Proofs
theorem gr_eq {few many : List PV} : ∀ (m k i : Nat), i + m = many.length → k ≤ few.length → (few.drop k).Sublist (many.drop i) → gr few (k : Int) many (i : Int) m = (few.length : Int)
  | 0, k, i, h, hk, hs => by
    rw [List.drop_of_length_le (by omega : many.length ≤ i)] at hs
    have := List.length_eq_zero_iff.2 (List.sublist_nil.1 hs)
    rw [List.length_drop] at this
    simp only [gr]; omega
  | m + 1, k, i, h, hk, hs => by
    rw [List.drop_eq_getElem_cons (by omega : i < many.length)] at hs
    rw [gr, show (i : Int) + 1 = ((i + 1 : Nat) : Int) by omega]
    by_cases hl : k < few.length
    · rw [List.drop_eq_getElem_cons hl] at hs
      have e1 : eB few (k : Int) = (few[k].cellAt 0).getI := by unfold eB; rw [Int.toNat_natCast, List.getD_eq_getElem?_getD, List.getElem?_eq_getElem hl]; rfl
      have e2 : eB many (i : Int) = (many[i].cellAt 0).getI := by unfold eB; rw [Int.toNat_natCast, List.getD_eq_getElem?_getD, List.getElem?_eq_getElem (by omega)]; rfl
      rw [decide_eq_true (by omega : (k : Int) < (few.length : Int)), Bool.true_and]
      cases hb : eB few (k : Int) == eB many (i : Int) with
      | true =>
        rw [cond_true, show (k : Int) + 1 = ((k + 1 : Nat) : Int) by omega]
        refine gr_eq m (k + 1) (i + 1) (by omega) (by omega) ?_
        clear e1 e2 hb
        generalize few[k] = y at hs
        generalize many[i] = x at hs
        cases hs with
        | cons _ g => exact (List.sublist_cons_self _ _).trans g
        | cons_cons _ g => exact g
      | false =>
        rw [cond_false]
        refine gr_eq m k (i + 1) (by omega) hk ?_
        rw [List.drop_eq_getElem_cons hl]
        have hne : few[k] ≠ many[i] := fun t => by rw [e1, e2, t, beq_self_eq_true] at hb; cases hb
        generalize few[k] = y at hs hne
        generalize many[i] = x at hs hne
        cases hs with
        | cons _ g => exact g
        | cons_cons _ g => exact absurd rfl hne
    · rw [decide_eq_false (by omega : ¬ (k : Int) < (few.length : Int))]
      rw [Bool.false_and, cond_false]
      refine gr_eq m k (i + 1) (by omega) hk ?_
      rw [List.drop_of_length_le (by omega : few.length ≤ k)]; exact List.nil_sublist _
theorem cntN_eq (es : List PV) : ∀ (m i : Nat) (c : Int), i + m ≤ es.length → cntN es c (i : Int) m = c + ((((es.drop i).take m).filter fun e => !((pNm e).toList == nilS.toList)).length : Int)
  | 0, _, _, _ => by simp [cntN]
  | m + 1, i, c, h => by
    obtain ⟨hl, he⟩ := rE_of (es := es) (i := (i : Int)) (by omega) (by omega)
    simp only [Int.toNat_natCast] at hl he
    rw [cntN, he, show (i : Int) + 1 = ((i + 1 : Nat) : Int) by omega, cntN_eq es m (i + 1) _ (by omega), List.drop_eq_getElem_cons hl, List.take_succ_cons, List.filter_cons]
    cases (pNm es[i]).toList == nilS.toList with
    | true => rfl
    | false => simp only [Bool.not_false, cond_true, if_true, List.length_cons]; omega
theorem findL_len (es : List PV) (p : ByteArray) : (findL es p).length ≤ es.length := by
  unfold findL
  rw [List.length_map, sortR_len]
  exact List.length_filter_le _ _
theorem fold_nil : fold nilS = nilS := by rw [← ba_eq, bl_fold]; rfl
theorem findL_nil (es : List PV) : (findL es nilS).length = (es.filter fun e => !((pNm e).toList == nilS.toList)).length := by
  unfold findL
  rw [List.length_map, sortR_len, fold_nil]
  unfold keepF
  congr 1
  refine List.filter_congr fun e _ => ?_
  unfold delB
  rw [(hasP_iff _ _).2 (show bl nilS <+: _ from List.nil_prefix), Bool.not_true, Bool.or_false]
theorem preT_eq {r : List PV} (hl : r.length ≤ 10) (hN : Norm r) (hB : ∀ e ∈ r, (pNm e).size ≤ 40) {w o : Int} (hw0 : 0 ≤ w) (hw1 : w ≤ 255) (ho0 : 0 ≤ o) (ho1 : o ≤ 255) : preT r w o = some (bv true) := by
  have hbN : bigN r = true := List.all_eq_true.2 fun e he => by have := hB e he; simp only [bigS, decide_eq_true_eq]; omega
  have fd : ∀ {p : ByteArray} {α : Type} (k : Option α), p.size ≤ 40 → fdR r p k = k := fun {p} {α} k hp => by
    unfold fdR
    rw [ldR_of rfl, show okFd r.length r.length r p = true by unfold okFd; simp only [Bool.and_eq_true, decide_eq_true_eq, normB_iff]; exact ⟨⟨⟨⟨⟨trivial, trivial⟩, by omega⟩, hbN⟩, hN⟩, by omega⟩]; rfl
  unfold preT
  by_cases h0 : r.length = 0
  · rw [h0]; rfl
  rw [show (r.length == 0) = false by rw [beq_eq_false_iff_ne]; exact h0, cond_false, show ((r.length : Int) == 0) = false by rw [beq_eq_false_iff_ne]; omega, cond_false]
  rw [decide_eq_false (by omega : ¬ (r.length : Int) = 0), Bool.not_false, cond_true, W_id (n := w) (by omega) (by omega)]
  have hk0 : 0 ≤ Int.tmod w (r.length : Int) := Int.tmod_nonneg _ hw0
  have hk1 : Int.tmod w (r.length : Int) < (r.length : Int) := Int.tmod_lt_of_pos _ (by omega)
  rw [ixR_of rfl hk0 hk1, ldR_of rfl, ldR_of rfl]
  have hnm : (pNm (rE r (Int.tmod w (r.length : Int)))).size ≤ 40 := by
    obtain ⟨g, e⟩ := rE_of hk0 hk1
    rw [e]; exact hB _ (List.getElem_mem g)
  generalize pNm (rE r (Int.tmod w (r.length : Int))) = nm at hnm
  unfold strPre slT
  rw [W_id (n := (nm.size : Int) + 1) (by omega) (by omega), decide_eq_false (by omega : ¬ (nm.size : Int) + 1 = 0), W_id (n := o) (by omega) (by omega)]
  have hj0 : 0 ≤ Int.tmod o ((nm.size : Int) + 1) := Int.tmod_nonneg _ ho0
  have hj1 : Int.tmod o ((nm.size : Int) + 1) < (nm.size : Int) + 1 := Int.tmod_lt_of_pos _ (by omega)
  rw [decide_eq_true hj0, decide_eq_true (show Int.tmod o ((nm.size : Int) + 1) ≤ (nm.size : Int) by omega)]
  have hs : (cut1 nm o).size ≤ 40 := by unfold cut1; rw [ByteArray.size_extract]; omega
  generalize cut1 nm o = s at hs
  have hd : W (Int.tdiv (s.size : Int) 2) = (s.size : Int) / 2 := by rw [Int.tdiv_eq_ediv_of_nonneg (by omega), W_id (by omega) (by omega)]
  rw [hd, decide_eq_true (show (0 : Int) ≤ (s.size : Int) / 2 by omega), decide_eq_true (show (s.size : Int) / 2 ≤ (s.size : Int) by omega)]
  simp only [Bool.not_false, cond_true, Bool.and_self, decide_true, Int.le_refl]
  have hsh : (cut2 s).size ≤ 40 := by unfold cut2; rw [ByteArray.size_extract]; omega
  have hpre : bl (cut2 s) <+: bl s := bl_take s _
  generalize cut2 s = sh at hsh hpre
  unfold midPre
  rw [fd _ hs, fd _ hsh]
  have l1 := findL_len r s
  have l2 := findL_len r sh
  have g := gr_eq (few := findL r s) (many := findL r sh) (findL r sh).length 0 0 (by omega) (by omega) (find_part hpre)
  have c := cntN_eq r r.length 0 0 (by omega)
  rw [show ((0 : Nat) : Int) = 0 from rfl] at g c
  rw [List.drop_zero, List.take_length, ← findL_nil, Int.zero_add] at c
  rw [show (((findL r sh).length : Int) - 0).toNat = (findL r sh).length by omega, show ((r.length : Int) - 0).toNat = r.length by omega, g, c]
  rw [show pG1 (lG1 r.length r.length true s (findL r s) 0 false (findL r sh) ((findL r sh).length : Int) 0 r) = true by simp [pG1]; omega]
  rw [show pN1 (lN1 r.length r.length true s (findL r s) ((findL r s).length : Int) 0 r.length r.length (r.length : Int) 0 r) = true by simp [pN1]; omega]
  unfold endPre
  rw [beq_self_eq_true, beq_self_eq_true, cond_true, cond_true, cond_true, fd _ (show nilS.size ≤ 40 by decide), cond_true, show bigS s = true by simp only [bigS, decide_eq_true_eq]; omega, cond_true, fd _ (show (fold s).size ≤ 40 by rw [fold_size]; exact hs)]
  have e : findL r (fold s) = findL r s := by unfold findL; rw [fold_fold]
  rw [e, show big (findL r s) = true by simp only [big, decide_eq_true_eq]; omega, sameI_self]; rfl
theorem plC_norm (e : PV) : plE (plC e) = plC e := rfl
theorem plsL_mem {L : List PV} : ∀ {m k : Nat} {e : PV}, e ∈ plsL L k m → ∃ x, e = plC x
  | m + 1, k, e, h => by
    rw [plsL] at h
    rcases List.mem_cons.1 h with rfl | h
    · exact ⟨_, rfl⟩
    · exact plsL_mem h
theorem lawPrefix (f : Bool) (L : List PV) {w o : Int} (hw0 : 0 ≤ w) (hw1 : w ≤ 255) (ho0 : 0 ≤ o) (ho1 : o ≤ 255) : Hx.Enters Try.prog 6 ∧ PCall Try.prog 6 [.lst f 36 L, .val (.int .u8 w), .val (.int .u8 o)] (bv true) := by
  refine runP_sound ok33 (n := 80) ((qPre f L w o).trans ?_)
  refine preT_eq ?_ ?_ ?_ hw0 hw1 ho0 ho1
  · rw [List.nil_append, plsL_len]; unfold mn10; omega
  · intro e he
    obtain ⟨x, rfl⟩ := plsL_mem (by simpa using he)
    exact plC_norm x
  · intro e he
    obtain ⟨x, rfl⟩ := plsL_mem (by simpa using he)
    exact cutS_size _
end Go.Hs
/- Strings (gazette): GazetteFinds: the plain law: sorts that put in one by one. -/
namespace Go.Hs
open Go.Hx Go.Proofs
/-- Where one goes: down as long as q holds. -/
def atG (q : PV → Bool) (l : List PV) : Nat → Nat
  | 0 => 0
  | a + 1 => bif q (l.getD a .any) then atG q l a else a + 1
def insG (q : PV → Bool) (x : PV) : List PV → List PV
  | [] => [x]
  | y :: S => bif q y then y :: insG q x S else x :: y :: S
theorem atG_app (q : PV → Bool) (l k : List PV) : ∀ a, a ≤ l.length → atG q (l ++ k) a = atG q l a
  | 0, _ => rfl
  | a + 1, h => by
    rw [atG, atG, atG_app q l k a (by omega), List.getD_eq_getElem?_getD, List.getD_eq_getElem?_getD, List.getElem?_append_left (by omega)]
theorem atG_le (q : PV → Bool) (l : List PV) : ∀ a, atG q l a ≤ a
  | 0 => Nat.le_refl _
  | a + 1 => by
    rw [atG]
    cases q (l.getD a .any) with
    | true => exact Nat.le_succ_of_le (atG_le q l a)
    | false => exact Nat.le_refl _
theorem insG_eq (q : PV → Bool) (x : PV) : ∀ S : List PV, insX S.reverse x (atG q S.reverse S.reverse.length) = (insG q x S).reverse
  | [] => rfl
  | y :: S => by
    have ih := insG_eq q x S
    rw [List.reverse_cons, List.length_append, List.length_singleton, atG]
    have e : (S.reverse ++ [y]).getD S.reverse.length .any = y := by
      rw [List.getD_eq_getElem?_getD, List.getElem?_append_right (by omega)]; simp
    rw [e, atG_app q _ _ _ (by omega), insG]
    cases q y with
    | false =>
      have hl : (S.reverse ++ [y]).length = S.length + 1 := by simp
      simp only [cond_false, insX, List.length_reverse]
      rw [List.take_of_length_le (by omega), List.drop_of_length_le (by omega)]
      simp
    | true =>
      simp only [cond_true]
      rw [List.reverse_cons, ← ih]
      have hl := atG_le q S.reverse S.reverse.length
      unfold insX
      rw [List.take_append_of_le_length hl, List.drop_append_of_le_length hl]
      simp
theorem atL_G (e : PV) (l : List PV) : ∀ a, atL e l a = atG (bfP e) l a
  | 0 => rfl
  | a + 1 => by rw [atL, atG, atL_G e l a]
theorem atI_G (n : Int) (l : List PV) : ∀ a, atI n l a = atG (fun y => decide ((y.cellAt 0).getI > n)) l a
  | 0 => rfl
  | a + 1 => by rw [atI, atG, atI_G n l a]; rfl
theorem toL_inj {a b : ByteArray} : (a.toList == b.toList) = true ↔ a = b := by
  rw [beq_iff_eq, toL, toL]
  constructor
  · intro h; cases a; cases b; simp only [bl] at h; rw [Array.toList_inj] at h; rw [h]
  · rintro rfl; rfl
theorem bfP_cmp (a b : PV) : bfP a b = decide (cmpP a b < 0) := by
  rw [Bool.eq_iff_iff, decide_eq_true_eq, cmpP_lt]
  unfold bfP bfB lt
  by_cases h1 : pWt a = pWt b
  · rw [show (pWt a != pWt b) = false by rw [h1]; simp, cond_false]
    by_cases h2 : pNm a = pNm b
    · rw [toL_inj.2 h2, Bool.not_true, cond_false, decide_eq_true_eq]
      constructor
      · intro h; exact .inr ⟨h1, .inr ⟨h2, h⟩⟩
      · rintro (h | ⟨_, h | ⟨_, h⟩⟩)
        · omega
        · rw [(cmpN_zero _ _).2 h2] at h; omega
        · exact h
    · rw [show ((pNm a).toList == (pNm b).toList) = false by rw [Bool.eq_false_iff]; exact fun h => h2 (toL_inj.1 h), Bool.not_false, cond_true, decide_eq_true_eq]
      constructor
      · intro h; exact .inr ⟨h1, .inl h⟩
      · rintro (h | ⟨_, h | ⟨h, _⟩⟩)
        · omega
        · exact h
        · exact absurd h h2
  · rw [show (pWt a != pWt b) = true by simpa using h1, cond_true, decide_eq_true_eq]
    constructor
    · intro h; exact .inl h
    · rintro (h | ⟨h, _⟩)
      · exact h
      · exact absurd h h1
theorem insG_rev (x : PV) : ∀ S : List PV, insG (bfP x) x S = insRev x S
  | [] => rfl
  | y :: S => by rw [insG, insRev, insG_rev x S, bfP_cmp]
theorem rfS_eq (p : ByteArray) : ∀ (es S : List PV), es.foldl (stepF p) S.reverse = ((keepF es p).foldl (fun S e => insRev e S) S).reverse
  | [], _ => rfl
  | x :: es, S => by
    rw [List.foldl_cons]
    unfold keepF stepF
    rw [List.filter_cons]
    cases hd : delB x p with
    | true =>
      simp only [cond_true, Bool.not_true, Bool.false_eq_true, if_false]
      exact rfS_eq p es S
    | false =>
      simp only [cond_false, Bool.not_false, if_true, List.foldl_cons]
      have := insG_eq (bfP x) x S
      rw [← atL_G, insG_rev] at this
      rw [this]
      exact rfS_eq p es _
theorem finds_eq (es : List PV) (p : ByteArray) : idM (rfS es p) = findL es p := by
  unfold idM rfS findL sortR
  have := rfS_eq (fold p) es []
  rw [List.reverse_nil] at this
  rw [this]
/-! Ids in order. -/
def insZ (n : Int) : List Int → List Int
  | [] => [n]
  | y :: S => bif decide (y > n) then y :: insZ n S else n :: y :: S
theorem insG_Z (n : Int) : ∀ S : List Int, insG (fun y => decide ((y.cellAt 0).getI > n)) (iv n) (S.map iv) = (insZ n S).map iv
  | [] => rfl
  | y :: S => by
    rw [List.map_cons, insG, insZ, insG_Z n S]
    show (bif decide (y > n) then _ else _) = _
    cases decide (y > n) <;> rfl
theorem insZ_perm (n : Int) : ∀ S : List Int, (insZ n S).Perm (n :: S)
  | [] => .refl _
  | y :: S => by
    rw [insZ]
    cases decide (y > n) with
    | true => exact ((insZ_perm n S).cons y).trans (.swap _ _ _)
    | false => exact .refl _
theorem insZ_sorted (n : Int) : ∀ S : List Int, S.Pairwise (fun a b => b ≤ a) → (insZ n S).Pairwise (fun a b => b ≤ a)
  | [], _ => by simp [insZ]
  | y :: S, h => by
    rw [List.pairwise_cons] at h
    rw [insZ]
    by_cases hy : y > n
    · rw [decide_eq_true hy, cond_true, List.pairwise_cons]
      refine ⟨fun a ha => ?_, insZ_sorted n S h.2⟩
      rcases List.mem_cons.1 ((insZ_perm n S).mem_iff.1 ha) with rfl | ha
      · omega
      · exact h.1 a ha
    · rw [decide_eq_false hy, cond_false, List.pairwise_cons, List.pairwise_cons]
      refine ⟨fun a ha => ?_, h⟩
      rcases List.mem_cons.1 ha with rfl | ha
      · omega
      · have := h.1 a ha; omega
theorem putL_Z (S : List Int) (n : Int) : putL (S.reverse.map iv) n = (insZ n S).reverse.map iv := by
  unfold putL
  have := insG_eq (fun y => decide ((y.cellAt 0).getI > n)) (iv n) (S.map iv)
  rw [← atI_G, insG_Z, ← List.map_reverse, ← List.map_reverse] at this
  exact this
theorem foldN_Z (c : Nat) (s : ByteArray) : ∀ (X : List PV) (S : List Int), S.Pairwise (fun a b => b ≤ a) → ∃ T : List Int, X.foldl (putN c s) (S.reverse.map iv) = T.reverse.map iv ∧ T.Pairwise (fun a b => b ≤ a) ∧ T.Perm (((X.filter (isN c s)).map idN) ++ S)
  | [], S, h => ⟨S, rfl, h, .refl _⟩
  | x :: X, S, h => by
    rw [List.foldl_cons, List.filter_cons]
    unfold putN
    cases hx : isN c s x with
    | false => exact foldN_Z c s X S h
    | true =>
      simp only [cond_true, if_true, List.map_cons]
      rw [putL_Z]
      obtain ⟨T, h1, h2, h3⟩ := foldN_Z c s X (insZ (idN x) S) (insZ_sorted _ _ h)
      refine ⟨T, h1, h2, h3.trans ?_⟩
      refine ((insZ_perm (idN x) S).append_left _).trans ?_
      rw [List.cons_append]
      exact List.perm_middle
theorem namQ_eq (F Y Q : List PV) (s : ByteArray) : rnQ F Y Q s = namQ F Y Q s := by
  unfold rnQ namQ
  show (bif s.toList == nilS.toList then [] else _) = (bif s.toList == nilS.toList then [] else _)
  cases s.toList == nilS.toList with
  | true => rfl
  | false =>
    simp only [cond_false]
    unfold rn3 rn2 rn1 namL n1 n2
    obtain ⟨T1, a1, a2, a3⟩ := foldN_Z 2 s (F.drop 0) [] .nil
    rw [show (([] : List Int).reverse.map iv) = ([] : List PV) from rfl] at a1
    rw [a1]
    obtain ⟨T2, b1, b2, b3⟩ := foldN_Z 4 s (Y.drop 0) T1 a2
    rw [b1]
    obtain ⟨T3, c1, c2, c3⟩ := foldN_Z 4 s (Q.drop 0) T2 b2
    rw [c1, n_all, n_all, n_all]
    unfold srtI
    rw [show (T3.reverse.map iv) = T3.reverse.map fun n => PV.val (.int .i64 n) from rfl]
    congr 1
    have hn : ∀ a b : List PV, nums (a ++ b) = nums a ++ nums b := fun a b => by simp [nums]
    rw [hn, hn, nums_map, nums_map, nums_map]
    simp only [List.drop_zero] at a3 b3 c3
    refine List.Perm.eq_of_pairwise (le := fun a b : Int => a ≤ b) (fun a b _ _ h1 h2 => Int.le_antisymm h1 h2) (List.pairwise_reverse.2 c2) ?_ ?_
    · have := List.pairwise_mergeSort (le := fun x y : Int => decide (x ≤ y)) (fun a b c h1 h2 => by simp only [decide_eq_true_eq] at *; omega) (fun a b => by simp only [Bool.or_eq_true, decide_eq_true_eq]; omega)
        ((F.filter (isN 2 s)).map idN ++ (Y.filter (isN 4 s)).map idN ++ (Q.filter (isN 4 s)).map idN)
      exact this.imp fun h => by simpa using h
    · refine (List.reverse_perm _).trans (c3.trans (.trans ?_ (List.mergeSort_perm _ _).symm))
      refine ((b3.trans (List.perm_append_comm.trans (a3.append_right _))).append_left _).trans ?_
      rw [List.append_nil]
      exact List.perm_append_comm
theorem chkF_true (es F Y : List PV) (s : ByteArray) : chkF es F Y s = true := by
  unfold chkF
  rw [finds_eq, namQ_eq, sameI_self, sameI_self]; rfl
theorem allF_true (es F Y nm : List PV) : ∀ (m : Nat) (k : Int), allF es F Y nm k m = true
  | 0, _ => rfl
  | m + 1, k => by rw [allF, chkF_true, allF_true es F Y nm m]; rfl
end Go.Hs
/- Strings (gazette): GazetteFinds answers true. -/
namespace Go.Hs
open Go.Hx Go.Proofs
theorem g1L_len (es : List PV) : ∀ (m : Nat) (k : Int), (g1L es k m).length ≤ m
  | 0, _ => Nat.le_refl _
  | m + 1, k => by
    rw [g1L]
    have := g1L_len es m (k + 1)
    cases k.tmod 2 == 0 with
    | true => simp; omega
    | false => simp; omega
theorem g2L_len (es : List PV) : ∀ (m : Nat) (k : Int), (g2L es k m).length = m
  | 0, _ => rfl
  | m + 1, k => by simp [g2L, g2L_len es m (k + 1)]
theorem wL_big {es : List PV} (h : bigN es = true) : ∀ (m : Nat) (k : Int), 0 ≤ k → k + m ≤ (es.length : Int) → bigW (wL es k m) = true
  | 0, _, _, _ => rfl
  | m + 1, k, h1, h2 => by
    have hb : bigS (pNm (rE es k)) = true := bigN_at h h1 (by omega)
    have ih := wL_big h m (k + 1) (by omega) (by omega)
    unfold bigW at *
    rw [wL, List.all_cons, List.all_cons, ih, show bigS (((sv (pNm (rE es k))).cellAt 0).getS) = true from hb]
    have : (half (pNm (rE es k))).size ≤ 1000000 := by
      have h3 : (pNm (rE es k)).size ≤ 1000000 := of_decide_eq_true hb
      unfold half
      rw [ByteArray.size_extract]; omega
    rw [show bigS (((sv (half (pNm (rE es k)))).cellAt 0).getS) = true from decide_eq_true this]; rfl
theorem pG18_of {es F Y nm : List PV} (ok : Bool) {z : Bool} (b1 b2 b3 : Bool) (hz : z = es.isEmpty) (h1 : es.length ≤ 15) (h2 : nm.length ≤ 10000) (h3 : F.length ≤ 1000) (h4 : Y.length ≤ 1000) (hB : bigN es = true) (hN : normB es = true) (hW : bigW nm = true) :
    pG18 (lG18 es.length es.length ok nm.length nm.length (nm.length : Int) 0 z es F.length F.length Y.length Y.length es.length es.length b1 F b2 Y b3 nm) = true := by
  show (_ && (_ && (_ && (_ && (_ && _))))) = true
  rw [Bool.and_eq_true, Bool.and_eq_true, Bool.and_eq_true, Bool.and_eq_true, Bool.and_eq_true, decide_eq_true_eq, decide_eq_true_eq, decide_eq_true_eq]
  exact ⟨⟨rfl, rfl, rfl, rfl, rfl, rfl, rfl, rfl, rfl, rfl, rfl⟩, ⟨by omega, by omega, h1, h2, h3, h4⟩, hB, hN, hW, hz⟩
theorem finT_eq {r : List PV} (hr : r.length ≤ 10) (hN : normB r = true) (hB : bigN r = true) (p : ByteArray) : finT r p = some (bv true) := by
  have hw0 : bigW [sv (cutS p), sv em] = true := by
    unfold bigW
    rw [List.all_cons, List.all_cons, show bigS (((sv (cutS p)).cellAt 0).getS) = true from cutS_big p]; rfl
  unfold finT
  rw [allF_true, allF_true]
  cases r with
  | nil =>
    have := pG18_of (es := []) (F := []) (Y := []) (nm := [sv (cutS p), sv em]) true (z := true) true true false rfl (by simp) (by simp) (by simp) (by simp) rfl hN hw0
    rw [show pG18 (lG18 0 0 true 2 2 2 0 true [] 0 0 0 0 0 0 true [] true [] false [sv (cutS p), sv em]) = true from this]
    rfl
  | cons e0 r0 =>
    generalize hR : e0 :: r0 = r at *
    have hl1 : 0 < r.length := by rw [← hR]; simp
    have hz : r.isEmpty = false := by rw [← hR]; rfl
    have hn : ((r.length : Int) - 0).toNat = r.length := by omega
    have l1 := g1L_len r r.length 0
    have l2 := g2L_len r r.length 0
    have l3 := wL_len r r.length 0
    have k1 : pG5 (lG5 r.length r.length p true r.length r.length (r.length : Int) 0 false r 0 0 0 0 r.length r.length true [] true []) = true := by simp [pG5]; omega
    have k2 : pG13 (lG13 r.length r.length true 2 2 r.length r.length (r.length : Int) 0 false r (mFc r).length (mFc r).length (mYc r).length (mYc r).length r.length r.length (true && (g1L r 0 ((r.length : Int) - 0).toNat).isEmpty) (mFc r) (true && (g2L r 0 ((r.length : Int) - 0).toNat).isEmpty) (mYc r) false [sv (cutS p), sv em]) = true := by
      show (_ && _ && _) = true
      rw [Bool.and_eq_true, Bool.and_eq_true, decide_eq_true_eq, decide_eq_true_eq]
      simp only [List.length_cons, List.length_nil]
      exact ⟨⟨⟨trivial, trivial, trivial, trivial, trivial⟩, by omega, by omega, by omega, by omega⟩, hB⟩
    have k3 : pG18 (lG18 r.length r.length true (wW r p).length (wW r p).length ((wW r p).length : Int) 0 false r (mFc r).length (mFc r).length (mYc r).length (mYc r).length r.length r.length (true && (g1L r 0 ((r.length : Int) - 0).toNat).isEmpty) (mFc r) (true && (g2L r 0 ((r.length : Int) - 0).toNat).isEmpty) (mYc r) (false && (wL r 0 ((r.length : Int) - 0).toNat).isEmpty) (wW r p)) = true := by
      have lw : (wW r p).length = 2 + 2 * r.length := by unfold wW; rw [hn, List.length_append, l3]; rfl
      refine pG18_of true _ _ _ (by rw [hz]) (by omega) (by omega) ?_ ?_ hB hN ?_
      · unfold mFc; rw [hn, List.nil_append]; omega
      · unfold mYc; rw [hn, List.nil_append]; omega
      · unfold wW bigW
        rw [List.all_append, Bool.and_eq_true]
        exact ⟨hw0, by have := wL_big hB r.length 0 (by omega) (by omega); rw [hn]; exact this⟩
    rw [show (r.length == 0) = false by rw [beq_eq_false_iff_ne]; omega, cond_false, k1, k2, k3]
    rfl
theorem lawFinds (f : Bool) (L : List PV) (p : ByteArray) : Hx.Enters Try.prog 4 ∧ PCall Try.prog 4 [.lst f 36 L, sv p] (bv true) := by
  refine runP_sound okG3 (n := 80) ((qFin f L p).trans ?_)
  refine finT_eq ?_ ?_ ?_ p
  · rw [List.nil_append, plsL_len]; unfold mn10; omega
  · refine normB_iff.2 fun e he => ?_
    obtain ⟨x, rfl⟩ := plsL_mem (by simpa using he)
    exact plC_norm x
  · unfold bigN
    rw [List.all_eq_true]
    intro e he
    obtain ⟨x, rfl⟩ := plsL_mem (by simpa using he)
    exact cutS_big _
end Go.Hs
/- Strings: the frames of the laws: their arguments. -/
namespace Go.Proofs.Ytadcoepikgjgmaa
open Go.ChangeShapes Go.WideShapes Go.ChangeAt Go.RowKit Go.Hx Go.Hs

theorem own : ownKnob Try.prog.godebug = none := by kernel_rfl
theorem laidOut : laidOutB Try.prog = true := by kernel_rfl
theorem wt_nil {ps : List PV} (h : wtcs [] ps = true) : ps = [] := by
  cases ps with
  | nil => rfl
  | cons p ps => simp [wtcs] at h
theorem wtc_int {k : IntKind} {p : PV} (h : wtc (.int k) p = true) : ∃ n, p = .val (.int k n) := by
  cases p with
  | val v => cases v <;> simp_all [wtc]
  | lst f t es => simp_all [wtc]
  | _ => simp [wtc] at h
theorem wt_int {k : IntKind} {ks : List Kind} {ps : List PV} (h : wtcs ((.int k) :: ks) ps = true) : ∃ n qs, ps = .val (.int k n) :: qs ∧ wtcs ks qs = true := by
  cases ps with
  | nil => simp [wtcs] at h
  | cons p ps =>
    simp only [wtcs, Bool.and_eq_true] at h
    obtain ⟨n, rfl⟩ := wtc_int h.1
    exact ⟨n, ps, rfl, h.2⟩
theorem wtc_bool {p : PV} (h : wtc (.bool) p = true) : ∃ b, p = .val (.bool b) := by
  cases p with
  | val v => cases v <;> simp_all [wtc]
  | lst f t es => simp_all [wtc]
  | _ => simp [wtc] at h
theorem wt_bool {ks : List Kind} {ps : List PV} (h : wtcs ((.bool) :: ks) ps = true) : ∃ b qs, ps = .val (.bool b) :: qs ∧ wtcs ks qs = true := by
  cases ps with
  | nil => simp [wtcs] at h
  | cons p ps =>
    simp only [wtcs, Bool.and_eq_true] at h
    obtain ⟨b, rfl⟩ := wtc_bool h.1
    exact ⟨b, ps, rfl, h.2⟩
theorem wtc_str {p : PV} (h : wtc (.str) p = true) : ∃ s, p = .val (.string s) := by
  cases p with
  | val v => cases v <;> simp_all [wtc]
  | lst f t es => simp_all [wtc]
  | _ => simp [wtc] at h
theorem wt_str {ks : List Kind} {ps : List PV} (h : wtcs ((.str) :: ks) ps = true) : ∃ s qs, ps = .val (.string s) :: qs ∧ wtcs ks qs = true := by
  cases ps with
  | nil => simp [wtcs] at h
  | cons p ps =>
    simp only [wtcs, Bool.and_eq_true] at h
    obtain ⟨s, rfl⟩ := wtc_str h.1
    exact ⟨s, ps, rfl, h.2⟩
theorem wtc_sl {e : TypeId} {p : PV} (h : wtc (.sl e) p = true) : ∃ f es, p = .lst f e es := by
  cases p with
  | val v => cases v <;> simp [wtc] at h
  | lst f t es =>
    have : e = t := by simpa [wtc] using h
    subst this
    exact ⟨f, es, rfl⟩
  | _ => simp [wtc] at h
theorem wt_sl {e : TypeId} {ks : List Kind} {ps : List PV} (h : wtcs (.sl e :: ks) ps = true) : ∃ f es qs, ps = .lst f e es :: qs ∧ wtcs ks qs = true := by
  cases ps with
  | nil => simp [wtcs] at h
  | cons p ps =>
    simp only [wtcs, Bool.and_eq_true] at h
    obtain ⟨f, es, rfl⟩ := wtc_sl h.1
    exact ⟨f, es, ps, rfl, h.2⟩
theorem fit_i64 {n : Int} (h : Fit (.val (.int .i64 n))) : -9223372036854775808 ≤ n ∧ n ≤ 9223372036854775807 := by
  cases h with
  | int h => exact bounds_i64 h
theorem fit_u8 {n : Int} (h : Fit (.val (.int .u8 n))) : 0 ≤ n ∧ n ≤ 255 := by
  cases h with
  | int h => exact bounds_u8 h
theorem fit_u16 {n : Int} (h : Fit (.val (.int .u16 n))) : 0 ≤ n ∧ n ≤ 65535 := by
  cases h with
  | int h => exact bounds_u16 h
theorem rv_agg {t : TypeId} {ps : List PV} {W : World} {v : Value} (h : RV Try.prog (Ctx.of W) (mkE Try.prog t ps) v) (ha : isAggT Try.prog t = true) : RV Try.prog (Ctx.of W) (.agg ps) v := by
  unfold mkE at h
  rwa [if_pos ha] at h
theorem rv_one {t : TypeId} {p : PV} {W : World} {v : Value} (h : RV Try.prog (Ctx.of W) (mkE Try.prog t [p]) v) (ha : isAggT Try.prog t = false) : RV Try.prog (Ctx.of W) p v := by
  unfold mkE at h
  rwa [if_neg (by simp [ha])] at h
theorem cs_one {W : World} {p : PV} {v : Value} (h1 : RV Try.prog (Ctx.of W) p v) : Cs Try.prog (Ctx.of W) [p] #[v] := by
  refine ⟨rfl, fun j c x a b => ?_⟩
  match j with
  | 0 => simp at a b; subst a; subst b; exact h1
  | j + 1 => simp at a
theorem cs_four {W : World} {p q s t : PV} {v u x y : Value} (h1 : RV Try.prog (Ctx.of W) p v) (h2 : RV Try.prog (Ctx.of W) q u) (h3 : RV Try.prog (Ctx.of W) s x) (h4 : RV Try.prog (Ctx.of W) t y) : Cs Try.prog (Ctx.of W) [p, q, s, t] #[v, u, x, y] := by
  refine ⟨rfl, fun j c z a b => ?_⟩
  match j with
  | 0 => simp at a b; subst a; subst b; exact h1
  | 1 => simp at a b; subst a; subst b; exact h2
  | 2 => simp at a b; subst a; subst b; exact h3
  | 3 => simp at a b; subst a; subst b; exact h4
  | j + 4 => simp at a
theorem cs_two {W : World} {p q : PV} {v u : Value} (h1 : RV Try.prog (Ctx.of W) p v) (h2 : RV Try.prog (Ctx.of W) q u) : Cs Try.prog (Ctx.of W) [p, q] #[v, u] := by
  refine ⟨rfl, fun j c x a b => ?_⟩
  match j with
  | 0 => simp at a b; subst a; subst b; exact h1
  | 1 => simp at a b; subst a; subst b; exact h2
  | j + 2 => simp at a
theorem cs_three {W : World} {p q s : PV} {v u x : Value} (h1 : RV Try.prog (Ctx.of W) p v) (h2 : RV Try.prog (Ctx.of W) q u) (h3 : RV Try.prog (Ctx.of W) s x) : Cs Try.prog (Ctx.of W) [p, q, s] #[v, u, x] := by
  refine ⟨rfl, fun j c y a b => ?_⟩
  match j with
  | 0 => simp at a b; subst a; subst b; exact h1
  | 1 => simp at a b; subst a; subst b; exact h2
  | 2 => simp at a b; subst a; subst b; exact h3
  | j + 3 => simp at a
end Go.Proofs.Ytadcoepikgjgmaa
