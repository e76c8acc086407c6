/- The view's reference: Pixel. -/
import Derived.Test.YtmcbhfkaedchdaaHvR2
namespace Go.Hv
open Go.Hx Go.Proofs
abbrev n22 : Nat := 32
abbrev S22 (i j : Int) : List PV := tm n22 [(2, .ptr 0 1 0 0), (3, .ptr 1 1 0 0), (7, iv i), (8, iv j)]
abbrev T22 (i : Int) : List PV := tm n22 [(2, .ptr 0 1 0 0), (3, .ptr 1 1 0 0), (7, iv i)]
abbrev T22r (i j : Int) : List PV := tm n22 [(2, .ptr 0 1 0 0), (3, .ptr 1 1 0 0), (4, iv i), (5, iv j), (6, bv true), (7, iv i)]
abbrev U22 : List PV := tm n22 [(2, .ptr 0 1 0 0), (3, .ptr 1 1 0 0)]
abbrev U22r (i j : Int) : List PV := tm n22 [(2, .ptr 0 1 0 0), (3, .ptr 1 1 0 0), (4, iv i), (5, iv j), (6, bv true)]
abbrev H22 (ax ay ux uy w h hr a b : Int) : List Row := [r1 28 7 (vwv ax ay ux uy w h hr), r1 26 2 (ptv a b)]
theorem q22i (i j ax ay ux uy w h hr a b : Int) : runB Try.prog E9 60 22 (lpb Try.f22 7) [2, 3, 7, 8] [2, 3, 4, 5, 6, 7] (S22 i j) (H22 ax ay ux uy w h hr a b) =
  bif decide (j < h) then
    bif (wx ax ux uy i j == a) && ((wy ay ux uy i j == b) && true) then some (.ret, T22r i j, H22 ax ay ux uy w h hr a b)
    else some (.normal, S22 i (W (j + 1)), H22 ax ay ux uy w h hr a b)
  else some (.exit 2, T22 i, H22 ax ay ux uy w h hr a b) := by kernel_rfl
def at22 (ax ay ux uy a b i : Int) (j : Int) : Bool := (wx ax ux uy i j == a) && ((wy ay ux uy i j == b) && true)
/-- The first one. -/
def fstJ (p : Int → Bool) : Nat → Int → Int
  | 0, j => j
  | n + 1, j => bif p j then j else fstJ p n (j + 1)
def s22i : St := ⟨n22, [(2, .ptr 0 1 0 0), (3, .ptr 1 1 0 0), (7, i64), (8, i64)], [.one 28 7 (i64s 7), .one 26 2 (i64s 2)]⟩
def c22i : List Lf → List Lf → Option (DT (PX × List PV × List Row))
  | [.i i, .i j], [.i ax, .i ay, .i ux, .i uy, .i w, .i h, .i hr, .i a, .i b] =>
    some (.br (decide (0 ≤ j) && decide (h ≤ 64)) (.br (orJ (at22 ax ay ux uy a b i) (h - j).toNat j) (.leaf (.ret, T22r i (fstJ (at22 ax ay ux uy a b i) (h - j).toNat j), H22 ax ay ux uy w h hr a b)) (.leaf (.exit 2, T22 i, H22 ax ay ux uy w h hr a b))) .no)
  | _, _ => none
theorem g22i (i j ax ay ux uy w h hr a b : Int) : s22i.get (S22 i j) (H22 ax ay ux uy w h hr a b) = some ([.i i, .i j], [.i ax, .i ay, .i ux, .i uy, .i w, .i h, .i hr, .i a, .i b]) := by kernel_rfl
theorem w22i (hsub : SubCode Try.prog 22 (.loop (lpb Try.f22 7))) (ro : Nat) (S : List PV) (H : List Row) (d : DT (PX × List PV × List Row)) (x : PX) (S' : List PV) (H' : List Row) (hc : byShape s22i c22i ro S H = some d) (hd : d.run = some (x, S', H')) :
    WpTo Try.prog (.loop (lpb Try.f22 7)) ro S H x S' H' := by
  obtain ⟨_, _, rfl, hg, hf⟩ := byShape_inv hc
  unfold c22i at hf
  split at hf
  · rename_i i j ax ay ux uy w h hr a b
    cases hf
    obtain ⟨rfl, hH⟩ := St.inj hg (g22i i j ax ay ux uy w h hr a b)
    refine wpTo_nrm ?_
    rw [hH]
    obtain ⟨hcond, he⟩ := run_br2 hd
    simp only [Bool.and_eq_true, decide_eq_true_eq] at hcond
    obtain ⟨h1, h2⟩ := hcond
    have hbody := hsub.sub (.loop .here)
    clear hc hg hd hH
    have key : ∀ (N : Nat) (j : Int), 0 ≤ j → (h - j).toNat = N → (orJ (at22 ax ay ux uy a b i) N j = true → Rnds Try.prog (lpb Try.f22 7) 0 .ret (T22r i (fstJ (at22 ax ay ux uy a b i) N j)) (H22 ax ay ux uy w h hr a b) (S22 i j) (H22 ax ay ux uy w h hr a b)) ∧
        (orJ (at22 ax ay ux uy a b i) N j = false → Rnds Try.prog (lpb Try.f22 7) 0 (.exit 2) (T22 i) (H22 ax ay ux uy w h hr a b) (S22 i j) (H22 ax ay ux uy w h hr a b)) := by
      intro N
      induction N with
      | zero =>
        intro j h1 hn
        refine ⟨fun h => (by cases h), fun _ => .stop (runB_sound ok9 hbody (n := 60) (l := [2, 3, 7, 8]) (l' := [2, 3, 4, 5, 6, 7]) ?_)⟩
        have : decide (j < h) = false := by simp; omega
        rw [q22i, this]; rfl
      | succ N ih =>
        intro j h1 hn
        have e : decide (j < h) = true := by simp; omega
        obtain ⟨i1, i2⟩ := ih (j + 1) (by omega) (by omega)
        have next : at22 ax ay ux uy a b i j = false → WpTo Try.prog (lpb Try.f22 7) 0 (S22 i j) (H22 ax ay ux uy w h hr a b) .normal (S22 i (j + 1)) (H22 ax ay ux uy w h hr a b) := by
          intro ho
          refine runB_sound ok9 hbody (n := 60) (l := [2, 3, 7, 8]) (l' := [2, 3, 4, 5, 6, 7]) ?_
          unfold at22 at ho
          rw [q22i, e, ho, W_id (n := j + 1) (by omega) (by omega)]; rfl
        refine ⟨fun ho => ?_, fun ho => ?_⟩
        · simp only [orJ, Bool.or_eq_true] at ho
          simp only [fstJ]
          cases hb : at22 ax ay ux uy a b i j with
          | true =>
            refine .stop (runB_sound ok9 hbody (n := 60) (l := [2, 3, 7, 8]) (l' := [2, 3, 4, 5, 6, 7]) ?_)
            unfold at22 at hb
            rw [q22i, e, hb]; rfl
          | false => exact .go (next hb) (i1 (ho.resolve_left (by simp [hb])))
        · simp only [orJ, Bool.or_eq_false_iff] at ho
          exact .go (next ho.1) (i2 ho.2)
    rcases he with ⟨ho, he⟩ | ⟨ho, he⟩
    · cases he
      exact Rnds.loop (by simp) ((key _ j h1 rfl).1 ho)
    · cases he
      exact Rnds.loop (by simp) ((key _ j h1 rfl).2 ho)
  · cases hf
noncomputable def E22a : EnvK := E9.addL 22 7 [2, 3, 7, 8] (byShape s22i c22i)
theorem ok22a : EnvOK Try.prog E22a.env := ok9.addL Try.func22 (show Try.f22.body = some (bod Try.f22) by kernel_rfl) (show (loops (bod Try.f22)).filter (fun b => rid b == 7) = [lpb Try.f22 7] by kernel_rfl) w22i
theorem q22o (i ax ay ux uy w h hr a b : Int) : runB Try.prog E22a 60 22 (lpb Try.f22 4) [2, 3, 7] [2, 3, 4, 5, 6] (T22 i) (H22 ax ay ux uy w h hr a b) =
  bif decide (i < w) then
    bif decide ((0 : Int) ≤ 0) && decide (h ≤ 64) then
      bif orJ (at22 ax ay ux uy a b i) (h - 0).toNat 0 then some (.ret, U22r i (fstJ (at22 ax ay ux uy a b i) (h - 0).toNat 0), H22 ax ay ux uy w h hr a b) else some (.normal, T22 (W (i + 1)), H22 ax ay ux uy w h hr a b)
    else none
  else some (.exit 0, U22, H22 ax ay ux uy w h hr a b) := by kernel_rfl
def At22 (ax ay ux uy h a b : Int) (i : Int) : Bool := orJ (at22 ax ay ux uy a b i) (h - 0).toNat 0
def s22o : St := ⟨n22, [(2, .ptr 0 1 0 0), (3, .ptr 1 1 0 0), (7, i64)], [.one 28 7 (i64s 7), .one 26 2 (i64s 2)]⟩
def i22 (ax ay ux uy w h a b i : Int) : Int := fstJ (At22 ax ay ux uy h a b) (w - i).toNat i
def j22 (ax ay ux uy h a b i : Int) : Int := fstJ (at22 ax ay ux uy a b i) (h - 0).toNat 0
def c22o : List Lf → List Lf → Option (DT (PX × List PV × List Row))
  | [.i i], [.i ax, .i ay, .i ux, .i uy, .i w, .i h, .i hr, .i a, .i b] =>
    some (.br (decide (0 ≤ i) && decide (w ≤ 64) && decide (h ≤ 64)) (.br (orJ (At22 ax ay ux uy h a b) (w - i).toNat i) (.leaf (.ret, U22r (i22 ax ay ux uy w h a b i) (j22 ax ay ux uy h a b (i22 ax ay ux uy w h a b i)), H22 ax ay ux uy w h hr a b)) (.leaf (.exit 0, U22, H22 ax ay ux uy w h hr a b))) .no)
  | _, _ => none
theorem g22o (i ax ay ux uy w h hr a b : Int) : s22o.get (T22 i) (H22 ax ay ux uy w h hr a b) = some ([.i i], [.i ax, .i ay, .i ux, .i uy, .i w, .i h, .i hr, .i a, .i b]) := by kernel_rfl
theorem w22o (hsub : SubCode Try.prog 22 (.loop (lpb Try.f22 4))) (ro : Nat) (S : List PV) (H : List Row) (d : DT (PX × List PV × List Row)) (x : PX) (S' : List PV) (H' : List Row) (hc : byShape s22o c22o ro S H = some d) (hd : d.run = some (x, S', H')) :
    WpTo Try.prog (.loop (lpb Try.f22 4)) ro S H x S' H' := by
  obtain ⟨_, _, rfl, hg, hf⟩ := byShape_inv hc
  unfold c22o at hf
  split at hf
  · rename_i i ax ay ux uy w h hr a b
    cases hf
    obtain ⟨rfl, hH⟩ := St.inj hg (g22o i ax ay ux uy w h hr a b)
    refine wpTo_nrm ?_
    rw [hH]
    obtain ⟨hcond, he⟩ := run_br2 hd
    simp only [Bool.and_eq_true, decide_eq_true_eq] at hcond
    obtain ⟨⟨h1, h2⟩, h3⟩ := hcond
    have hbody := hsub.sub (.loop .here)
    clear hc hg hd hH
    have e3 : decide (h ≤ 64) = true := by simp; omega
    have key : ∀ (N : Nat) (i : Int), 0 ≤ i → (w - i).toNat = N → (orJ (At22 ax ay ux uy h a b) N i = true → Rnds Try.prog (lpb Try.f22 4) 0 .ret (U22r (fstJ (At22 ax ay ux uy h a b) N i) (j22 ax ay ux uy h a b (fstJ (At22 ax ay ux uy h a b) N i))) (H22 ax ay ux uy w h hr a b) (T22 i) (H22 ax ay ux uy w h hr a b)) ∧
        (orJ (At22 ax ay ux uy h a b) N i = false → Rnds Try.prog (lpb Try.f22 4) 0 (.exit 0) U22 (H22 ax ay ux uy w h hr a b) (T22 i) (H22 ax ay ux uy w h hr a b)) := by
      intro N
      induction N with
      | zero =>
        intro i h1 hn
        refine ⟨fun h => (by cases h), fun _ => .stop (runB_sound ok22a hbody (n := 60) (l := [2, 3, 7]) (l' := [2, 3, 4, 5, 6]) ?_)⟩
        have : decide (i < w) = false := by simp; omega
        rw [q22o, this]; rfl
      | succ N ih =>
        intro i h1 hn
        have e : decide (i < w) = true := by simp; omega
        obtain ⟨i1, i2⟩ := ih (i + 1) (by omega) (by omega)
        have next : At22 ax ay ux uy h a b i = false → WpTo Try.prog (lpb Try.f22 4) 0 (T22 i) (H22 ax ay ux uy w h hr a b) .normal (T22 (i + 1)) (H22 ax ay ux uy w h hr a b) := by
          intro ho
          refine runB_sound ok22a hbody (n := 60) (l := [2, 3, 7]) (l' := [2, 3, 4, 5, 6]) ?_
          unfold At22 at ho
          rw [q22o, e, e3, ho, W_id (n := i + 1) (by omega) (by omega)]; rfl
        refine ⟨fun ho => ?_, fun ho => ?_⟩
        · simp only [orJ, Bool.or_eq_true] at ho
          simp only [fstJ]
          cases hb : At22 ax ay ux uy h a b i with
          | true =>
            refine .stop (runB_sound ok22a hbody (n := 60) (l := [2, 3, 7]) (l' := [2, 3, 4, 5, 6]) ?_)
            unfold At22 at hb
            rw [q22o, e, e3, hb]; rfl
          | false => exact .go (next hb) (i1 (ho.resolve_left (by simp [hb])))
        · simp only [orJ, Bool.or_eq_false_iff] at ho
          exact .go (next ho.1) (i2 ho.2)
    rcases he with ⟨ho, he⟩ | ⟨ho, he⟩
    · cases he
      exact Rnds.loop (by simp) ((key _ i h1 rfl).1 ho)
    · cases he
      exact Rnds.loop (by simp) ((key _ i h1 rfl).2 ho)
  · cases hf
noncomputable def E22b : EnvK := E22a.addL 22 4 [2, 3, 7] (byShape s22o c22o)
theorem ok22b : EnvOK Try.prog E22b.env := ok22a.addL Try.func22 (show Try.f22.body = some (bod Try.f22) by kernel_rfl) (show (loops (bod Try.f22)).filter (fun b => rid b == 4) = [lpb Try.f22 4] by kernel_rfl) w22o
theorem q22 (ax ay ux uy w h hr a b : Int) : runP Try.prog E22b 60 22 [vwv ax ay ux uy w h hr, ptv a b] =
  bif ck ax ay ux uy w h hr != 0 then some (t3 0 0 false)
  else bif decide ((0 : Int) ≤ 0) && decide (w ≤ 64) && decide (h ≤ 64) then
    bif orJ (At22 ax ay ux uy h a b) (w - 0).toNat 0 then some (t3 (i22 ax ay ux uy w h a b 0) (j22 ax ay ux uy h a b (i22 ax ay ux uy w h a b 0)) true) else some (t3 0 0 false)
  else none := by kernel_rfl
theorem fstJ_spec {p : Int → Bool} : ∀ (n : Nat) (j : Int), orJ p n j = true → j ≤ fstJ p n j ∧ fstJ p n j < j + n ∧ p (fstJ p n j) = true
  | 0, _, h => by cases h
  | n + 1, j, h => by
    simp only [orJ, Bool.or_eq_true] at h
    simp only [fstJ]
    cases hp : p j with
    | true => exact ⟨Int.le_refl _, by simp only [cond_true]; omega, hp⟩
    | false =>
      obtain ⟨a, b, c⟩ := fstJ_spec n (j + 1) (h.resolve_left (by simp [hp]))
      exact ⟨by simp only [cond_false]; omega, by simp only [cond_false]; omega, c⟩
/-- The reference's Pixel is the view's. -/
theorem pixel_eq (ax ay ux uy w h hr a b : Int) : runP Try.prog E22b 60 22 [vwv ax ay ux uy w h hr, ptv a b] =
    some (t3 (bif pin ax ay ux uy w h hr a b then px0 ax ay ux uy a b else 0) (bif pin ax ay ux uy w h hr a b then px1 ax ay ux uy a b else 0) (pin ax ay ux uy w h hr a b)) := by
  rw [q22]
  by_cases hc : ck ax ay ux uy w h hr = 0
  · have hR := (ck_iff.1 hc).1
    have hw := hR.pw
    have hh := hR.ph
    have e1 : decide (w ≤ 64) = true := by simp; omega
    have e2 : decide (h ≤ 64) = true := by simp; omega
    have e0 : (ck ax ay ux uy w h hr != 0) = false := by simp [hc]
    rw [e0, e1, e2]
    cases hp : pin ax ay ux uy w h hr a b with
    | true =>
      have hp2 := hp
      unfold pin at hp2
      simp only [Bool.and_eq_true, decide_eq_true_eq, beq_iff_eq] at hp2
      obtain ⟨⟨⟨⟨⟨⟨⟨_, _⟩, a1⟩, a2⟩, a3⟩, a4⟩, a5⟩, a6⟩ := hp2
      have hat : ∀ i, i = px0 ax ay ux uy a b → At22 ax ay ux uy h a b i = true := fun i hi => orJ_true _ 0 (px1 ax ay ux uy a b) (by omega) (by omega) (by unfold at22; rw [hi, a5, a6]; simp)
      have hor : orJ (At22 ax ay ux uy h a b) (w - 0).toNat 0 = true := orJ_true _ 0 (px0 ax ay ux uy a b) (by omega) (by omega) (hat _ rfl)
      obtain ⟨b1, b2, b3⟩ := fstJ_spec _ _ hor
      obtain ⟨d1, d2, d3⟩ := fstJ_spec _ _ b3
      have f : at22 ax ay ux uy a b (i22 ax ay ux uy w h a b 0) (j22 ax ay ux uy h a b (i22 ax ay ux uy w h a b 0)) = true := d3
      have f1 : 0 ≤ i22 ax ay ux uy w h a b 0 ∧ i22 ax ay ux uy w h a b 0 < w := by unfold i22; omega
      have f2 : 0 ≤ j22 ax ay ux uy h a b (i22 ax ay ux uy w h a b 0) ∧ j22 ax ay ux uy h a b (i22 ax ay ux uy w h a b 0) < h := by unfold j22 i22; omega
      have f3 := f
      unfold at22 at f3
      simp only [Bool.and_true, Bool.and_eq_true, beq_iff_eq] at f3
      obtain ⟨_, g2, g3⟩ := pixel_back hc f1 f2
      rw [f3.1, f3.2] at g2 g3
      rw [hor, ← g3, ← g2]; rfl
    | false =>
      have hor : orJ (At22 ax ay ux uy h a b) (w - 0).toNat 0 = false := orJ_false _ 0 fun i h1 h2 => orJ_false _ 0 fun j h3 h4 => by
        cases ha : at22 ax ay ux uy a b i j with
        | false => rfl
        | true =>
          exfalso
          unfold at22 at ha
          simp only [Bool.and_true, Bool.and_eq_true, beq_iff_eq] at ha
          obtain ⟨g1, _⟩ := pixel_back hc (i := i) (j := j) (by omega) (by omega)
          rw [ha.1, ha.2, hp] at g1
          cases g1
      rw [hor]; rfl
  · have e0 : (ck ax ay ux uy w h hr != 0) = true := by simp [hc]
    have hp : pin ax ay ux uy w h hr a b = false := by unfold pin ok0; rw [e0]; rfl
    rw [e0, hp]; rfl
theorem o22 (args : List PV) (r : PV) (h : c21 args = some r) : Enters Try.prog 22 ∧ PCall Try.prog 22 args r := by
  unfold c21 at h; split at h
  · cases h; exact runP_sound ok22b (n := 60) (pixel_eq ..)
  · cases h
end Go.Hv
