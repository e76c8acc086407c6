/- The view's reference: Check. -/
import Derived.Test.YtmcbhfkaedchdaaHvL7
namespace Go.Hv
open Go.Hx Go.Proofs
abbrev S13 (i j : Int) : List PV := tm 94 [(1, .ptr 0 1 0 0), (3, iv i), (4, iv j)]
abbrev T13 (i : Int) : List PV := tm 94 [(1, .ptr 0 1 0 0), (3, iv i)]
abbrev T13r (i : Int) : List PV := tm 94 [(1, .ptr 0 1 0 0), (2, iv 10), (3, iv i)]
abbrev H13 (ax ay ux uy w h hr : Int) : List Row := [r1 28 7 (vwv ax ay ux uy w h hr)]
theorem q13i (i j ax ay ux uy w h hr : Int) : runB Try.prog E5 60 13 (lpb Try.f13 13) [1, 3, 4] [1, 2, 3] (S13 i j) (H13 ax ay ux uy w h hr) =
  bif decide (j < h) then
    bif !btw (wx ax ux uy i j) (-1048576) 1048576 then some (.ret, T13r i, H13 ax ay ux uy w h hr)
    else bif !btw (wy ay ux uy i j) (-1048576) 1048576 then some (.ret, T13r i, H13 ax ay ux uy w h hr)
    else some (.normal, S13 i (W (j + 1)), H13 ax ay ux uy w h hr)
  else some (.exit 2, T13 i, H13 ax ay ux uy w h hr) := by kernel_rfl
def out13 (ax ay ux uy i : Int) (j : Int) : Bool := !btw (wx ax ux uy i j) (-1048576) 1048576 || !btw (wy ay ux uy i j) (-1048576) 1048576
def s13i : St := ⟨94, [(1, .ptr 0 1 0 0), (3, i64), (4, i64)], [.one 28 7 (i64s 7)]⟩
def c13i : List Lf → List Lf → Option (DT (PX × List PV × List Row))
  | [.i i, .i j], [.i ax, .i ay, .i ux, .i uy, .i w, .i h, .i hr] =>
    some (.br (decide (0 ≤ j) && decide (h ≤ 64)) (.br (orJ (out13 ax ay ux uy i) (h - j).toNat j) (.leaf (.ret, T13r i, H13 ax ay ux uy w h hr)) (.leaf (.exit 2, T13 i, H13 ax ay ux uy w h hr))) .no)
  | _, _ => none
theorem g13i (i j ax ay ux uy w h hr : Int) : s13i.get (S13 i j) (H13 ax ay ux uy w h hr) = some ([.i i, .i j], [.i ax, .i ay, .i ux, .i uy, .i w, .i h, .i hr]) := by kernel_rfl
theorem run_br2 {α : Type} {b c : Bool} {x y r : α} (h : (DT.br b (.br c (.leaf x) (.leaf y)) .no).run = some r) : b = true ∧ ((c = true ∧ x = r) ∨ (c = false ∧ y = r)) := by
  cases b
  · cases h
  · cases c
    · exact ⟨rfl, .inr ⟨rfl, Option.some.inj h⟩⟩
    · exact ⟨rfl, .inl ⟨rfl, Option.some.inj h⟩⟩
theorem w13i (hsub : SubCode Try.prog 13 (.loop (lpb Try.f13 13))) (ro : Nat) (S : List PV) (H : List Row) (d : DT (PX × List PV × List Row)) (x : PX) (S' : List PV) (H' : List Row) (hc : byShape s13i c13i ro S H = some d) (hd : d.run = some (x, S', H')) :
    WpTo Try.prog (.loop (lpb Try.f13 13)) ro S H x S' H' := by
  obtain ⟨_, _, rfl, hg, hf⟩ := byShape_inv hc
  unfold c13i at hf
  split at hf
  · rename_i i j ax ay ux uy w h hr
    cases hf
    obtain ⟨rfl, hH⟩ := St.inj hg (g13i i j ax ay ux uy w h hr)
    refine wpTo_nrm ?_
    rw [hH]
    obtain ⟨hcond, he⟩ := run_br2 hd
    simp only [Bool.and_eq_true, decide_eq_true_eq] at hcond
    obtain ⟨h1, h2⟩ := hcond
    have hbody := hsub.sub (.loop .here)
    clear hc hg hd hH
    have key : ∀ (N : Nat) (j : Int), 0 ≤ j → (h - j).toNat = N → (orJ (out13 ax ay ux uy i) N j = true → Rnds Try.prog (lpb Try.f13 13) 0 .ret (T13r i) (H13 ax ay ux uy w h hr) (S13 i j) (H13 ax ay ux uy w h hr)) ∧
        (orJ (out13 ax ay ux uy i) N j = false → Rnds Try.prog (lpb Try.f13 13) 0 (.exit 2) (T13 i) (H13 ax ay ux uy w h hr) (S13 i j) (H13 ax ay ux uy w h hr)) := by
      intro N
      induction N with
      | zero =>
        intro j h1 hn
        refine ⟨fun h => (by cases h), fun _ => .stop (runB_sound ok5 hbody (n := 60) (l := [1, 3, 4]) (l' := [1, 2, 3]) ?_)⟩
        have : decide (j < h) = false := by simp; omega
        rw [q13i, this]; rfl
      | succ N ih =>
        intro j h1 hn
        have e : decide (j < h) = true := by simp; omega
        obtain ⟨i1, i2⟩ := ih (j + 1) (by omega) (by omega)
        have next : out13 ax ay ux uy i j = false → WpTo Try.prog (lpb Try.f13 13) 0 (S13 i j) (H13 ax ay ux uy w h hr) .normal (S13 i (j + 1)) (H13 ax ay ux uy w h hr) := by
          intro ho
          refine runB_sound ok5 hbody (n := 60) (l := [1, 3, 4]) (l' := [1, 2, 3]) ?_
          unfold out13 at ho
          simp only [Bool.or_eq_false_iff] at ho
          rw [q13i, e, ho.1, ho.2, W_id (n := j + 1) (by omega) (by omega)]; rfl
        refine ⟨fun ho => ?_, fun ho => ?_⟩
        · simp only [orJ, Bool.or_eq_true] at ho
          cases hb : out13 ax ay ux uy i j with
          | true =>
            refine .stop (runB_sound ok5 hbody (n := 60) (l := [1, 3, 4]) (l' := [1, 2, 3]) ?_)
            unfold out13 at hb
            rw [q13i, e]
            revert hb
            cases !btw (wx ax ux uy i j) (-1048576) 1048576 <;> cases !btw (wy ay ux uy i j) (-1048576) 1048576 <;> simp
          | false => exact .go (next hb) (i1 (ho.resolve_left (by simp [hb])))
        · simp only [orJ, Bool.or_eq_false_iff] at ho
          exact .go (next ho.1) (i2 ho.2)
    rcases he with ⟨ho, he⟩ | ⟨ho, he⟩
    · cases he
      exact Rnds.loop (by simp) ((key _ j h1 rfl).1 ho)
    · cases he
      exact Rnds.loop (by simp) ((key _ j h1 rfl).2 ho)
  · cases hf
noncomputable def E13a : EnvK := E5.addL 13 13 [1, 3, 4] (byShape s13i c13i)
theorem ok13a : EnvOK Try.prog E13a.env := ok5.addL Try.func13 (show Try.f13.body = some (bod Try.f13) by kernel_rfl) (show (loops (bod Try.f13)).filter (fun b => rid b == 13) = [lpb Try.f13 13] by kernel_rfl) w13i
abbrev U13 : List PV := tm 94 [(1, .ptr 0 1 0 0)]
abbrev U13r : List PV := tm 94 [(1, .ptr 0 1 0 0), (2, iv 10)]
theorem q13o (i ax ay ux uy w h hr : Int) : runB Try.prog E13a 60 13 (lpb Try.f13 10) [1, 3] [1, 2] (T13 i) (H13 ax ay ux uy w h hr) =
  bif decide (i < w) then
    bif decide ((0 : Int) ≤ 0) && decide (h ≤ 64) then
      bif orJ (out13 ax ay ux uy i) (h - 0).toNat 0 then some (.ret, U13r, H13 ax ay ux uy w h hr) else some (.normal, T13 (W (i + 1)), H13 ax ay ux uy w h hr)
    else none
  else some (.exit 0, U13, H13 ax ay ux uy w h hr) := by kernel_rfl
def Out13 (ax ay ux uy h : Int) (i : Int) : Bool := orJ (out13 ax ay ux uy i) (h - 0).toNat 0
def s13o : St := ⟨94, [(1, .ptr 0 1 0 0), (3, i64)], [.one 28 7 (i64s 7)]⟩
def c13o : List Lf → List Lf → Option (DT (PX × List PV × List Row))
  | [.i i], [.i ax, .i ay, .i ux, .i uy, .i w, .i h, .i hr] =>
    some (.br (decide (0 ≤ i) && decide (w ≤ 64) && decide (h ≤ 64)) (.br (orJ (Out13 ax ay ux uy h) (w - i).toNat i) (.leaf (.ret, U13r, H13 ax ay ux uy w h hr)) (.leaf (.exit 0, U13, H13 ax ay ux uy w h hr))) .no)
  | _, _ => none
theorem g13o (i ax ay ux uy w h hr : Int) : s13o.get (T13 i) (H13 ax ay ux uy w h hr) = some ([.i i], [.i ax, .i ay, .i ux, .i uy, .i w, .i h, .i hr]) := by kernel_rfl
theorem w13o (hsub : SubCode Try.prog 13 (.loop (lpb Try.f13 10))) (ro : Nat) (S : List PV) (H : List Row) (d : DT (PX × List PV × List Row)) (x : PX) (S' : List PV) (H' : List Row) (hc : byShape s13o c13o ro S H = some d) (hd : d.run = some (x, S', H')) :
    WpTo Try.prog (.loop (lpb Try.f13 10)) ro S H x S' H' := by
  obtain ⟨_, _, rfl, hg, hf⟩ := byShape_inv hc
  unfold c13o at hf
  split at hf
  · rename_i i ax ay ux uy w h hr
    cases hf
    obtain ⟨rfl, hH⟩ := St.inj hg (g13o i ax ay ux uy w h hr)
    refine wpTo_nrm ?_
    rw [hH]
    obtain ⟨hcond, he⟩ := run_br2 hd
    simp only [Bool.and_eq_true, decide_eq_true_eq] at hcond
    obtain ⟨⟨h1, h2⟩, h3⟩ := hcond
    have hbody := hsub.sub (.loop .here)
    clear hc hg hd hH
    have e3 : decide (h ≤ 64) = true := by simp; omega
    have key : ∀ (N : Nat) (i : Int), 0 ≤ i → (w - i).toNat = N → (orJ (Out13 ax ay ux uy h) N i = true → Rnds Try.prog (lpb Try.f13 10) 0 .ret U13r (H13 ax ay ux uy w h hr) (T13 i) (H13 ax ay ux uy w h hr)) ∧
        (orJ (Out13 ax ay ux uy h) N i = false → Rnds Try.prog (lpb Try.f13 10) 0 (.exit 0) U13 (H13 ax ay ux uy w h hr) (T13 i) (H13 ax ay ux uy w h hr)) := by
      intro N
      induction N with
      | zero =>
        intro i h1 hn
        refine ⟨fun h => (by cases h), fun _ => .stop (runB_sound ok13a hbody (n := 60) (l := [1, 3]) (l' := [1, 2]) ?_)⟩
        have : decide (i < w) = false := by simp; omega
        rw [q13o, this]; rfl
      | succ N ih =>
        intro i h1 hn
        have e : decide (i < w) = true := by simp; omega
        obtain ⟨i1, i2⟩ := ih (i + 1) (by omega) (by omega)
        have next : Out13 ax ay ux uy h i = false → WpTo Try.prog (lpb Try.f13 10) 0 (T13 i) (H13 ax ay ux uy w h hr) .normal (T13 (i + 1)) (H13 ax ay ux uy w h hr) := by
          intro ho
          refine runB_sound ok13a hbody (n := 60) (l := [1, 3]) (l' := [1, 2]) ?_
          unfold Out13 at ho
          rw [q13o, e, e3, ho, W_id (n := i + 1) (by omega) (by omega)]; rfl
        refine ⟨fun ho => ?_, fun ho => ?_⟩
        · simp only [orJ, Bool.or_eq_true] at ho
          cases hb : Out13 ax ay ux uy h i with
          | true =>
            refine .stop (runB_sound ok13a hbody (n := 60) (l := [1, 3]) (l' := [1, 2]) ?_)
            unfold Out13 at hb
            rw [q13o, e, e3, hb]; rfl
          | false => exact .go (next hb) (i1 (ho.resolve_left (by simp [hb])))
        · simp only [orJ, Bool.or_eq_false_iff] at ho
          exact .go (next ho.1) (i2 ho.2)
    rcases he with ⟨ho, he⟩ | ⟨ho, he⟩
    · cases he
      exact Rnds.loop (by simp) ((key _ i h1 rfl).1 ho)
    · cases he
      exact Rnds.loop (by simp) ((key _ i h1 rfl).2 ho)
  · cases hf
noncomputable def E13b : EnvK := E13a.addL 13 10 [1, 3] (byShape s13o c13o)
theorem ok13b : EnvOK Try.prog E13b.env := ok13a.addL Try.func13 (show Try.f13.body = some (bod Try.f13) by kernel_rfl) (show (loops (bod Try.f13)).filter (fun b => rid b == 10) = [lpb Try.f13 10] by kernel_rfl) w13o
/-- What hachureref25.Check says. -/
def ckr (ax ay ux uy w h hr : Int) : Int :=
  bif ((ux == 0) && ((uy == 0) && true)) then 1
  else bif !btw ux (-1024) 1024 then 3 else bif !btw uy (-1024) 1024 then 3 else bif decide (W (W (ux * ux) + W (uy * uy)) > 1048576) then 3
  else bif !btw w 1 64 then 3 else bif !btw h 1 64 then 3 else bif !btw hr 0 23 then 3
  else bif !btw ax (-1048576) 1048576 then 10 else bif !btw ay (-1048576) 1048576 then 10
  else bif orJ (Out13 ax ay ux uy h) (w - 0).toNat 0 then 10 else 0
theorem q13 (ax ay ux uy w h hr : Int) : runP Try.prog E13b 60 13 [vwv ax ay ux uy w h hr] =
  bif ((ux == 0) && ((uy == 0) && true)) then some (iv 1)
  else bif !btw ux (-1024) 1024 then some (iv 3) else bif !btw uy (-1024) 1024 then some (iv 3) else bif decide (W (W (ux * ux) + W (uy * uy)) > 1048576) then some (iv 3)
  else bif !btw w 1 64 then some (iv 3) else bif !btw h 1 64 then some (iv 3) else bif !btw hr 0 23 then some (iv 3)
  else bif !btw ax (-1048576) 1048576 then some (iv 10) else bif !btw ay (-1048576) 1048576 then some (iv 10)
  else bif decide ((0 : Int) ≤ 0) && decide (w ≤ 64) && decide (h ≤ 64) then
    bif orJ (Out13 ax ay ux uy h) (w - 0).toNat 0 then some (iv 10) else some (iv 0)
  else none := by kernel_rfl
def c13 : List PV → Option PV
  | [.agg [.val (.int .i64 ax), .val (.int .i64 ay), .val (.int .i64 ux), .val (.int .i64 uy), .val (.int .i64 w), .val (.int .i64 h), .val (.int .i64 hr)]] => some (iv (ckr ax ay ux uy w h hr))
  | _ => none
theorem o13 (args : List PV) (r : PV) (h : c13 args = some r) : Enters Try.prog 13 ∧ PCall Try.prog 13 args r := by
  unfold c13 at h; split at h
  · rename_i ax ay ux uy w h' hr
    cases h
    refine runP_sound ok13b (n := 60) ?_
    rw [q13]; unfold ckr
    cases ((ux == 0) && ((uy == 0) && true))
    · cases !btw ux (-1024) 1024
      · cases !btw uy (-1024) 1024
        · cases decide (W (W (ux * ux) + W (uy * uy)) > 1048576)
          · cases hw : !btw w 1 64
            · cases hh : !btw h' 1 64
              · cases !btw hr 0 23
                · cases !btw ax (-1048576) 1048576
                  · cases !btw ay (-1048576) 1048576
                    · have e1 : decide (w ≤ 64) = true := by unfold btw at hw; simp at hw; simp; omega
                      have e2 : decide (h' ≤ 64) = true := by unfold btw at hh; simp at hh; simp; omega
                      rw [e1, e2]
                      cases orJ (Out13 ax ay ux uy h') (w - 0).toNat 0 <;> rfl
                    · rfl
                  · rfl
                · rfl
              · rfl
            · rfl
          · rfl
        · rfl
      · rfl
    · rfl
  · cases h
end Go.Hv
