/- Hx: a region that draws its order and writes comes to what the order of the text comes to. -/
import Derived.Test.YtadcoepikgjgmaaHxDraw
namespace Go.Hx

def SameShp (r r' : Row) : Prop := r = r' ∨ (r.live = true ∧ r'.live = true ∧ ShpR r r' ∧ r.lp = r'.lp)
theorem SameShp.refl (r : Row) : SameShp r r := .inl rfl
theorem SameShp.symm {r r' : Row} (h : SameShp r r') : SameShp r' r := by
  rcases h with h | ⟨a, b, ⟨c1, c2, c3, c4⟩, d⟩
  · exact .inl h.symm
  · exact .inr ⟨b, a, ⟨c1.symm, c2.symm, c3.symm, c4.symm⟩, d.symm⟩
theorem SameShp.trans {r r' r'' : Row} (h : SameShp r r') (k : SameShp r' r'') : SameShp r r'' := by
  rcases h with rfl | ⟨a, b, ⟨c1, c2, c3, c4⟩, d⟩
  · exact k
  · rcases k with rfl | ⟨a', b', ⟨e1, e2, e3, e4⟩, d'⟩
    · exact .inr ⟨a, b, ⟨c1, c2, c3, c4⟩, d⟩
    · exact .inr ⟨a, b', ⟨c1.trans e1, c2.trans e2, c3.trans e3, c4.trans e4⟩, d.trans d'⟩
theorem SameShp.poison {r r' : Row} (h : SameShp r r') : poisonRow r = poisonRow r' := by
  rcases h with rfl | ⟨a, b, c, d⟩
  · rfl
  · exact poisonRow_eq c a b d

theorem storeQ_rows {P : Program} {ro : Nat} {H H' : List Row} {T : TypeId} {i n k j : Nat} {x : PV} (h : storeQ P ro H T (.ptr i n k j) x = some H') :
    ∃ r r2, rowAt H i = some r ∧ H' = H.set i r2 ∧ SameShp r r2 ∧ ∀ Hd, rowAt Hd i = some r → storeQ P ro Hd T (.ptr i n k j) x = some (Hd.set i r2) := by
  simp only [storeQ] at h
  split at h
  · rename_i r hr
    split at h
    · rename_i hc
      split at h
      · rename_i r2 hr2
        cases h
        have hlive : r.live = true := by
          unfold rowAt at hr
          split at hr
          · split at hr
            · rename_i hl; cases hr; exact hl
            · cases hr
          · cases hr
        refine ⟨r, r2, hr, rfl, ?_, fun Hd hd => by simp only [storeQ, hd]; rw [if_pos hc]; simp only [hr2]⟩
        unfold setCells at hr2
        split at hr2
        · cases hr2
          exact .inr ⟨hlive, hlive, ⟨rfl, by simp, rfl, rfl⟩, rfl⟩
        · cases hr2
      · cases h
    · cases h
  · cases h

/-- What one operation of the text's order does; w: the rows that it writes. -/
def DoesM (P : Program) (E : Env) (ex : Ex) (ro : Nat) (R K G : List Nat) (S : List PV) (H : List Row) (o : Oper) (p : PV) (H' : List Row) (w : List Nat) : Prop :=
  (∃ T a x i n k j, o.op = .store T a x ∧ ev S a = .ptr i n k j ∧ storeQ P ro H T (.ptr i n k j) (ev S x) = some H' ∧ p = .val undef ∧ w = [i]) ∨
  (stepX P E ex K S (poison R H) o = some (p, poison R H) ∧ H' = H ∧ w = []) ∨
  (∃ r, stepX P E ex K S (poison R H) o = some (p, poison R H ++ [r]) ∧ H' = H ++ [r] ∧ w = [H.length]) ∨
  (∃ f args H2, wcallQ S o.op = some (f, args) ∧ args.all (argOk H.length) = true ∧ ro ≤ H.length ∧ rowsOk 0 (maskH w H) = true ∧ callI P E ex ro f args (maskH w H) = some (p, H2) ∧ plain p = true ∧
    rowsOk 0 (maskH w (H2.take H.length)) = true ∧ shpsB w H H2 = true ∧ H' = backH w H H2) ∨
  (∃ c i x y, growQ S o.op = some (c, i, x, y) ∧ srcFree R y = true ∧ appendQ P ro H c x y = some (p, H') ∧ i ∈ G ∧ w = [i])

theorem stepM_does {P : Program} {E : Env} {ex : Ex} {ro : Nat} {W R K G : List Nat} {S : List PV} {H H' : List Row} {o : Oper} {p : PV} (h : stepM P E ex ro W R K G S H o = some (p, H')) :
    ∃ w, DoesM P E ex ro R K G S H o p H' w ∧ ∀ x, x ∈ w → x ∈ W ∧ x ∉ R := by
  have hE : stepME P E ex W R K S H o = some (p, H') → ∃ w, DoesM P E ex ro R K G S H o p H' w ∧ ∀ x, x ∈ w → x ∈ W ∧ x ∉ R := by
    intro h
    unfold stepME at h
    split at h
    · rename_i q H1 hs
      have hrows := stepX_rows hs
      have hl := poison_length R H
      split at h
      · rename_i hd
        cases h
        rcases hrows with rfl | ⟨r, rfl⟩
        · exact ⟨[], .inr (.inl ⟨hs, rfl, rfl⟩), fun x hx => by cases hx⟩
        · rw [← hl, List.drop_left] at hd; cases hd
      · rename_i r hd
        split at h
        · rename_i hc
          cases h
          rcases hrows with rfl | ⟨r', rfl⟩
          · rw [← hl, List.drop_length] at hd; cases hd
          · rw [← hl, List.drop_left] at hd
            cases hd
            simp only [Bool.and_eq_true, Bool.not_eq_true', List.contains_eq_mem, decide_eq_true_eq, decide_eq_false_iff_not] at hc
            exact ⟨[H.length], .inr (.inr (.inl ⟨r, hs, rfl, rfl⟩)), fun x hx => by simp only [List.mem_singleton] at hx; subst hx; exact hc⟩
        · cases h
      · cases h
    · cases h
  unfold stepM at h
  split at h
  · rename_i T a x ho
    split at h
    · rename_i i n k j ha
      split at h
      · rename_i hc
        obtain ⟨H2, h2, he⟩ := Option.map_eq_some_iff.1 h
        cases he
        simp only [Bool.and_eq_true, Bool.not_eq_true', List.contains_eq_mem, decide_eq_true_eq, decide_eq_false_iff_not] at hc
        exact ⟨[i], .inl ⟨T, a, x, i, n, k, j, ho, ha, h2, rfl, rfl⟩, fun y hy => by simp only [List.mem_singleton] at hy; subst hy; exact hc⟩
      · cases h
    · cases h
  · split at h
    · rename_i f args hw
      split at h
      · exact hE h
      · rename_i hne
        split at h
        · rename_i hc
          simp only [Bool.and_eq_true, decide_eq_true_eq] at hc
          obtain ⟨⟨⟨hK, hargs⟩, hro⟩, hok⟩ := hc
          split at h
          · rename_i q H2 hcall
            split at h
            · rename_i hc2
              cases h
              simp only [Bool.and_eq_true] at hc2
              refine ⟨wRows E.pure f args, .inr (.inr (.inr (.inl ⟨f, args, H2, hw, hargs, hro, hok, hcall, hc2.1.1, hc2.1.2, hc2.2, rfl⟩))), fun x hx => ?_⟩
              have := List.all_eq_true.1 hK x hx
              simpa using this
            · cases h
          · cases h
        · cases h
    · split at h
      · rename_i c i x y hg
        split at h
        · rename_i hc
          simp only [Bool.and_eq_true, Bool.not_eq_true', List.contains_eq_mem, decide_eq_true_eq, decide_eq_false_iff_not] at hc
          exact ⟨[i], .inr (.inr (.inr (.inr ⟨c, i, x, y, hg, hc.2, h, hc.1.2, rfl⟩))), fun z hz => by simp only [List.mem_singleton] at hz; subst hz; exact hc.1.1⟩
        · cases h
      · exact hE h

theorem growQ_sl {S : List PV} {op : Op} {c : Call} {i : Nat} {x y : PV} (h : growQ S op = some (c, i, x, y)) : ∃ X Y n len, op = .call c ∧ c.callee = .builtin .append ∧ c.args.toList = [X, Y] ∧ ev S X = .sl i n 0 len ∧ x = .sl i n 0 len ∧ y = ev S Y := by
  unfold growQ at h
  split at h
  · rename_i c' _
    split at h
    · rename_i hc
      split at h
      · rename_i X Y ha
        split at h
        · rename_i i' n len hx
          cases h
          exact ⟨X, Y, n, len, rfl, hc, ha, hx, rfl, rfl⟩
        · cases h
      · cases h
    · cases h
  · cases h
theorem srcOf_same {H Hd : List Row} {y : PV} (h : ∀ i n k l, y = .sl i n k l → rowAt Hd i = rowAt H i) : srcOf Hd y = srcOf H y := by
  cases y with
  | sl i n k l => simp only [srcOf]; rw [h i n k l rfl]
  | _ => rfl
/-- An append to a row: only this row and the source matter. -/
theorem appendQ_rows {P : Program} {ro : Nat} {H H' : List Row} {c : Call} {i n len : Nat} {y p : PV} (h : appendQ P ro H c (.sl i n 0 len) y = some (p, H')) :
    ∃ r r2, rowAt H i = some r ∧ H' = H.set i r2 ∧ (srcOf H y).isSome = true ∧ ∀ Hd, rowAt Hd i = some r → srcOf Hd y = srcOf H y → appendQ P ro Hd c (.sl i n 0 len) y = some (p, Hd.set i r2) := by
  unfold appendQ at h
  split at h
  · rename_i T T2 hT hT2
    split at h
    · rename_i e e2 ty t news hu hu2 hsrc
      split at h
      · rename_i hc
        split at h
        · rename_i heq
          cases heq
          split at h
          · rename_i r hr
            split at h
            · rename_i hc2
              split at h
              · rename_i hc3
                cases h
                refine ⟨r, _, hr, rfl, by rw [hsrc]; rfl, fun Hd h1 h2 => ?_⟩
                unfold appendQ
                simp only [hT, hT2, hu, hu2, h2, hsrc, h1]
                rw [if_pos hc, if_pos hc2, if_pos hc3]
              · cases h
            · cases h
          · cases h
        · rename_i heq; cases heq
        · rename_i heq; cases heq
        · cases h
      · cases h
    · cases h
  · cases h

theorem shpsB_get {K : List Nat} {H H2 : List Row} (h : shpsB K H H2 = true) {x : Nat} (hx : x ∈ K) : ∃ r r', H[x]? = some r ∧ H2[x]? = some r' ∧ SameShp r r' := by
  have := List.all_eq_true.1 h x hx
  split at this
  · rename_i r r' h1 h2
    simp only [shpB, Bool.and_eq_true, beq_iff_eq, Option.isNone_iff_eq_none] at this
    obtain ⟨⟨⟨⟨⟨⟨⟨a1, a2⟩, a3⟩, a4⟩, a5⟩, a6⟩, a7⟩, a8⟩ := this
    exact ⟨r, r', h1, h2, .inr ⟨a1, a2, ⟨a3, a4, a5, a6⟩, by rw [a7, a8]⟩⟩
  · cases this

/-- What it does to the rows. -/
theorem DoesM.rows {P : Program} {E : Env} {ex : Ex} {ro : Nat} {R K G : List Nat} {S : List PV} {H H' : List Row} {o : Oper} {p : PV} {w : List Nat} (h : DoesM P E ex ro R K G S H o p H' w) :
    (∀ x, x < H.length → ∃ r r', H[x]? = some r ∧ H'[x]? = some r' ∧ (x ∈ G ∨ SameShp r r') ∧ (x ∉ w → r' = r)) ∧ H.length ≤ H'.length ∧ (∀ x, H.length ≤ x → x < H'.length → x = H.length ∧ x ∈ w) ∧ (∀ x, x ∈ w → x < H'.length) := by
  have same : ∀ x, x < H.length → ∃ r r', H[x]? = some r ∧ H[x]? = some r' ∧ (x ∈ G ∨ SameShp r r') ∧ (x ∉ w → r' = r) := fun x hx => ⟨H[x], H[x], List.getElem?_eq_getElem hx, List.getElem?_eq_getElem hx, .inr (.refl _), fun _ => rfl⟩
  rcases h with ⟨T, a, x, i, n, k, j, ho, ha, hs, rfl, rfl⟩ | ⟨hs, rfl, rfl⟩ | ⟨r, hs, rfl, rfl⟩ | ⟨f, args, H2, hw, hargs, hro, hok, hcall, hp, hk, hsh, rfl⟩ | ⟨c, i, x, y, hg, hsf, hap, hiG, rfl⟩
  · obtain ⟨r, r2, g1, rfl, g3, g4⟩ := storeQ_rows hs
    have hi : i < H.length := rowAt_lt g1
    refine ⟨fun y hy => ?_, by simp, fun y h1 h2 => by simp at h2; omega, fun y hy => by simp only [List.mem_singleton] at hy; subst hy; simpa using hi⟩
    by_cases hyi : i = y
    · subst hyi
      have hri : H[i]? = some r := by
        unfold rowAt at g1
        split at g1
        · rename_i r' hr'
          split at g1
          · cases g1; exact hr'
          · cases g1
        · cases g1
      exact ⟨r, r2, hri, by rw [List.getElem?_set, if_pos rfl, if_pos hi], .inr g3, fun hn => absurd (by simp) hn⟩
    · exact ⟨H[y], H[y], List.getElem?_eq_getElem hy, by rw [List.getElem?_set, if_neg hyi]; exact List.getElem?_eq_getElem hy, .inr (.refl _), fun _ => rfl⟩
  · exact ⟨same, Nat.le_refl _, fun x h1 h2 => by omega, fun x hx => by cases hx⟩
  · refine ⟨fun x hx => ⟨H[x], H[x], List.getElem?_eq_getElem hx, by rw [List.getElem?_append_left hx]; exact List.getElem?_eq_getElem hx, .inr (.refl _), fun _ => rfl⟩, by simp, fun x h1 h2 => by simp at h2; exact ⟨by omega, by simp; omega⟩, fun x hx => by simp at hx; subst hx; simp⟩
  · refine ⟨fun x hx => ?_, by rw [backH_length]; exact Nat.le_refl _, fun x h1 h2 => by rw [backH_length] at h2; omega, fun x hx => ?_⟩
    · have hH : H[x]? = some H[x] := List.getElem?_eq_getElem hx
      by_cases hxw : x ∈ w
      · obtain ⟨r, r', g1, g2, g3⟩ := shpsB_get hsh hxw
        refine ⟨r, r', g1, ?_, .inr g3, fun hn => absurd hxw hn⟩
        rw [backH_get, g1]
        simp only [Option.map_some]
        rw [if_pos (by simpa using hxw), List.getD_eq_getElem?_getD, g2]; rfl
      · refine ⟨H[x], H[x], hH, ?_, .inr (.refl _), fun _ => rfl⟩
        rw [backH_get, hH]
        simp only [Option.map_some]
        rw [if_neg (by simpa using hxw)]
    · obtain ⟨r, r', g1, g2, g3⟩ := shpsB_get hsh hx
      rw [backH_length]
      exact (List.getElem?_eq_some_iff.1 g1).1
  · obtain ⟨X, Y, n, len, _, _, _, _, rfl, _⟩ := growQ_sl hg
    obtain ⟨r, r2, g1, rfl, _, g4⟩ := appendQ_rows hap
    have hi : i < H.length := rowAt_lt g1
    refine ⟨fun y hy => ?_, by simp, fun y h1 h2 => by simp at h2; omega, fun y hy => by simp only [List.mem_singleton] at hy; subst hy; simpa using hi⟩
    by_cases hyi : i = y
    · subst hyi
      exact ⟨H[i], r2, List.getElem?_eq_getElem hi, by rw [List.getElem?_set, if_pos rfl, if_pos hi], .inl hiG, fun hn => absurd (by simp) hn⟩
    · exact ⟨H[y], H[y], List.getElem?_eq_getElem hy, by rw [List.getElem?_set, if_neg hyi]; exact List.getElem?_eq_getElem hy, .inr (.refl _), fun _ => rfl⟩

theorem traceJ {step : Nat → List PV → List Row → Oper → Option (PV × List Row)} {ops : Array Oper} : ∀ (l : List Oper) (j0 : Nat) {S S' : List PV} {H H' : List Row}, opsJ step ops j0 l S H = some (S', H') →
    ∃ (Sf : Nat → List PV) (Hf : Nat → List Row) (pf : Nat → PV), Sf 0 = S ∧ Hf 0 = H ∧ Sf l.length = S' ∧ Hf l.length = H' ∧ ∀ (j : Nat) o, l[j]? = some o → Sf (j + 1) = putS (Sf j) o.dst (pf j) ∧
      ((guardQ ops (Sf j) o = some (false, Sf j) ∧ pf j = .val undef ∧ Hf (j + 1) = Hf j) ∨ (guardQ ops (Sf j) o = some (true, Sf j) ∧ step (j0 + j) (Sf j) (Hf j) o = some (pf j, Hf (j + 1))))
  | [], j0, S, S', H, H', h => by
    simp only [opsJ] at h
    cases h
    exact ⟨fun _ => S, fun _ => H, fun _ => .any, rfl, rfl, rfl, rfl, fun j o hj => by simp at hj⟩
  | o :: os, j0, S, S', H, H', h => by
    simp only [opsJ] at h
    have glue : ∀ (p : PV) (H1 : List Row), ((guardQ ops S o = some (false, S) ∧ p = .val undef ∧ H1 = H) ∨ (guardQ ops S o = some (true, S) ∧ step j0 S H o = some (p, H1))) → opsJ step ops (j0 + 1) os (putS S o.dst p) H1 = some (S', H') →
        ∃ (Sf : Nat → List PV) (Hf : Nat → List Row) (pf : Nat → PV), Sf 0 = S ∧ Hf 0 = H ∧ Sf (o :: os).length = S' ∧ Hf (o :: os).length = H' ∧ ∀ (j : Nat) o', (o :: os)[j]? = some o' → Sf (j + 1) = putS (Sf j) o'.dst (pf j) ∧
          ((guardQ ops (Sf j) o' = some (false, Sf j) ∧ pf j = .val undef ∧ Hf (j + 1) = Hf j) ∨ (guardQ ops (Sf j) o' = some (true, Sf j) ∧ step (j0 + j) (Sf j) (Hf j) o' = some (pf j, Hf (j + 1)))) := by
      intro p H1 h1 h2
      obtain ⟨Sf, Hf, pf, a1, a2, a3, a4, a5⟩ := traceJ os (j0 + 1) h2
      refine ⟨fun j => match j with | 0 => S | j + 1 => Sf j, fun j => match j with | 0 => H | j + 1 => Hf j, fun j => match j with | 0 => p | j + 1 => pf j, rfl, rfl, a3, a4, fun j o' hj => ?_⟩
      match j with
      | 0 =>
        simp at hj
        subst hj
        show Sf 0 = putS S o.dst p ∧ ((guardQ ops S o = some (false, S) ∧ p = .val undef ∧ Hf 0 = H) ∨ (guardQ ops S o = some (true, S) ∧ step (j0 + 0) S H o = some (p, Hf 0)))
        rw [a1, a2]
        exact ⟨rfl, h1⟩
      | j + 1 =>
        have := a5 j o' (by simpa using hj)
        rw [show j0 + 1 + j = j0 + (j + 1) by omega] at this
        exact this
    split at h
    · rename_i S1 hg
      have := guardQ_same hg
      subst this
      split at h
      · rename_i p H1 hs
        exact glue p H1 (.inr ⟨hg, hs⟩) h
      · cases h
    · rename_i S1 hg
      have := guardQ_same hg
      subst this
      exact glue (.val undef) H (.inl ⟨hg, rfl, rfl⟩) h
    · cases h

/-- Row x, once the operations D are carried out (of the first n); a row that is not made yet is there as it will be made. -/
noncomputable def rowD (Hf : Nat → List Row) (wf : Nat → List Nat) (D : Nat → Prop) : Nat → Nat → Option Row
  | 0, x => (Hf 0)[x]?
  | j + 1, x => open Classical in if x ∈ wf j ∧ (D j ∨ (Hf j).length ≤ x) then (Hf (j + 1))[x]? else rowD Hf wf D j x

/-- What the operations do to the rows. -/
def TrRows (Hf : Nat → List Row) (wf gw : Nat → List Nat) (N : Nat) : Prop := ∀ j, j < N → (∀ x, x < (Hf j).length → ∃ r r', (Hf j)[x]? = some r ∧ (Hf (j + 1))[x]? = some r' ∧ (x ∈ gw j ∨ SameShp r r') ∧ (x ∉ wf j → r' = r)) ∧ (Hf j).length ≤ (Hf (j + 1)).length ∧
    (∀ x, (Hf j).length ≤ x → x < (Hf (j + 1)).length → x = (Hf j).length ∧ x ∈ wf j) ∧ (∀ x, x ∈ wf j → x < (Hf (j + 1)).length)
section
variable {Hf : Nat → List Row} {wf gw : Nat → List Nat} {D D' : Nat → Prop} {N : Nat}
theorem lenD (hrow : TrRows Hf wf gw N) : ∀ d j, j + d ≤ N → (Hf j).length ≤ (Hf (j + d)).length
  | 0, _, _ => Nat.le_refl _
  | d + 1, j, h => Nat.le_trans (lenD hrow d j (by omega)) (hrow (j + d) (by omega)).2.1
theorem lenDle (hrow : TrRows Hf wf gw N) {j k : Nat} (hjk : j ≤ k) (hk : k ≤ N) : (Hf j).length ≤ (Hf k).length := by
  have := lenD hrow (k - j) j (by omega)
  rwa [show j + (k - j) = k by omega] at this
theorem rowD_all (hrow : TrRows Hf wf gw N) {x : Nat} : ∀ j, j ≤ N → rowD Hf wf (fun _ => True) j x = (Hf j)[x]?
  | 0, _ => rfl
  | j + 1, hj => by
    simp only [rowD, true_or, and_true]
    split
    · rfl
    · rename_i hx
      rw [rowD_all hrow j (by omega)]
      obtain ⟨h1, h2, h3, h4⟩ := hrow j (by omega)
      rcases Nat.lt_or_ge x (Hf j).length with hl | hl
      · obtain ⟨r, r', g1, g2, _, g4⟩ := h1 x hl
        rw [g1, g2, g4 hx]
      · rw [List.getElem?_eq_none hl]
        rcases Nat.lt_or_ge x (Hf (j + 1)).length with hl2 | hl2
        · exact absurd (h3 x hl hl2).2 hx
        · rw [List.getElem?_eq_none hl2]
theorem rowD_some (hrow : TrRows Hf wf gw N) {x : Nat} : ∀ j, j ≤ N → x < (Hf j).length → ∃ r, rowD Hf wf D j x = some r
  | 0, _, hx => ⟨_, List.getElem?_eq_getElem hx⟩
  | j + 1, hj, hx => by
    simp only [rowD]
    split
    · exact ⟨_, List.getElem?_eq_getElem hx⟩
    · rename_i hc
      obtain ⟨h1, h2, h3, h4⟩ := hrow j (by omega)
      rcases Nat.lt_or_ge x (Hf j).length with hl | hl
      · exact rowD_some hrow j (by omega) hl
      · exact absurd ⟨(h3 x hl hx).2, .inr hl⟩ hc
/-- What differs in operations that let nothing grow has the same shape. -/
theorem rowD_same (hrow : TrRows Hf wf gw N) {x : Nat} : ∀ n, n ≤ N → ∀ (D D' : Nat → Prop), (∀ g, g < n → x ∈ gw g → x ∈ wf g → (D g ↔ D' g)) → (∀ j, j < n → x ∈ wf j → D j → ∀ g, g < j → x ∈ gw g → x ∈ wf g → D g) → (∀ j, j < n → x ∈ wf j → D' j → ∀ g, g < j → x ∈ gw g → x ∈ wf g → D' g) →
    ∀ r, rowD Hf wf D n x = some r → ∃ r', rowD Hf wf D' n x = some r' ∧ SameShp r r'
  | 0, _, D, D', _, _, _, r, h => ⟨r, h, .refl _⟩
  | n + 1, hn, D, D', hag, hc, hc', r, h => by
    have ih := rowD_same hrow (x := x) n (by omega)
    have down : ∀ {D D' : Nat → Prop}, (∀ g, g < n + 1 → x ∈ gw g → x ∈ wf g → (D g ↔ D' g)) → (∀ j, j < n + 1 → x ∈ wf j → D j → ∀ g, g < j → x ∈ gw g → x ∈ wf g → D g) → (∀ j, j < n + 1 → x ∈ wf j → D' j → ∀ g, g < j → x ∈ gw g → x ∈ wf g → D' g) → x ∈ wf n → x < (Hf n).length → D n → ¬ D' n →
        ∃ q q', (Hf (n + 1))[x]? = some q ∧ rowD Hf wf D' n x = some q' ∧ SameShp q q' := by
      intro D D' hag hc hc' hxw hxl hDn hDn'
      have hng : x ∉ gw n := fun hg => hDn' ((hag n (by omega) hg hxw).1 hDn)
      obtain ⟨h1, _, _, _⟩ := hrow n (by omega)
      obtain ⟨r0, r1, g1, g2, g3, _⟩ := h1 x hxl
      have hT : rowD Hf wf (fun _ => True) n x = some r0 := by rw [rowD_all hrow n (by omega)]; exact g1
      obtain ⟨q', k1, k2⟩ := ih (fun _ => True) D' (fun g hg h1 h2 => ⟨fun _ => (hag g (by omega) h1 h2).1 (hc n (by omega) hxw hDn g hg h1 h2), fun _ => trivial⟩) (fun _ _ _ _ _ _ _ _ => trivial) (fun j hj => hc' j (by omega)) r0 hT
      exact ⟨r1, q', g2, k1, (g3.resolve_left hng).symm.trans k2⟩
    simp only [rowD] at h ⊢
    by_cases hxw : x ∈ wf n
    · by_cases hxl : (Hf n).length ≤ x
      · rw [if_pos ⟨hxw, .inr hxl⟩] at h
        rw [if_pos ⟨hxw, .inr hxl⟩]
        exact ⟨r, h, .refl _⟩
      · by_cases h1 : D n
        · rw [if_pos ⟨hxw, .inl h1⟩] at h
          by_cases h2 : D' n
          · rw [if_pos ⟨hxw, .inl h2⟩]; exact ⟨r, h, .refl _⟩
          · rw [if_neg (fun hh => hh.2.elim h2 hxl)]
            obtain ⟨q, q', k1, k2, k3⟩ := down hag hc hc' hxw (by omega) h1 h2
            rw [h] at k1; cases k1
            exact ⟨q', k2, k3⟩
        · rw [if_neg (fun hh => hh.2.elim h1 hxl)] at h
          by_cases h2 : D' n
          · rw [if_pos ⟨hxw, .inl h2⟩]
            obtain ⟨q, q', k1, k2, k3⟩ := down (fun g hg a b => (hag g hg a b).symm) hc' hc hxw (by omega) h2 h1
            rw [h] at k2; cases k2
            exact ⟨q, k1, k3.symm⟩
          · rw [if_neg (fun hh => hh.2.elim h2 hxl)]
            exact ih D D' (fun g hg => hag g (by omega)) (fun j hj => hc j (by omega)) (fun j hj => hc' j (by omega)) r h
    · rw [if_neg (fun hh => hxw hh.1)] at h
      rw [if_neg (fun hh => hxw hh.1)]
      exact ih D D' (fun g hg => hag g (by omega)) (fun j hj => hc j (by omega)) (fun j hj => hc' j (by omega)) r h
theorem rowD_cut {x : Nat} (i : Nat) : ∀ n, i ≤ n → (∀ j, i ≤ j → j < n → x ∈ wf j → ¬ (D j ∨ (Hf j).length ≤ x)) → rowD Hf wf D n x = rowD Hf wf D i x
  | 0, hi, _ => by have : i = 0 := by omega
                   subst this; rfl
  | n + 1, hi, h => by
    by_cases he : i = n + 1
    · subst he; rfl
    · rw [← rowD_cut i n (by omega) fun j h1 h2 => h j h1 (by omega)]
      simp only [rowD]
      rw [if_neg]
      rintro ⟨h1, h2⟩
      exact h n (by omega) (by omega) h1 h2
theorem rowD_congr {x : Nat} : ∀ n, (∀ j, j < n → x ∈ wf j → ((D j ∨ (Hf j).length ≤ x) ↔ (D' j ∨ (Hf j).length ≤ x))) → rowD Hf wf D n x = rowD Hf wf D' n x
  | 0, _ => rfl
  | n + 1, h => by
    have ih := rowD_congr n fun j hj => h j (by omega)
    simp only [rowD]
    rw [ih]
    by_cases hx : x ∈ wf n
    · have := h n (by omega) hx
      by_cases hc : D n ∨ (Hf n).length ≤ x
      · rw [if_pos ⟨hx, hc⟩, if_pos ⟨hx, this.1 hc⟩]
      · rw [if_neg (fun hh => hc hh.2), if_neg (fun hh => hc (this.2 hh.2))]
    · rw [if_neg (fun hh => hx hh.1), if_neg (fun hh => hx hh.1)]
end
/-- All rows. -/
noncomputable def HD (Hf : Nat → List Row) (wf : Nat → List Nat) (N : Nat) (D : Nat → Prop) : List Row := (List.range (Hf N).length).map fun x => (rowD Hf wf D N x).getD default
theorem HD_length {Hf : Nat → List Row} {wf : Nat → List Nat} {N : Nat} {D : Nat → Prop} : (HD Hf wf N D).length = (Hf N).length := by simp [HD]

/-- Back from unknown rows. -/
theorem unpoi {P : Program} {C1 C' : Ctx} {R : List Nat} {h h1 : Nat} (hR1 : RH P C1) (hH : C'.H = (C1.poi R).H) (hx : Ext (C1.poi R) C') (hR' : RH P C') (hρ : ∀ x, (x < h ∨ h1 ≤ x) → C'.ρ x = C1.ρ x)
    (hun : ∀ x, h ≤ x → x < h1 → C1.ρ x = none) (hnew : ∀ x, h ≤ x → x < h1 → x ∉ R) (hold : ∀ b, b < C1.w.heap.size → C'.w.heap[b]? = C1.w.heap[b]?) :
    Ext C1 { C' with H := C1.H } ∧ RH P { C' with H := C1.H } ∧ Shp C' { C' with H := C1.H } := by
  have hC : ({ C' with H := C1.H } : Ctx).poi R = C' := by
    show ({ C' with H := poison R C1.H } : Ctx) = C'
    have : C'.H = poison R C1.H := hH
    rw [← this]
  have hshp : Shp C' { C' with H := C1.H } := by
    have := (poi_shp { C' with H := C1.H } R).symm
    rwa [hC] at this
  have hkeep : ∀ i b, C1.ρ i = some b → C'.ρ i = some b := by
    intro i b hb
    rcases Nat.lt_or_ge i h with h2 | h2
    · rw [hρ i (.inl h2)]; exact hb
    · rcases Nat.lt_or_ge i h1 with h3 | h3
      · rw [hun i h2 h3] at hb; cases hb
      · rw [hρ i (.inr h3)]; exact hb
  have hext : Ext C1 { C' with H := C1.H } := by
    refine ⟨hx.os, hx.tape, hx.output, hx.size, fun b hb _ => hold b hb, fun b c e fr hb => ⟨c, by rw [← hb]; exact hold b (Array.getElem?_eq_some_iff.1 hb).1, rfl⟩, Nat.le_refl _, fun i r' _ hr => ⟨r', hr, rfl, rfl, Nat.le_refl _, fun _ => ⟨rfl, fun b hb => hkeep i b hb⟩⟩,
      hx.fresh, hx.freshOwn, hx.fo, hx.ro, fun i hi => ⟨rfl, (hx.low i hi).2⟩, fun i r info g1 g2 g3 => ⟨⟨r, info.st, g1, g2, g3⟩, fun b hb => hkeep i b hb⟩, fun b rec hb => ⟨rec, by rw [← hb]; exact hold b (Array.getElem?_eq_some_iff.1 hb).1⟩⟩
  refine ⟨hext, hR'.shp hshp fun i b r g1 g2 => ?_, hshp⟩
  have g2' : C1.row? i = some r := g2
  rcases Nat.lt_or_ge i h with h2 | h2
  · have g3 : C1.ρ i = some b := by rw [← hρ i (.inl h2)]; exact g1
    exact (hR1.blk i b r g3 g2').mono hext (hold b (hR1.lt g3))
  · rcases Nat.lt_or_ge i h1 with h3 | h3
    · have hrow : C'.row? i = some r := by
        have : (({ C' with H := C1.H } : Ctx).poi R).row? i = some r := by
          rw [poi_row, show ({ C' with H := C1.H } : Ctx).row? i = some r from g2, Option.map_some, if_neg (by simpa using hnew i h2 h3)]
        rwa [hC] at this
      exact (hR'.blk i b r g1 hrow).shp hshp
    · have g3 : C1.ρ i = some b := by rw [← hρ i (.inr h3)]; exact g1
      exact (hR1.blk i b r g3 g2').mono hext (hold b (hR1.lt g3))

theorem confl_mem {W : List (List Nat)} {m : List Nat} {n i j x : Nat} (hi : i < n) (hij : i ≠ j) (hx : x ∈ W.getD i []) (hc : x ∉ confl W m n j) : (m.getD j 0).testBit i = true ∨ (m.getD i 0).testBit j = true := by
  by_cases h1 : (m.getD j 0).testBit i = true
  · exact .inl h1
  · by_cases h2 : (m.getD i 0).testBit j = true
    · exact .inr h2
    · exfalso
      apply hc
      refine List.mem_flatMap.2 ⟨i, List.mem_range.2 hi, ?_⟩
      have h3 : (i == j) = false := by simpa using hij
      have h1' : (m.getD j 0).testBit i = false := by simpa using h1
      have h2' : (m.getD i 0).testBit j = false := by simpa using h2
      rw [h1', h2', h3]
      exact hx
theorem mix_sound {P : Program} {E : Env} (hE : EnvOK P E) {ex : Ex} (hX : ExSound P E ex) {ro id : Nat} {ops : Array Oper} {S S' : List PV} {H H' : List Row} {W G : List (List Nat)} (hok : drawOk P ops.toList = true)
    (h : opsJ (stepsM P E ex ro W G (masks ops.toList []) ops.size) ops 0 ops.toList S H = some (S', H')) : WpTo P (.region id ops true) ro S H .normal S' H' := by
  obtain ⟨Sf, Hf, pf, e1, e2, e3, e4, hone⟩ := traceJ ops.toList 0 h
  generalize hL : ops.toList = L at *
  have hget : ∀ j, ops[j]? = L[j]? := fun j => by rw [← hL, Array.getElem?_toList]
  have hsize : ops.size = L.length := by rw [← hL]; simp
  simp only [drawOk, Bool.and_eq_true] at hok
  obtain ⟨⟨hmix, _⟩, hall⟩ := hok
  -- the edges
  have hchk : ∀ (j : Nat) o, L[j]? = some o → (∀ e, e ∈ o.after → Region.binds .any e = true → e.on < j) ∧ ∀ (i : Nat) q, L[i]? = some q → i < j → q.apart ops o = true ∨ Reach L j i := by
    intro j o ho
    have h1 := List.all_eq_true.1 hall (o, j) (by rw [List.mem_zipIdx_iff_getElem?]; simpa using ho)
    simp only [Bool.and_eq_true] at h1
    refine ⟨fun e he hb => ?_, fun i q hq hij => ?_⟩
    · have := Array.all_eq_true_iff_forall_mem.1 h1.1 e he
      simpa [hb] using this
    · have h2 := List.all_eq_true.1 h1.2 (q, i) (by rw [List.mem_zipIdx_iff_getElem?]; simpa using hq)
      simp only [Bool.or_eq_true, Bool.not_eq_true', decide_eq_false_iff_not] at h2
      rcases h2 with (h2 | h2) | h2
      · exact absurd hij h2
      · refine .inl ?_
        have : L.toArray = ops := by rw [← hL]
        rwa [this] at h2
      · exact .inr (masks_reach L [] (by simp) (fun j i hb => by simp at hb) j i h2)
  have hdown : ∀ j i, Reach L j i → i < j := by
    intro j i hr
    induction hr with
    | one ho he hb => exact (hchk _ _ ho).1 _ he hb
    | more ho he hb _ ih => have := (hchk _ _ ho).1 _ he hb; omega
  -- the trace
  have hlen : ∀ j, j ≤ L.length → (Sf j).length = S.length := by
    intro j
    induction j with
    | zero => intro _; rw [e1]
    | succ j ih =>
      intro hj
      have ho : L[j]? = some (L[j]'(by omega)) := List.getElem?_eq_getElem _
      rw [(hone j _ ho).1]
      have := ih (by omega)
      cases (L[j]'(by omega)).dst <;> simp [putS, this]
  let R : Nat → List Nat := fun j => confl W (masks L []) ops.size j
  let K : Nat → List Nat := fun j => confl G (masks L []) ops.size j
  let gw : Nat → List Nat := fun j => G.getD j []
  have hex : ∀ j, ∃ w : List Nat, ∀ o, L[j]? = some o → ((guardQ ops (Sf j) o = some (false, Sf j) ∧ pf j = .val undef ∧ Hf (j + 1) = Hf j ∧ w = []) ∨ (guardQ ops (Sf j) o = some (true, Sf j) ∧ DoesM P E ex ro (R j) (K j) (gw j) (Sf j) (Hf j) o (pf j) (Hf (j + 1)) w)) ∧
      ∀ x, x ∈ w → x ∈ W.getD j [] ∧ x ∉ R j := by
    intro j
    cases hj : L[j]? with
    | none => exact ⟨[], fun o ho => by cases ho⟩
    | some o =>
      rcases (hone j o hj).2 with ⟨g1, g2, g3⟩ | ⟨g1, g2⟩
      · exact ⟨[], fun o' ho' => by cases ho'; exact ⟨.inl ⟨g1, g2, g3, rfl⟩, fun x hx => by cases hx⟩⟩
      · rw [Nat.zero_add] at g2
        obtain ⟨w, g3, g4⟩ := stepM_does g2
        exact ⟨w, fun o' ho' => by cases ho'; exact ⟨.inr ⟨g1, g3⟩, g4⟩⟩
  obtain ⟨wf, hwf⟩ := Classical.axiomOfChoice hex
  have hrow : ∀ j, j < L.length → (∀ x, x < (Hf j).length → ∃ r r', (Hf j)[x]? = some r ∧ (Hf (j + 1))[x]? = some r' ∧ (x ∈ gw j ∨ SameShp r r') ∧ (x ∉ wf j → r' = r)) ∧ (Hf j).length ≤ (Hf (j + 1)).length ∧
      (∀ x, (Hf j).length ≤ x → x < (Hf (j + 1)).length → x = (Hf j).length ∧ x ∈ wf j) ∧ (∀ x, x ∈ wf j → x < (Hf (j + 1)).length) := by
    intro j hj
    have ho : L[j]? = some (L[j]'hj) := List.getElem?_eq_getElem _
    rcases (hwf j _ ho).1 with ⟨_, _, g3, g4⟩ | ⟨_, g2⟩
    · rw [g3, g4]
      exact ⟨fun x hx => ⟨_, _, List.getElem?_eq_getElem hx, List.getElem?_eq_getElem hx, .inr (.refl _), fun _ => rfl⟩, Nat.le_refl _, fun x h1 h2 => by omega, fun x hx => by cases hx⟩
    · exact g2.rows
  have hmono : ∀ j k, j ≤ k → k ≤ L.length → (Hf j).length ≤ (Hf k).length := fun j k hjk hk => lenDle hrow hjk hk
  have hordR : ∀ i j x, i < L.length → j < L.length → j ≠ i → x ∈ wf j → x ∉ R i → Reach L i j ∨ Reach L j i := by
    intro i j x hi hj hij hx hR
    have ho : L[j]? = some (L[j]'hj) := List.getElem?_eq_getElem _
    rcases confl_mem (by rw [hsize]; exact hj) hij ((hwf j _ ho).2 x hx).1 hR with hb | hb
    · exact .inl (masks_reach L [] (by simp) (fun j i hb => by simp at hb) i j hb)
    · exact .inr (masks_reach L [] (by simp) (fun j i hb => by simp at hb) j i hb)
  have hslots := slotAt_all (L := L) (S := S) (pf := pf) e1 hlen fun j o ho => (hone j o ho).1
  have hHDget : ∀ (D : Nat → Prop) x, x < (Hf L.length).length → (HD Hf wf L.length D)[x]? = rowD Hf wf D L.length x := by
    intro D x hx
    obtain ⟨r, g1⟩ := rowD_some hrow (D := D) L.length (Nat.le_refl _) hx
    simp only [HD, List.getElem?_map, List.getElem?_range hx, Option.map_some, g1, Option.getD_some]
  -- the walk
  intro r C a hH hro hRH hs _ Q hQ
  refine wpIn_region_any hmix ?_
  subst hH
  let D : Array Bool → Nat → Prop := fun listed j => listed.getD j false = true
  have hD0 : ∀ j, ¬ D (Array.replicate ops.size false) j := fun j hj => by simp only [D, getD_replicate_false] at hj; cases hj
  have hpre0 : ∃ rs, HD Hf wf L.length (D (Array.replicate ops.size false)) = C.H ++ rs := by
    refine ⟨(HD Hf wf L.length (D (Array.replicate ops.size false))).drop C.H.length, ?_⟩
    have hle := hmono 0 L.length (by omega) (by omega)
    rw [e2] at hle
    conv => lhs; rw [← List.take_append_drop C.H.length (HD Hf wf L.length (D (Array.replicate ops.size false)))]
    congr 1
    apply List.ext_getElem?
    intro x
    rw [List.getElem?_take]
    split
    · rename_i hx
      rw [hHDget _ x (by omega), rowD_cut 0 L.length (by omega) fun j h1 h2 h3 h4 => ?_]
      · show (Hf 0)[x]? = _
        rw [e2]
      · rcases h4 with h4 | h4
        · exact hD0 j h4
        · have := hmono 0 j (by omega) (by omega)
          rw [e2] at this
          omega
    · rename_i hx
      exact (List.getElem?_eq_none (by omega)).symm
  obtain ⟨rs, hrs⟩ := hpre0
  have hx0 := mores_ext hRH rs
  have hR0 := mores_rh hRH rs
  rw [← hrs] at hx0 hR0
  -- the invariant
  let Inv : Array Bool → Act → World → Prop := fun listed a1 w => ∃ C1 : Ctx, C1.w = w ∧ C1.H = HD Hf wf L.length (D listed) ∧ Ext C C1 ∧ RH P C1 ∧ a1.tmps.size = S.length ∧ a1.defers = a.defers ∧
    (∀ j, j < L.length → ¬ D listed j → ∀ x, (Hf j).length ≤ x → x < (Hf (j + 1)).length → C1.ρ x = none) ∧
    (∀ t p v, slotAt L S pf (D listed) L.length t = some p → a1.tmps[t]? = some v → RV P C1 p v)
  have final : ∀ listed a1 w, (∀ j, j < L.length → D listed j) → Inv listed a1 w → Q .normal a1 w := by
    rintro listed a1 w hd ⟨C1, rfl, h1, h2, h3, h4, h5, _, h7⟩
    refine hQ a1 C1 (.of_eq h5) ?_ h2 h3 ⟨by rw [h4, ← e3, hlen _ (Nat.le_refl _)], fun t p v g1 g2 => h7 t p v ?_ g2⟩
    · rw [h1, ← e4]
      apply List.ext_getElem?
      intro x
      rcases Nat.lt_or_ge x (Hf L.length).length with hx | hx
      · rw [hHDget _ x hx, rowD_congr (D' := fun _ => True) L.length fun j hj _ => ⟨fun _ => .inl trivial, fun _ => .inl (hd j hj)⟩, rowD_all hrow L.length (Nat.le_refl _)]
      · rw [List.getElem?_eq_none (by rw [HD_length]; exact hx), List.getElem?_eq_none hx]
    · rw [slotAt_congr (D' := fun _ => True) _ fun j hj _ => ⟨fun _ => trivial, fun _ => hd j hj⟩, hslots _ (Nat.le_refl _), e3]
      exact g1
  have hready : ∀ listed, HeadInv .any ops ops.size listed → Region.ready .any ops listed = [] → ∀ j, j < L.length → D listed j := by
    intro listed hinv hnil j
    induction j using Nat.strongRecOn with
    | _ j ih =>
      intro hj
      by_cases hDj : D listed j
      · exact hDj
      · exfalso
        have ho : L[j]? = some (L[j]'hj) := List.getElem?_eq_getElem _
        have hlj : j < listed.size := by rw [hinv.size, hsize]; exact hj
        have : j ∈ Region.ready .any ops listed := mem_ready.2 ⟨getD_in hlj (by simpa [D] using hDj), L[j]'hj, by rw [hget]; exact ho, fun e he hb => by
          have hlt := (hchk j _ ho).1 e he hb
          exact ih e.on hlt (by omega)⟩
        rw [hnil] at this
        cases this
  have main : ∀ fuel listed a1 w, HeadInv .any ops ops.size listed → (List.range L.length).countP (fun j => !listed.getD j false) ≤ fuel → Inv listed a1 w → wpAnyIn (Fr r) 0 P .any ops Q fuel listed a1 w := by
    intro fuel
    induction fuel with
    | zero =>
      intro listed a1 w hinv hc hI
      have hd : ∀ j, j < L.length → D listed j := by
        intro j hj
        by_cases hDj : D listed j
        · exact hDj
        · exfalso
          have : 0 < (List.range L.length).countP (fun j => !listed.getD j false) := List.countP_pos_iff.2 ⟨j, List.mem_range.2 hj, by simpa [D] using hDj⟩
          omega
      refine ⟨?_, final listed a1 w hd hI⟩
      cases hr : Region.ready .any ops listed with
      | nil => rfl
      | cons x xs =>
        exfalso
        have hx : x ∈ Region.ready .any ops listed := by rw [hr]; simp
        obtain ⟨h1, o, ho, _⟩ := mem_ready.1 hx
        have hxl : x < L.length := by rw [hget] at ho; exact (List.getElem?_eq_some_iff.1 ho).1
        have h9 : listed.getD x false = true := hd x hxl
        rw [getD_both h1] at h9
        cases h9
    | succ fuel ih =>
      intro listed a1 w hinv hc hI
      refine ⟨fun hnil => final listed a1 w (hready listed hinv hnil) hI, fun i hi => ?_⟩
      obtain ⟨h1, o, ho, hedges⟩ := mem_ready.1 hi
      have hoL : L[i]? = some o := by rw [← hget]; exact ho
      have hiL : i < L.length := (List.getElem?_eq_some_iff.1 hoL).1
      have hnD : ¬ D listed i := by show ¬ listed.getD i false = true; rw [getD_both h1]; simp
      have hil : i < listed.size := by rw [hinv.size, hsize]; exact hiL
      have hclosed : ∀ j o e, L[j]? = some o → D listed j → e ∈ o.after → Region.binds .any e = true → D listed e.on := fun j o e hj hDj he hb => hinv.closed j o (by rw [hget]; exact hj) hDj e he hb
      have hpreds : ∀ j, Reach L i j → D listed j := fun j hr => hr.ready hclosed fun o' e ho' he hb => by
        have : o' = o := Option.some.inj (ho'.symm.trans hoL)
        subst this
        exact hedges e he hb
      have hsuccs : ∀ j, Reach L j i → ¬ D listed j := fun j hr hDj => hnD (hr.closed hclosed hDj)
      have hinv' := hinv.set hi (by rw [hsize]; exact hiL)
      have hcount : (List.range L.length).countP (fun j => !(listed.setIfInBounds i true).getD j false) ≤ fuel := by
        have := countP_set (p := fun j => !listed.getD j false) (q := fun j => !(listed.setIfInBounds i true).getD j false) (i := i) (List.nodup_range (n := L.length)) (List.mem_range.2 hiL)
          (by simp only [Bool.not_eq_true']; exact getD_both h1) (by simp [hil]) (fun j hj => by simp only [getD_set_ne false (fun e => hj e.symm)])
        omega
      have hD' : ∀ j, D (listed.setIfInBounds i true) j ↔ D listed j ∨ j = i := by
        intro j
        by_cases hji : j = i
        · subst hji
          simp [D, hil]
        · simp only [D, getD_set_ne false (fun e => hji e.symm), hji, or_false]
      obtain ⟨C1, rfl, c1, c2, c3, c4, c5, c6, c7⟩ := hI
      have hDi : ∀ j, D (listed.setIfInBounds i true) j ↔ D listed j ∨ j = i := hD'
      -- the rows
      have hN : ∀ j, j < L.length → (Hf j).length ≤ (Hf L.length).length := fun j hj => hmono j _ (by omega) (by omega)
      have hagree : ∀ x, x < (Hf i).length → x ∉ R i → (HD Hf wf L.length (D listed))[x]? = (Hf i)[x]? := by
        intro x hx hxR
        rw [hHDget _ x (Nat.lt_of_lt_of_le hx (hN i hiL)), rowD_cut i L.length (by omega) fun j h1 h2 h3 h4 => ?_, rowD_congr (D' := fun _ => True) i fun j hj hxj => ⟨fun _ => .inl trivial, fun _ => .inl ?_⟩, rowD_all hrow i (by omega)]
        · rcases hordR i j x hiL (by omega) (by omega) hxj hxR with hr | hr
          · exact hpreds j hr
          · have := hdown _ _ hr; omega
        · rcases h4 with h4 | h4
          · by_cases hji : j = i
            · subst hji; exact hnD h4
            · rcases hordR i j x hiL h2 hji h3 hxR with hr | hr
              · have := hdown _ _ hr; omega
              · exact hsuccs j hr h4
          · have := hmono i j h1 (by omega); omega
      have hgrown : ∀ g x, g < L.length → g ≠ i → x ∈ gw g → x ∉ K i → Reach L i g ∨ Reach L g i := by
        intro g x hg hgi hx hxK
        rcases confl_mem (W := G) (by rw [hsize]; exact hg) hgi hx hxK with hb | hb
        · exact .inl (masks_reach L [] (by simp) (fun j i hb => by simp at hb) i g hb)
        · exact .inr (masks_reach L [] (by simp) (fun j i hb => by simp at hb) g i hb)
      have hthere : ∀ x, x < (Hf i).length → ∃ q q', (HD Hf wf L.length (D listed))[x]? = some q ∧ (Hf i)[x]? = some q' := by
        intro x hx
        have hxN := Nat.lt_of_lt_of_le hx (hN i hiL)
        obtain ⟨q, g1⟩ := rowD_some hrow (D := D listed) L.length (Nat.le_refl _) hxN
        exact ⟨q, _, by rw [hHDget _ x hxN]; exact g1, List.getElem?_eq_getElem hx⟩
      have hshape : ∀ x, x < (Hf i).length → x ∈ R i → x ∉ K i → ∃ q q', (HD Hf wf L.length (D listed))[x]? = some q ∧ (Hf i)[x]? = some q' ∧ SameShp q q' := by
        intro x hx hxR hxK
        have hxN := Nat.lt_of_lt_of_le hx (hN i hiL)
        obtain ⟨q, g1⟩ := rowD_some hrow (D := D listed) L.length (Nat.le_refl _) hxN
        have hiw : x ∉ wf i := fun hw => ((hwf i o hoL).2 x hw).2 hxR
        have ord : ∀ g, g < L.length → x ∈ gw g → x ∈ wf g → (g < i ∧ D listed g) ∨ (i < g ∧ ¬ D listed g) := by
          intro g hg h1 h2
          have hgi : g ≠ i := fun e => hiw (e ▸ h2)
          rcases hgrown g x hg hgi h1 hxK with hr | hr
          · exact .inl ⟨hdown _ _ hr, hpreds g hr⟩
          · exact .inr ⟨hdown _ _ hr, hsuccs g hr⟩
        obtain ⟨q', g2, g3⟩ := rowD_same hrow L.length (Nat.le_refl _) (D listed) (fun j => j < i) (fun g hg h1 h2 => by
            rcases ord g hg h1 h2 with ⟨a, b⟩ | ⟨a, b⟩
            · exact ⟨fun _ => a, fun _ => b⟩
            · exact ⟨fun h => absurd h b, fun h => by omega⟩)
          (fun j hj hjw hDj g hgj h1 h2 => by
            rcases ord g (by omega) h1 h2 with ⟨_, b⟩ | ⟨a, b⟩
            · exact b
            · -- g lies behind i, before j, and lets x grow
              exfalso
              have hxRg : x ∉ R g := ((hwf g _ (List.getElem?_eq_getElem (by omega))).2 x h2).2
              rcases hordR g j x (by omega) hj (by omega) hjw hxRg with hr | hr
              · have := hdown _ _ hr; omega
              · exact b (hr.closed hclosed hDj))
          (fun j hj _ hDj g hgj h1 h2 => by have : j < i := hDj; show g < i; omega) q g1
        refine ⟨q, q', by rw [hHDget _ x hxN]; exact g1, ?_, g3⟩
        rw [← g2, rowD_cut i L.length (by omega) fun j h1 h2 h3 h4 => ?_, rowD_congr (D' := fun _ => True) i fun j hj _ => ⟨fun _ => .inl trivial, fun _ => .inl hj⟩, rowD_all hrow i (by omega)]
        rcases h4 with h4 | h4
        · omega
        · have := hmono i j h1 (by omega); omega
      have hag : ∀ x, x < (poison (R i) (Hf i)).length → x ∉ K i → (poison (R i) (HD Hf wf L.length (D listed)))[x]? = (poison (R i) (Hf i))[x]? := by
        intro x hx hxK
        rw [poison_length] at hx
        rw [poison_get, poison_get]
        by_cases hxR : x ∈ R i
        · obtain ⟨q, q', g1, g2, g3⟩ := hshape x hx hxR hxK
          rw [g1, g2]
          simp only [Option.map_some]
          rw [if_pos (by simpa using hxR), if_pos (by simpa using hxR), g3.poison]
        · rw [hagree x hx hxR]
      have hafter : ∀ x, x ∈ wf i → (HD Hf wf L.length (D (listed.setIfInBounds i true)))[x]? = (Hf (i + 1))[x]? := by
        intro x hx
        have hxl := (hrow i hiL).2.2.2 x hx
        rw [hHDget _ x (Nat.lt_of_lt_of_le hxl (hmono (i + 1) _ (by omega) (by omega))), rowD_cut (i + 1) L.length (by omega) fun j h1 h2 h3 h4 => ?_]
        · simp only [rowD]
          rw [if_pos ⟨hx, .inl ((hDi i).2 (.inr rfl))⟩]
        · rcases h4 with h4 | h4
          · rcases (hDi j).1 h4 with h4 | h4
            · rcases hordR i j x hiL h2 (by omega) h3 ((hwf i o hoL).2 x hx).2 with hr | hr
              · have := hdown _ _ hr; omega
              · exact hsuccs j hr h4
            · omega
          · have := hmono (i + 1) j h1 (by omega); omega
      have hother : ∀ x, x ∉ wf i → (HD Hf wf L.length (D (listed.setIfInBounds i true)))[x]? = (HD Hf wf L.length (D listed))[x]? := by
        intro x hx
        rcases Nat.lt_or_ge x (Hf L.length).length with hl | hl
        · rw [hHDget _ x hl, hHDget _ x hl]
          refine rowD_congr L.length fun j hj hxj => ?_
          rw [hDi j]
          refine ⟨fun hh => hh.elim (fun hh => hh.elim .inl fun e => ?_) .inr, fun hh => hh.elim (fun hh => .inl (.inl hh)) .inr⟩
          subst e; exact absurd hxj hx
        · rw [List.getElem?_eq_none (by rw [HD_length]; exact hl), List.getElem?_eq_none (by rw [HD_length]; exact hl)]
      have hnew : ∀ x, (Hf i).length ≤ x → x < (Hf (i + 1)).length → (HD Hf wf L.length (D listed))[x]? = (Hf (i + 1))[x]? := by
        intro x hx1 hx2
        have hxw := ((hrow i hiL).2.2.1 x hx1 hx2).2
        rw [hHDget _ x (Nat.lt_of_lt_of_le hx2 (hmono (i + 1) _ (by omega) (by omega))), rowD_cut (i + 1) L.length (by omega) fun j h1 h2 h3 h4 => ?_]
        · simp only [rowD]
          rw [if_pos ⟨hxw, .inr hx1⟩]
        · rcases h4 with h4 | h4
          · rcases hordR i j x hiL h2 (by omega) h3 ((hwf i o hoL).2 x hxw).2 with hr | hr
            · have := hdown _ _ hr; omega
            · exact hsuccs j hr h4
          · have := hmono (i + 1) j h1 (by omega); omega
      have hstay : (∀ x, x ∈ wf i → (Hf i).length ≤ x) → HD Hf wf L.length (D (listed.setIfInBounds i true)) = HD Hf wf L.length (D listed) := by
        intro hw
        apply List.ext_getElem?
        intro x
        by_cases hx : x ∈ wf i
        · rw [hafter x hx, hnew x (hw x hx) ((hrow i hiL).2.2.2 x hx)]
        · exact hother x hx
      -- the slots that it looks at
      have hread : ∀ t ∈ o.looksAt ops, ∀ p v, (Sf i)[t]? = some p → a1.tmps[t]? = some v → RV P C1 p v := by
        intro t ht p v g1 g2
        refine c7 t p v ?_ g2
        rw [slotAt_cut i L.length (by omega) fun j hij hjn hd => ?_, slotAt_congr (D' := fun _ => True) i fun j hj hd => ⟨fun _ => trivial, fun _ => ?_⟩, hslots i (by omega)]
        · exact g1
        · -- a writer before
          obtain ⟨q, hq, hqd⟩ := Option.bind_eq_some_iff.1 hd
          rcases (hchk i o hoL).2 j q hq hj with hap | hr
          · exact absurd ht ((Oper.apart_spec hap).1 t hqd)
          · exact hpreds j hr
        · -- a writer behind
          by_cases hji : j = i
          · subst hji; exact hnD
          · obtain ⟨q, hq, hqd⟩ := Option.bind_eq_some_iff.1 hd
            rcases (hchk j q hq).2 i o hoL (by omega) with hap | hr
            · exact absurd ht ((Oper.apart_spec hap).2.2 t hqd)
            · exact hsuccs j hr
      have hopnd : ∀ x ∈ o.op.operands, RV P C1 (ev (Sf i) x) (a1.eval x) := by
        intro x hx
        cases x with
        | tmp t =>
          have ht : t ∈ o.looksAt ops := by
            simp only [Oper.looksAt]
            exact List.mem_append_left _ (List.mem_filterMap.2 ⟨.tmp t, by simpa using hx, rfl⟩)
          show RV P C1 ((Sf i).getD t (.val undef)) (a1.tmps.getD t undef)
          have hl := hlen i (by omega)
          by_cases htl : t < S.length
          · have g1 : (Sf i)[t]? = some ((Sf i)[t]'(by rw [hl]; exact htl)) := List.getElem?_eq_getElem _
            have g2 : a1.tmps[t]? = some (a1.tmps[t]'(by rw [c4]; exact htl)) := Array.getElem?_eq_getElem _
            have := hread t ht _ _ g1 g2
            simpa [List.getD, Array.getD, htl, hl, c4] using this
          · have g1 : (Sf i).getD t (.val undef) = .val undef := by simp [List.getD, List.getElem?_eq_none (show (Sf i).length ≤ t by rw [hl]; exact Nat.le_of_not_lt htl)]
            have g2 : a1.tmps.getD t undef = undef := by simp [Array.getD, c4, htl]
            rw [g1, g2]; exact .val
        | const v => exact .val
        | global g => exact .any
        | func f => exact .fn rfl rfl (fun j c v h => by simp at h) (fun j c v h => by simp at h)
      -- what it leaves
      have hwrite : ∀ (C2 : Ctx) (v : Value), C2.H = HD Hf wf L.length (D (listed.setIfInBounds i true)) → Ext C1 C2 → RH P C2 → RV P C2 (pf i) v → (∀ x, ¬ (x ∈ wf i ∧ x < (Hf i).length) → C1.ρ x = none → (x < (Hf i).length ∨ (Hf (i + 1)).length ≤ x) → C2.ρ x = none) →
          wpAnyIn (Fr r) 0 P .any ops Q fuel (listed.setIfInBounds i true) (a1.put o.dst v) C2.w := by
        intro C2 v k1 k2 k3 k4 k5
        refine ih _ _ _ hinv' hcount ⟨C2, rfl, k1, c2.trans k2, k3, ?_, ?_, fun j hj hDj x hx1 hx2 => ?_, fun t p u g1 g2 => ?_⟩
        · cases o.dst <;> simp [Act.put, c4]
        · cases o.dst <;> exact c5
        · have hji : j ≠ i := fun e => hDj ((hD' j).2 (.inr e))
          have hDj' : ¬ D listed j := fun hh => hDj ((hD' j).2 (.inl hh))
          refine k5 x ?_ (c6 j hj hDj' x hx1 hx2) ?_
          · rintro ⟨hxw, hxl⟩
            rcases hordR i j x hiL hj hji ((hrow j hj).2.2.1 x hx1 hx2).2 ((hwf i o hoL).2 x hxw).2 with hr | hr
            · exact hDj' (hpreds j hr)
            · have := hdown _ _ hr
              have := hmono i j (by omega) (by omega)
              omega
          rcases Nat.lt_or_gt_of_ne hji with h2 | h2
          · left
            have := hmono (j + 1) i (by omega) (by omega)
            omega
          · right
            have := hmono (i + 1) j (by omega) (by omega)
            omega
        · by_cases hdt : o.dst = some t
          · -- its own slot
            have htl : t < S.length := by
              have h9 := (Array.getElem?_eq_some_iff.1 g2).1
              rw [hdt] at h9
              simp only [Act.put, Array.size_setIfInBounds, c4] at h9
              exact h9
            have hself : slotAt L S pf (D (listed.setIfInBounds i true)) L.length t = some (pf i) := by
              rw [slotAt_cut (i + 1) L.length (by omega) fun j hij hjn hd => ?_]
              · simp only [slotAt]
                rw [if_pos ⟨(hD' i).2 (.inr rfl), by simp [hoL, hdt], htl⟩]
              · obtain ⟨q, hq, hqd⟩ := Option.bind_eq_some_iff.1 hd
                intro hDj
                rcases (hD' j).1 hDj with hDj | hji
                · rcases (hchk j q hq).2 i o hoL (by omega) with hap | hr
                  · exact (Oper.apart_spec hap).2.1 t hdt hqd
                  · exact hsuccs j hr hDj
                · omega
            rw [hself] at g1
            cases g1
            rw [hdt] at g2
            simp only [Act.put] at g2
            rw [Array.getElem?_setIfInBounds, if_pos rfl] at g2
            split at g2
            · cases g2; exact k4
            · cases g2
          · -- another's
            have hsame : slotAt L S pf (D (listed.setIfInBounds i true)) L.length t = slotAt L S pf (D listed) L.length t := by
              refine slotAt_congr _ fun j hj hd => ?_
              rw [hD' j]
              refine ⟨fun hh => hh.resolve_right fun e => ?_, fun hh => .inl hh⟩
              subst e
              rw [hoL] at hd
              exact hdt hd
            rw [hsame] at g1
            have g3 : a1.tmps[t]? = some u := by
              cases hod : o.dst with
              | none => rw [hod] at g2; exact g2
              | some d =>
                rw [hod] at g2 hdt
                simp only [Act.put] at g2
                rw [Array.getElem?_setIfInBounds, if_neg (fun e => hdt (by rw [e]))] at g2
                exact g2
            exact (c7 t p u g1 g3).mono k2
      -- an operation that does not write
      have hquiet : ∀ H1, stepX P E ex (K i) (Sf i) (poison (R i) (Hf i)) o = some (pf i, H1) → (Hf (i + 1)).length = H1.length → (∀ x, x ∈ wf i → (Hf i).length ≤ x) → (∀ rr, H1 = poison (R i) (Hf i) ++ [rr] → (poison (R i) (HD Hf wf L.length (D listed)))[(Hf i).length]? = some rr) →
          o.wpIn (Fr r) 0 P a1 C1.w (fun a2 w2 => wpAnyIn (Fr r) 0 P .any ops Q fuel (listed.setIfInBounds i true) a2 w2) Q := by
        intro H1 hst hl1 hw hH1
        have hH0 : (C1.poi (R i)).H = poison (R i) (HD Hf wf L.length (D listed)) := by simp only [Ctx.poi]; rw [c1]
        have hlp := poison_length (R i) (Hf i)
        have hunb : ∀ x, (Hf i).length ≤ x → x < (Hf (i + 1)).length → C1.ρ x = none := fun x h1 h2 => c6 i hiL hnD x h1 h2
        refine stepX_sound hE hX (C := C1.poi (R i)) (poi_rh c3 (R i)) ?_ (by rw [hH0, poison_length, HD_length, ← hl1]; exact hmono (i + 1) _ (by omega) (by omega)) (by rw [hH0]; exact hag) (by rw [hH0, hlp]; exact hH1) (fun x h1 h2 => hunb x (by rw [hlp] at h1; exact h1) (by rw [hl1]; exact h2)) (fun x hx => (hopnd x hx).shp (poi_shp C1 (R i))) hst fun v C' k1 k2 k3 k4 k5 k6 => ?_
        · rw [hlp]
          show C1.ro ≤ _
          rw [c2.ro]
          have h10 := hRH.ro
          have h11 := hmono 0 i (by omega) (by omega)
          rw [e2] at h11
          omega
        · have hRi : ∀ x, (Hf i).length ≤ x → x < (Hf (i + 1)).length → x ∉ R i := fun x h1 h2 => ((hwf i o hoL).2 x ((hrow i hiL).2.2.1 x h1 h2).2).2
          obtain ⟨q1, q2, q3⟩ := unpoi (h := (Hf i).length) (h1 := (Hf (i + 1)).length) c3 k1 k2 k3 (fun x hx => k5 x (by rw [hlp, ← hl1]; exact hx)) hunb hRi k6
          refine hwrite { C' with H := C1.H } v (by show C1.H = _; rw [c1, hstay hw]) q1 q2 (k4.shp q3) fun x _ h1 h2 => ?_
          show C'.ρ x = none
          rw [k5 x (by rw [hlp, ← hl1]; exact h2)]
          exact h1
      unfold wpOpIn
      simp only [ho]
      rcases (hwf i o hoL).1 with ⟨hg, hp, hHe, hwe⟩ | ⟨hg, hdo⟩
      · have hw := guard_wanted (by rw [c4, hlen i (by omega)]) hread hg
        rw [hw, if_neg (by simp)]
        exact ⟨fun _ _ => trivial, hwrite C1 undef (by rw [c1, hstay fun x hx => by rw [hwe] at hx; cases hx]) (.refl C1) c3 (by rw [hp]; exact .val) fun x _ h1 _ => h1⟩
      · have hw := guard_wanted (by rw [c4, hlen i (by omega)]) hread hg
        rw [hw, if_pos rfl]
        have hC1len : C1.H.length = (Hf L.length).length := by rw [c1, HD_length]
        rcases hdo with ⟨T, ad, x, ii, n, k, j, hop, had, hst, hp, hwe⟩ | ⟨hst, hHe, hwe⟩ | ⟨rr, hst, hHe, hwe⟩ | ⟨f, args, H2, hwc, hargs, hrol, hokm, hcall, hpl, hkm, hsh, hHe⟩ | ⟨c, ii, x, y, hg, hsf, hap, hiG, hwe⟩
        · -- a store
          obtain ⟨r1, r2, g1, g2, g3, g4⟩ := storeQ_rows hst
          have hii : ii < (Hf i).length := rowAt_lt g1
          have hiw : ii ∈ wf i := by rw [hwe]; simp
          have hrow1 : rowAt C1.H ii = some r1 := by
            have := hagree ii hii ((hwf i o hoL).2 ii hiw).2
            unfold rowAt at g1 ⊢
            rw [c1, this]; exact g1
          have hq := g4 C1.H hrow1
          have hax : ad ∈ o.op.operands := by rw [hop]; simp [Op.operands]
          have hxx : x ∈ o.op.operands := by rw [hop]; simp [Op.operands]
          have hA := hopnd ad hax
          rw [had] at hA
          obtain ⟨C', q1, q2, q3⟩ := storeQ_sound c3 hA (hopnd x hxx) (by rw [c2.ro, hro]; exact hq)
          refine ⟨fun _ _ => trivial, ?_⟩
          have hrun : (execOp a1.eval o).run P C1.w = .ok .skip C'.w := by
            unfold execOp
            simp only [hop, Sem.run_bind, q1, Result.andThen_ok, Sem.run_pure]
          rw [semAt_value hrun (fun _ h => by cases h)]
          refine hwrite C' undef ?_ q2.ext q2.rh (by rw [hp]; exact .val) fun y _ h1 _ => by rw [q3]; exact h1
          rw [q2.H, c1]
          apply List.ext_getElem?
          intro y
          rw [List.getElem?_set]
          by_cases hy : ii = y
          · subst hy
            rw [if_pos rfl, if_pos (by rw [HD_length]; exact Nat.lt_of_lt_of_le hii (hN i hiL)), hafter ii hiw, g2, List.getElem?_set, if_pos rfl, if_pos hii]
          · rw [if_neg hy, hother y (by rw [hwe]; simp; exact fun e => hy e.symm)]
        · exact hquiet _ hst (by rw [hHe, poison_length]) (fun x hx => by rw [hwe] at hx; cases hx) (fun rr he => by
            have := congrArg List.length he
            simp at this)
        · refine hquiet _ hst (by rw [hHe]; simp [poison_length]) (fun x hx => by rw [hwe] at hx; simp at hx; omega) fun rr' he => ?_
          have hl : (Hf (i + 1)).length = (Hf i).length + 1 := by rw [hHe]; simp
          have hin := hnew (Hf i).length (Nat.le_refl _) (by omega)
          have hRn : (Hf i).length ∉ R i := ((hwf i o hoL).2 _ (by rw [hwe]; simp)).2
          obtain rfl : rr = rr' := by
            have := List.append_cancel_left he
            simpa using this
          rw [poison_get, hin, hHe]
          simp only [List.getElem?_append_right (Nat.le_refl _), Nat.sub_self, List.getElem?_cons_zero, Option.map_some]
          rw [if_neg (by simpa using hRn)]
        · -- a call that writes
          have hKlt : ∀ x, x ∈ wf i → x < (Hf i).length := fun x hx => by
            obtain ⟨z, z', k1, _⟩ := shpsB_get hsh hx
            exact (List.getElem?_eq_some_iff.1 k1).1
          have hle : (Hf i).length ≤ C1.H.length := by rw [hC1len]; exact hN i hiL
          have hroC : C1.ro ≤ (Hf i).length := by rw [c2.ro, hro]; exact hrol
          have hmask : maskH (wf i) (C1.H.take (Hf i).length) = maskH (wf i) (Hf i) := by
            apply List.ext_getElem?
            intro x
            rw [maskH_get, maskH_get, List.getElem?_take]
            by_cases hx : x < (Hf i).length
            · rw [if_pos hx, c1]
              by_cases hxw : x ∈ wf i
              · rw [hagree x hx ((hwf i o hoL).2 x hxw).2]
              · obtain ⟨z, z', k1, k2⟩ := hthere x hx
                rw [k1, k2]
                simp only [Option.map_some]
                rw [if_neg (by simpa using hxw), if_neg (by simpa using hxw)]; rfl
            · rw [if_neg hx, List.getElem?_eq_none (by omega)]
          have hRm : RH P (C1.mask (wf i) (Hf i).length) := mask_rh c3 hle hroC (by rw [hmask]; exact hokm)
          have hHm : (C1.mask (wf i) (Hf i).length).H = maskH (wf i) (Hf i) := hmask
          unfold wcallQ at hwc
          split at hwc
          case h_2 => cases hwc
          rename_i c hop
          split at hwc
          case h_2 => cases hwc
          rename_i g hcal
          split at hwc
          case h_2 => cases hwc
          rename_i f' first cap hgf
          cases hwc
          have hgm : g ∈ o.op.operands := by rw [hop]; simp [Op.operands, Call.operands, hcal]
          have hgv := hopnd g hgm
          rw [hgf] at hgv
          generalize hG : a1.eval g = G at hgv
          cases hgv with
          | @fn _ _ _ F K q1 q2 q3 q4 =>
            have hcs := args_rv (a := a1) (S := Sf i) (xs := c.args) ⟨q1, q3⟩ ⟨q2, q4⟩ (fun x hx => hopnd x (by rw [hop]; simp [Op.operands, Call.operands, hcal, hx]))
            have hcm : Cs P (C1.mask (wf i) (Hf i).length) (first ++ c.args.toList.map (ev (Sf i)) ++ cap) (F ++ c.args.map a1.eval ++ K) :=
              ⟨hcs.1, fun j cc v k1 k2 => mask_arg hle (hcs.2 j cc v k1 k2) (List.all_eq_true.1 hargs cc (List.mem_of_getElem? k1))⟩
            obtain ⟨z1, z2⟩ := callI_sound (ro := ro) hE hX hRm (by show C1.ro = ro; rw [c2.ro]; exact hro) hcm (by rw [hHm]; exact hcall)
            refine wp_call hop hcal hG z1 z2 fun e w' ⟨V, C', he, hw', hct⟩ => ⟨V, he, ?_⟩
            subst hw'
            have hH2 := hct.H
            have hl2 : (Hf i).length ≤ C'.H.length := by have := hct.ext.len; rwa [mask_len hle] at this
            refine hwrite (C1.back C' (wf i) (Hf i).length) V ?_ (backm_ext c3 hle hct.ext) (backm_rh c3 hle hct.ext hct.rh (by rw [hH2]; exact hkm)) (hct.rv.plain hpl) fun x h0 h1 h2 => ?_
            · apply List.ext_getElem?
              intro x
              rw [back_get hle hl2]
              by_cases hxw : x ∈ wf i
              · have hxl := hKlt x hxw
                rw [if_pos ⟨hxl, by simpa using hxw⟩, hafter x hxw, hHe, backH_get, hH2]
                obtain ⟨z, z', k1, k2, _⟩ := shpsB_get hsh hxw
                rw [k1, k2]
                simp only [Option.map_some]
                rw [if_pos (by simpa using hxw), List.getD_eq_getElem?_getD, k2]; rfl
              · rw [if_neg (fun hh => hxw (by simpa using hh.2)), hother x hxw, c1]
            · show (if inK (wf i) (Hf i).length x then C'.ρ x else C1.ρ x) = none
              split
              · rename_i hk
                exact absurd ⟨by simpa using hk.2, hk.1⟩ h0
              · exact h1
        · -- an append
          obtain ⟨X, Y, n, len, hop, hcal, hargs, hX, rfl, rfl⟩ := growQ_sl hg
          obtain ⟨r1, r2, g1, g2, g3, g4⟩ := appendQ_rows hap
          have hii : ii < (Hf i).length := rowAt_lt g1
          have hiw : ii ∈ wf i := by rw [hwe]; simp
          have hrat : ∀ z, z < (Hf i).length → z ∉ R i → rowAt C1.H z = rowAt (Hf i) z := by
            intro z hz1 hz2
            have := hagree z hz1 hz2
            unfold rowAt
            rw [c1, this]
          have hsrc : srcOf C1.H (ev (Sf i) Y) = srcOf (Hf i) (ev (Sf i) Y) := by
            refine srcOf_same fun z n' k' l' he => ?_
            rw [he] at hsf g3
            simp only [srcFree, Bool.not_eq_true', List.contains_eq_mem, decide_eq_false_iff_not] at hsf
            refine hrat z ?_ hsf
            cases hz : rowAt (Hf i) z with
            | none => simp [srcOf, hz] at g3
            | some q => exact rowAt_lt hz
          have hq := g4 C1.H ((hrat ii hii ((hwf i o hoL).2 ii hiw).2).trans g1) hsrc
          have hca : c.args = #[X, Y] := by apply Array.ext'; simpa using hargs
          have hXm : X ∈ o.op.operands := by rw [hop]; simp [Op.operands, Call.operands, hca]
          have hYm : Y ∈ o.op.operands := by rw [hop]; simp [Op.operands, Call.operands, hca]
          have hA := hopnd X hXm
          rw [hX] at hA
          obtain ⟨v, C', q1, q2, q3, q4⟩ := appendQ_sound c3 hA (hopnd Y hYm) (by rw [c2.ro, hro]; exact hq) o.type
          refine wp_value (v := v) (w' := C'.w) ?_ (hwrite C' v ?_ q2.ext q2.rh q3 fun z h0 h1 _ => ?_)
          · unfold execOp
            simp only [hop, resolve, hcal, hca, Sem.run_bind, Sem.run_pure, Result.andThen_ok, invoke, builtin, List.map_toArray, List.map_cons, List.map_nil, q1]
          · rw [q2.H, c1]
            apply List.ext_getElem?
            intro z
            rw [List.getElem?_set]
            by_cases hz : ii = z
            · subst hz
              rw [if_pos rfl, if_pos (by rw [HD_length]; exact Nat.lt_of_lt_of_le hii (hN i hiL)), hafter ii hiw, g2, List.getElem?_set, if_pos rfl, if_pos hii]
            · rw [if_neg hz, hother z (by rw [hwe]; simp; exact fun e => hz e.symm)]
          · by_cases hz : z = ii
            · subst hz
              exact absurd ⟨hiw, hii⟩ h0
            · rw [q4 ii n 0 len rfl z hz]; exact h1
  refine main ops.size _ _ _ ⟨by simp, fun j oj _ hl => (by rw [getD_replicate_false] at hl; cases hl), fun t h1 h2 => absurd h2 (by omega)⟩ ?_ ?_
  · rw [hsize]
    exact Nat.le_trans List.countP_le_length (by simp)
  · refine ⟨({ C with H := HD Hf wf L.length (D (Array.replicate ops.size false)) } : Ctx).dr, rfl, rfl, hx0.trans (dr_ext _), dr_rh hR0, hs.1, rfl, fun j hj _ x hx1 _ => ?_, fun t p v g1 g2 => ?_⟩
    · show C.ρ x = none
      refine hRH.ρ_none ?_
      have := hmono 0 j (by omega) (by omega)
      rw [e2] at this
      omega
    · have : slotAt L S pf (D (Array.replicate ops.size false)) L.length t = S[t]? := by
        rw [slotAt_cut 0 L.length (by omega) fun j _ _ _ hDj => hD0 j hDj]
        rfl
      rw [this] at g1
      exact ((hs.2 t p v g1 g2).mono hx0).mono (dr_ext _)

end Go.Hx
