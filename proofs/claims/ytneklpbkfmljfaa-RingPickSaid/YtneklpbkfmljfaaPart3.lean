/- Hx: a region that draws its order comes to what the order of the text comes to. -/
import Derived.Test.YtneklpbkfmljfaaPart2
namespace Go.Hx

/-- What one operation of the text's order does. -/
def OneE (P : Program) (E : Env) (ex : Ex) (ops : Array Oper) (S : List PV) (H : List Row) (o : Oper) (p : PV) (S' : List PV) (H' : List Row) : Prop :=
  S' = putS S o.dst p ∧ ((guardQ ops S o = some (false, S) ∧ p = .val undef ∧ H' = H) ∨ (guardQ ops S o = some (true, S) ∧ stepE P E ex S H o = some (p, H')))

theorem guardQ_same {ops : Array Oper} {S S1 : List PV} {o : Oper} {b : Bool} (h : guardQ ops S o = some (b, S1)) : S1 = S := by
  unfold guardQ at h
  split at h
  · cases h; rfl
  · split at h
    · cases h; rfl
    · rename_i d hd
      split at h
      · cases h; rfl
      · rename_i t hS
        obtain ⟨hlt, hv⟩ := List.getElem?_eq_some_iff.1 hS
        cases t <;> (simp only at h; cases h; rw [← hv]; exact List.set_getElem_self hlt)
      · cases h; rfl
      · cases h

theorem trace {P : Program} {E : Env} {ex : Ex} {ops : Array Oper} : ∀ (l : List Oper) {S S' : List PV} {H H' : List Row}, opsQ (stepE P E ex) ops l S H = some (S', H') →
    ∃ (Sf : Nat → List PV) (Hf : Nat → List Row) (pf : Nat → PV), Sf 0 = S ∧ Hf 0 = H ∧ Sf l.length = S' ∧ Hf l.length = H' ∧ ∀ (j : Nat) o, l[j]? = some o → OneE P E ex ops (Sf j) (Hf j) o (pf j) (Sf (j + 1)) (Hf (j + 1))
  | [], S, S', H, H', h => by
    simp only [opsQ] at h
    cases h
    exact ⟨fun _ => S, fun _ => H, fun _ => .any, rfl, rfl, rfl, rfl, fun j o hj => by simp at hj⟩
  | o :: os, S, S', H, H', h => by
    simp only [opsQ] at h
    have glue : ∀ (p : PV) (H1 : List Row), OneE P E ex ops S H o p (putS S o.dst p) H1 → opsQ (stepE P E ex) ops os (putS S o.dst p) H1 = some (S', H') →
        ∃ (Sf : Nat → List PV) (Hf : Nat → List Row) (pf : Nat → PV), Sf 0 = S ∧ Hf 0 = H ∧ Sf (o :: os).length = S' ∧ Hf (o :: os).length = H' ∧ ∀ (j : Nat) o', (o :: os)[j]? = some o' → OneE P E ex ops (Sf j) (Hf j) o' (pf j) (Sf (j + 1)) (Hf (j + 1)) := by
      intro p H1 h1 h2
      obtain ⟨Sf, Hf, pf, a1, a2, a3, a4, a5⟩ := trace os h2
      refine ⟨fun j => match j with | 0 => S | j + 1 => Sf j, fun j => match j with | 0 => H | j + 1 => Hf j, fun j => match j with | 0 => p | j + 1 => pf j, rfl, rfl, a3, a4, fun j o' hj => ?_⟩
      match j with
      | 0 =>
        simp at hj
        subst hj
        show OneE P E ex ops S H o p (Sf 0) (Hf 0)
        rw [a1, a2]
        exact h1
      | j + 1 => exact a5 j o' (by simpa using hj)
    split at h
    · rename_i S1 hg
      have := guardQ_same hg
      subst this
      split at h
      · rename_i p H1 hs
        exact glue p H1 ⟨rfl, .inr ⟨hg, hs⟩⟩ h
      · cases h
    · rename_i S1 hg
      have := guardQ_same hg
      subst this
      exact glue (.val undef) H ⟨rfl, .inl ⟨hg, rfl, rfl⟩⟩ h
    · cases h

theorem stepE_rows {P : Program} {E : Env} {ex : Ex} {S : List PV} {H H' : List Row} {o : Oper} {p : PV} (h : stepE P E ex S H o = some (p, H')) : H' = H ∨ ∃ r, H' = H ++ [r] := by
  unfold stepE at h
  split at h
  · cases h; exact .inl rfl
  · split at h
    · cases h; exact .inr ⟨_, rfl⟩
    · split at h
      · split at h
        · split at h
          · obtain ⟨q, _, he⟩ := Option.map_eq_some_iff.1 h
            cases he
            exact .inl rfl
          · cases h
        · cases h
      · cases h

/-- i comes before j by the edges. -/
inductive Reach (L : List Oper) : Nat → Nat → Prop
  | one {j : Nat} {o : Oper} {e : Edge} (ho : L[j]? = some o) (he : e ∈ o.after) (hb : Region.binds .any e = true) : Reach L j e.on
  | more {j i : Nat} {o : Oper} {e : Edge} (ho : L[j]? = some o) (he : e ∈ o.after) (hb : Region.binds .any e = true) (h : Reach L e.on i) : Reach L j i

theorem foldl_mask {acc : List Nat} {i : Nat} : ∀ (l : List Edge) (s : Nat), (l.foldl (fun s e => if Region.binds .any e then s ||| 2 ^ e.on ||| acc.getD e.on 0 else s) s).testBit i = true →
    s.testBit i = true ∨ ∃ e, e ∈ l ∧ Region.binds .any e = true ∧ (e.on = i ∨ (acc.getD e.on 0).testBit i = true)
  | [], s, h => .inl h
  | e :: l, s, h => by
    simp only [List.foldl_cons] at h
    rcases foldl_mask l _ h with h1 | ⟨e', h1, h2, h3⟩
    · split at h1
      · rename_i hb
        rw [Nat.testBit_or, Nat.testBit_or] at h1
        simp only [Bool.or_eq_true] at h1
        rcases h1 with (h1 | h1) | h1
        · exact .inl h1
        · refine .inr ⟨e, by simp, hb, .inl ?_⟩
          rw [Nat.testBit_two_pow] at h1
          simpa using h1
        · exact .inr ⟨e, by simp, hb, .inr h1⟩
      · exact .inl h1
    · exact .inr ⟨e', by simp [h1], h2, h3⟩

theorem masks_reach {L : List Oper} : ∀ (os : List Oper) (acc : List Nat), os = L.drop acc.length → (∀ j i, (acc.getD j 0).testBit i = true → Reach L j i) → ∀ j i, ((masks os acc).getD j 0).testBit i = true → Reach L j i
  | [], acc, _, h, j, i, hj => h j i hj
  | o :: os, acc, hd, h, j, i, hj => by
    have ho : L[acc.length]? = some o := by
      have : (L.drop acc.length)[0]? = some o := by rw [← hd]; rfl
      rwa [List.getElem?_drop, Nat.add_zero] at this
    refine masks_reach os (acc ++ [maskOf acc o]) ?_ (fun j i hb => ?_) j i hj
    · rw [List.length_append, List.length_singleton, ← List.drop_drop, ← hd]; rfl
    · rw [List.getD_eq_getElem?_getD, List.getElem?_append] at hb
      split at hb
      · exact h j i (by rw [List.getD_eq_getElem?_getD]; exact hb)
      · rename_i hjl
        by_cases hje : j = acc.length
        · subst hje
          simp only [Nat.sub_self, List.getElem?_cons_zero, Option.getD_some] at hb
          rcases foldl_mask _ _ hb with h0 | ⟨e, h1, h2, h3⟩
          · simp at h0
          · rcases h3 with rfl | h3
            · exact .one ho (by simpa using h1) h2
            · exact .more ho (by simpa using h1) h2 (h _ _ h3)
        · rw [show j - acc.length = (j - acc.length - 1) + 1 by omega] at hb
          simp at hb

/-- What a set of operations that is closed under what comes before holds. -/
theorem Reach.closed {L : List Oper} {D : Nat → Prop} (hD : ∀ j o e, L[j]? = some o → D j → e ∈ o.after → Region.binds .any e = true → D e.on) {j i : Nat} (h : Reach L j i) : D j → D i := by
  induction h with
  | one ho he hb => intro hj; exact hD _ _ _ ho hj he hb
  | more ho he hb _ ih => intro hj; exact ih (hD _ _ _ ho hj he hb)
theorem Reach.ready {L : List Oper} {D : Nat → Prop} (hD : ∀ j o e, L[j]? = some o → D j → e ∈ o.after → Region.binds .any e = true → D e.on) {j i : Nat} (h : Reach L j i) (hr : ∀ o e, L[j]? = some o → e ∈ o.after → Region.binds .any e = true → D e.on) : D i := by
  cases h with
  | one ho he hb => exact hr _ _ ho he hb
  | more ho he hb h => exact h.closed hD (hr _ _ ho he hb)

/-- The slot t, once the operations D are carried out (of the first n). -/
noncomputable def slotAt (L : List Oper) (S : List PV) (pf : Nat → PV) (D : Nat → Prop) : Nat → Nat → Option PV
  | 0, t => S[t]?
  | j + 1, t => open Classical in if D j ∧ ((L[j]?).bind (·.dst)) = some t ∧ t < S.length then some (pf j) else slotAt L S pf D j t

theorem guard_wanted {P : Program} {C : Ctx} {ops : Array Oper} {S S1 : List PV} {o : Oper} {b : Bool} {a : Act} (hsz : a.tmps.size = S.length)
    (hs : ∀ t ∈ o.looksAt ops, ∀ p v, S[t]? = some p → a.tmps[t]? = some v → RV P C p v) (h : guardQ ops S o = some (b, S1)) : Region.wanted o (yielded ops a.tmps) = b := by
  unfold guardQ at h
  unfold Region.wanted
  split at h
  · rename_i hg; cases h; rw [hg]
  · rename_i j want hg
    rw [hg]
    simp only
    split at h
    · rename_i hd
      cases h
      simp [yielded, hd]
    · rename_i d hd
      have hy : yielded ops a.tmps j = match a.tmps[d]? with | some (.bool b) => some b | _ => none := by simp [yielded, hd]; rfl
      have hlook : d ∈ o.looksAt ops := by simp [Oper.looksAt, hg, hd]
      split at h
      · rename_i hS
        cases h
        have hlt : S.length ≤ d := by
          rcases Nat.lt_or_ge d S.length with h1 | h1
          · rw [List.getElem?_eq_getElem h1] at hS; cases hS
          · exact h1
        have : a.tmps[d]? = none := Array.getElem?_eq_none (by rw [hsz]; exact hlt)
        rw [hy, this]
        rfl
      · rename_i t hS
        have hlt : d < a.tmps.size := by rw [hsz]; exact (List.getElem?_eq_some_iff.1 hS).1
        have h2 : a.tmps[d]? = some a.tmps[d] := Array.getElem?_eq_getElem hlt
        have hv := hs d hlook _ _ hS h2
        generalize a.tmps[d] = V at h2 hv
        cases hv
        cases t with
        | true => simp only at h; cases h; rw [hy, h2]; cases b <;> rfl
        | false => simp only at h; cases h; rw [hy, h2]; cases want <;> rfl
      · rename_i v hnb hS
        cases h
        have hlt : d < a.tmps.size := by rw [hsz]; exact (List.getElem?_eq_some_iff.1 hS).1
        have h2 : a.tmps[d]? = some a.tmps[d] := Array.getElem?_eq_getElem hlt
        have hv := hs d hlook _ _ hS h2
        generalize a.tmps[d] = V at h2 hv
        cases hv
        rw [hy, h2]
        split
        · rename_i b' e; cases e; exact absurd rfl (hnb b')
        · rfl
      · cases h

/-- One operation that only makes new rows, over the rows at the end. -/
theorem stepE_sound {r : Option Nat} {P : Program} {E : Env} (hE : EnvOK P E) {ex : Ex} (hX : ExSound P E ex) {S : List PV} {H H1 : List Row} {o : Oper} {p : PV} {C : Ctx} {a : Act} (hR : RH P C) (hro : C.ro ≤ H.length) (hHC : C.H.take H.length = H) (hH1 : C.H.take H1.length = H1)
    (hfresh : ∀ x, H.length ≤ x → x < H1.length → C.ρ x = none) (hs : ∀ x ∈ o.op.operands, RV P C (ev S x) (a.eval x))
    (h : stepE P E ex S H o = some (p, H1)) {next : Act → World → Prop} {Q : Exit → Act → World → Prop}
    (hn : ∀ v C', C'.H = C.H → Ext C C' → RH P C' → RV P C' p v → (∀ x, (x < H.length ∨ H1.length ≤ x) → C'.ρ x = C.ρ x) → (∀ b, b < C.w.heap.size → C'.w.heap[b]? = C.w.heap[b]?) → next (a.put o.dst v) C'.w) : o.wpIn (Fr r) 0 P a C.w next Q := by
  have hle : H.length ≤ C.H.length := by
    have := congrArg List.length hHC
    simp only [List.length_take] at this
    omega
  have hSub : Sub H C := by
    intro i r hr
    have hi := rowAt_lt hr
    show rowAt C.H i = some r
    rw [← hHC] at hr
    unfold rowAt at hr ⊢
    rw [List.getElem?_take, if_pos hi] at hr
    exact hr
  unfold stepE at h
  split at h
  · rename_i q hq
    cases h
    obtain ⟨v, g1, g2⟩ := popQ_sound hR hSub hs hq
    exact wp_value g1 (hn v C rfl (.refl C) hR g2 (fun _ _ => rfl) fun _ _ => rfl)
  · split at h
    · rename_i q r hq
      cases h
      have hlen1 : (H ++ [r]).length = H.length + 1 := by simp
      have hlt : H.length < C.H.length := by
        have := congrArg List.length hH1
        simp only [List.length_take, hlen1] at this
        omega
      have hrow : C.row? H.length = some r := by
        show rowAt C.H H.length = some r
        have h2 : (C.H.take (H ++ [r]).length)[H.length]? = some r := by rw [hH1]; simp
        rw [List.getElem?_take, if_pos (by rw [hlen1]; omega)] at h2
        unfold rowAt
        rw [h2]
        simp [newQ_live hq]
      obtain ⟨v, C', g1, g2⟩ := newQ_sound (C := C) (H := H) (f := ev S) (g := a.eval) hR hlt (hfresh _ (Nat.le_refl _) (by rw [hlen1]; omega)) hro hrow hs hq
      exact wp_value g1 (hn v C' g2.H g2.ext g2.rh g2.rv (fun x hx => g2.ρ x (by rw [hlen1] at hx; omega)) g2.old)
    · split at h
      · rename_i c ho
        split at h
        · rename_i g hc
          split at h
          · rename_i k first cap hg
            obtain ⟨q, hq, he⟩ := Option.map_eq_some_iff.1 h
            cases he
            rw [ho] at hs
            have hgm : g ∈ (Op.call c).operands := by simp [Op.operands, Call.operands, hc]
            have hgv := hs g hgm
            rw [hg] at hgv
            generalize hG : a.eval g = G at hgv
            cases hgv with
            | fn q1 q2 q3 q4 =>
              have hargs := args_rv (a := a) (S := S) (xs := c.args) ⟨q1, q3⟩ ⟨q2, q4⟩ (fun x hx => hs x (by simp [Op.operands, Call.operands, hc, hx]))
              obtain ⟨e1, e2⟩ := callE_sound hE hX hR hHC hargs hq
              exact wp_call ho hc hG e1 e2 fun e w' ⟨V, he, hsame, hrv⟩ => ⟨V, he, hn V (C.at w') rfl hsame.ext (hsame.rh hR) hrv (fun _ _ => rfl) hsame.block⟩
          · cases h
        · cases h
      · cases h

theorem kill_get (K : List Nat) (H : List Row) (i : Nat) : (kill K H)[i]? = H[i]?.map fun r => if K.contains i then deadRow r else r := by
  simp only [kill, List.getElem?_map, List.getElem?_zipIdx, Nat.zero_add, Option.map_map]
  congr 1
  funext r
  simp only [Function.comp]
  cases K.contains i <;> rfl
theorem kill_sub {K : List Nat} {H : List Row} {C : Ctx} (hag : ∀ x, x < H.length → x ∉ K → C.H[x]? = H[x]?) : Sub (kill K H) C := by
  intro i r hr
  unfold rowAt at hr
  rw [kill_get] at hr
  show rowAt C.H i = some r
  cases hh : H[i]? with
  | none => rw [hh] at hr; cases hr
  | some q =>
    rw [hh] at hr
    simp only [Option.map_some] at hr
    cases hk : K.contains i with
    | true => rw [hk] at hr; cases hr
    | false =>
      rw [hk] at hr
      unfold rowAt
      rw [hag i (List.getElem?_eq_some_iff.1 hh).1 (by simpa using hk), hh]
      exact hr
theorem stepX_rows {P : Program} {E : Env} {ex : Ex} {K : List Nat} {S : List PV} {H H' : List Row} {o : Oper} {p : PV} (h : stepX P E ex K S H o = some (p, H')) : H' = H ∨ ∃ r, H' = H ++ [r] := by
  unfold stepX at h
  split at h
  · exact stepE_rows h
  · split at h
    · cases h; exact .inl rfl
    · obtain ⟨x, _, he⟩ := Option.map_eq_some_iff.1 h
      cases he
      exact .inr ⟨_, rfl⟩
theorem stepX_sound {r : Option Nat} {P : Program} {E : Env} (hE : EnvOK P E) {ex : Ex} (hX : ExSound P E ex) {K : List Nat} {S : List PV} {H H1 : List Row} {o : Oper} {p : PV} {C : Ctx} {a : Act} (hR : RH P C) (hro : C.ro ≤ H.length)
    (hle1 : H1.length ≤ C.H.length) (hag : ∀ x, x < H.length → x ∉ K → C.H[x]? = H[x]?) (hnew : ∀ r, H1 = H ++ [r] → C.H[H.length]? = some r)
    (hfresh : ∀ x, H.length ≤ x → x < H1.length → C.ρ x = none) (hs : ∀ x ∈ o.op.operands, RV P C (ev S x) (a.eval x))
    (h : stepX P E ex K S H o = some (p, H1)) {next : Act → World → Prop} {Q : Exit → Act → World → Prop}
    (hn : ∀ v C', C'.H = C.H → Ext C C' → RH P C' → RV P C' p v → (∀ x, (x < H.length ∨ H1.length ≤ x) → C'.ρ x = C.ρ x) → (∀ b, b < C.w.heap.size → C'.w.heap[b]? = C.w.heap[b]?) → next (a.put o.dst v) C'.w) : o.wpIn (Fr r) 0 P a C.w next Q := by
  have hrows := stepX_rows h
  unfold stepX at h
  split at h
  · have hle : H.length ≤ C.H.length := by
      rcases hrows with rfl | ⟨q, rfl⟩
      · exact hle1
      · simp at hle1; omega
    have hHC : C.H.take H.length = H := by
      apply List.ext_getElem?
      intro x
      rw [List.getElem?_take]
      split
      · rename_i hx; exact hag x hx (by simp)
      · rename_i hx; exact (List.getElem?_eq_none (by omega)).symm
    have hH1 : C.H.take H1.length = H1 := by
      rcases hrows with rfl | ⟨q, rfl⟩
      · exact hHC
      · apply List.ext_getElem?
        intro x
        rw [List.getElem?_take]
        simp only [List.length_append, List.length_singleton]
        split
        · rename_i hx
          by_cases hx2 : x < H.length
          · rw [List.getElem?_append_left hx2]; exact hag x hx2 (by simp)
          · obtain rfl : x = H.length := by omega
            rw [hnew q rfl]; simp
        · rename_i hx; exact (List.getElem?_eq_none (by simp; omega)).symm
    exact stepE_sound hE hX hR hro hHC hH1 hfresh hs h hn
  · split at h
    · rename_i q hq
      cases h
      obtain ⟨v, g1, g2⟩ := popQ_sound hR (kill_sub hag) hs hq
      exact wp_value g1 (hn v C rfl (.refl C) hR g2 (fun _ _ => rfl) fun _ _ => rfl)
    · obtain ⟨⟨q, rr⟩, hq, he⟩ := Option.map_eq_some_iff.1 h
      cases he
      have hlen1 : (H ++ [rr]).length = H.length + 1 := by simp
      have hlt : H.length < C.H.length := by rw [hlen1] at hle1; omega
      have hrow : C.row? H.length = some rr := by
        show rowAt C.H H.length = some rr
        unfold rowAt
        rw [hnew rr rfl]
        simp [newQ_live hq]
      obtain ⟨v, C', g1, g2⟩ := newQ_sound (C := C) (H := H) (f := ev S) (g := a.eval) hR hlt (hfresh _ (Nat.le_refl _) (by rw [hlen1]; omega)) hro hrow hs hq
      exact wp_value g1 (hn v C' g2.H g2.ext g2.rh g2.rv (fun x hx => g2.ρ x (by rw [hlen1] at hx; omega)) g2.old)

theorem mores_ext {P : Program} {C : Ctx} (hR : RH P C) (rs : List Row) : Ext C { C with H := C.H ++ rs } :=
  ⟨rfl, rfl, rfl, Nat.le_refl _, fun _ _ _ => rfl, fun _ c _ _ h => ⟨c, h, rfl⟩, by simp, fun x r' hx h => ⟨r', by
    have h1 : rowAt (C.H ++ rs) x = some r' := h
    show rowAt C.H x = some r'
    unfold rowAt at h1 ⊢
    rwa [List.getElem?_append_left hx] at h1, rfl, rfl, Nat.le_refl _, fun _ => ⟨rfl, fun _ h => h⟩⟩, fun _ h => .inl h, fun _ h => .inl h, rfl, rfl, fun x hx => ⟨List.getElem?_append_left (by have := hR.ro; omega), rfl⟩,
    fun x r' info h1 h2 h3 => ⟨⟨r', info.st, by rw [← h1]; exact List.getElem?_append_left (List.getElem?_eq_some_iff.1 h1).1, h2, h3⟩, fun _ h => h⟩, fun _ rec h => ⟨rec, h⟩⟩
theorem mores_rh {P : Program} {C : Ctx} (h : RH P C) (rs : List Row) : RH P { C with H := C.H ++ rs } := by
  have keep : ∀ i, i < C.H.length → rowAt (C.H ++ rs) i = rowAt C.H i := fun i hi => by unfold rowAt; rw [List.getElem?_append_left hi]
  refine ⟨h.inj, fun i b hi => ?_, fun i b r' h1 h2 => ?_, by have := h.ro; simp; omega, h.nfo, h.fol, fun i b r' info h1 h2 h3 h4 => ?_⟩
  · rcases h.dom i b hi with ⟨q, hq⟩ | ⟨q, info, h1, h2, h3⟩
    · exact .inl ⟨q, by show rowAt (C.H ++ rs) i = _; rw [keep i (h.ρ_lt hi)]; exact hq⟩
    · exact .inr ⟨q, info, by rw [← h1]; exact List.getElem?_append_left (h.ρ_lt hi), h2, h3⟩
  · have h3 : rowAt (C.H ++ rs) i = some r' := h2
    rw [keep i (h.ρ_lt h1)] at h3
    exact (h.blk i b r' h1 h3).mono (mores_ext h rs) rfl
  · have h2' : (C.H ++ rs)[i]? = some r' := h2
    rw [List.getElem?_append_left (h.ρ_lt h1)] at h2'
    exact (h.lps i b r' info h1 h2' h3 h4).mono (mores_ext h rs) rfl

theorem slotAt_all {L : List Oper} {S : List PV} {pf : Nat → PV} {Sf : Nat → List PV} (h0 : Sf 0 = S) (hlen : ∀ j, j ≤ L.length → (Sf j).length = S.length) (hstep : ∀ (j : Nat) o, L[j]? = some o → Sf (j + 1) = putS (Sf j) o.dst (pf j)) :
    ∀ j, j ≤ L.length → ∀ t, slotAt L S pf (fun _ => True) j t = (Sf j)[t]?
  | 0, _, t => by simp [slotAt, h0]
  | j + 1, hj, t => by
    have ho : L[j]? = some (L[j]'(by omega)) := List.getElem?_eq_getElem _
    have ih := slotAt_all h0 hlen hstep j (by omega) t
    have hl := hlen j (by omega)
    rw [hstep j _ ho]
    simp only [slotAt, ho, Option.bind_some, true_and]
    generalize (L[j]'(by omega)).dst = d
    cases d with
    | none => simp [putS, ih]
    | some d =>
      simp only [putS, Option.some.injEq]
      rw [List.getElem?_set]
      by_cases hd : d = t
      · subst hd
        simp only [true_and, if_true, hl]
        split
        · rfl
        · rename_i hh; rw [ih]; exact List.getElem?_eq_none (by omega)
      · simp [hd, ih]

theorem slotAt_congr {L : List Oper} {S : List PV} {pf : Nat → PV} {D D' : Nat → Prop} {t : Nat} : ∀ n, (∀ j, j < n → ((L[j]?).bind (·.dst)) = some t → (D j ↔ D' j)) → slotAt L S pf D n t = slotAt L S pf D' n t
  | 0, _ => rfl
  | n + 1, h => by
    have ih := slotAt_congr (L := L) (S := S) (pf := pf) n fun j hj hd => h j (by omega) hd
    simp only [slotAt]
    by_cases hd : ((L[n]?).bind (·.dst)) = some t
    · rw [ih]
      have := h n (by omega) hd
      by_cases hDn : D n
      · simp [hDn, this.1 hDn]
      · have hDn' : ¬ D' n := fun h' => hDn (this.2 h')
        simp [hDn, hDn']
    · simp [hd, ih]

theorem slotAt_cut {L : List Oper} {S : List PV} {pf : Nat → PV} {D : Nat → Prop} {t : Nat} (i : Nat) : ∀ n, i ≤ n → (∀ j, i ≤ j → j < n → ((L[j]?).bind (·.dst)) = some t → ¬ D j) → slotAt L S pf D n t = slotAt L S pf D i t
  | 0, hi, _ => by have : i = 0 := by omega
                   subst this; rfl
  | n + 1, hi, h => by
    by_cases he : i = n + 1
    · subst he; rfl
    · rw [← slotAt_cut i n (by omega) fun j h1 h2 hd => h j h1 (by omega) hd]
      simp only [slotAt]
      rw [if_neg]
      rintro ⟨h1, h2, _⟩
      exact h n (by omega) (by omega) h2 h1

theorem countP_set {p q : Nat → Bool} {i : Nat} : ∀ {l : List Nat}, l.Nodup → i ∈ l → p i = true → q i = false → (∀ j, j ≠ i → q j = p j) → l.countP q + 1 = l.countP p
  | [], _, h, _, _, _ => by cases h
  | x :: l, hn, h, hp, hq, hne => by
    obtain ⟨hx, hl⟩ := List.nodup_cons.1 hn
    simp only [List.countP_cons]
    by_cases hxi : x = i
    · subst hxi
      have e : l.countP q = l.countP p := List.countP_congr fun j hj => by rw [hne j fun e => hx (by rw [← e]; exact hj)]
      rw [e]
      simp [hp, hq]
    · have := countP_set hl ((List.mem_cons.1 h).resolve_left fun e => hxi e.symm) hp hq hne
      rw [hne x hxi]
      omega

theorem draw_sound {P : Program} {E : Env} (hE : EnvOK P E) {ex : Ex} (hX : ExSound P E ex) {ro id : Nat} {ops : Array Oper} {S S' : List PV} {H H' : List Row} (hok : drawOk P ops.toList = true)
    (h : opsQ (stepE P E ex) ops ops.toList S H = some (S', H')) : WpTo P (.region id ops true) ro S H .normal S' H' := by
  obtain ⟨Sf, Hf, pf, e1, e2, e3, e4, hone⟩ := trace ops.toList h
  generalize hL : ops.toList = L at *
  have hget : ∀ j, ops[j]? = L[j]? := fun j => by rw [← hL, Array.getElem?_toList]
  have hsize : ops.size = L.length := by rw [← hL]; simp
  simp only [drawOk, Bool.and_eq_true] at hok
  obtain ⟨⟨hmix, _⟩, hall⟩ := hok
  -- the edges
  have hchk : ∀ (j : Nat) o, L[j]? = some o → (∀ e, e ∈ o.after → Region.binds .any e = true → e.on < j) ∧ ∀ (i : Nat) q, L[i]? = some q → i < j → q.apart ops o = true ∨ Reach L j i := by
    intro j o ho
    have h1 := List.all_eq_true.1 hall (o, j) (by rw [List.mem_zipIdx_iff_getElem?]; simpa using ho)
    simp only [Bool.and_eq_true] at h1
    refine ⟨fun e he hb => ?_, fun i q hq hij => ?_⟩
    · have := Array.all_eq_true_iff_forall_mem.1 h1.1 e he
      simpa [hb] using this
    · have h2 := List.all_eq_true.1 h1.2 (q, i) (by rw [List.mem_zipIdx_iff_getElem?]; simpa using hq)
      simp only [Bool.or_eq_true, Bool.not_eq_true', decide_eq_false_iff_not] at h2
      rcases h2 with (h2 | h2) | h2
      · exact absurd hij h2
      · refine .inl ?_
        have : L.toArray = ops := by rw [← hL]
        rwa [this] at h2
      · exact .inr (masks_reach L [] (by simp) (fun j i hb => by simp at hb) j i h2)
  -- the trace
  have hlen : ∀ j, j ≤ L.length → (Sf j).length = S.length := by
    intro j
    induction j with
    | zero => intro _; rw [e1]
    | succ j ih =>
      intro hj
      have ho : L[j]? = some (L[j]'(by omega)) := List.getElem?_eq_getElem _
      rw [(hone j _ ho).1]
      have := ih (by omega)
      cases (L[j]'(by omega)).dst <;> simp [putS, this]
  have hrows1 : ∀ (j : Nat) o, L[j]? = some o → Hf (j + 1) = Hf j ∨ ∃ r, Hf (j + 1) = Hf j ++ [r] := by
    intro j o ho
    rcases (hone j o ho).2 with ⟨_, _, h2⟩ | ⟨_, h2⟩
    · exact .inl h2
    · exact stepE_rows h2
  have hpre : ∀ d j, j + d ≤ L.length → ∃ rs, Hf (j + d) = Hf j ++ rs := by
    intro d
    induction d with
    | zero => intro j _; exact ⟨[], by simp⟩
    | succ d ih =>
      intro j hj
      obtain ⟨rs, hr⟩ := ih j (by omega)
      have ho : L[j + d]? = some (L[j + d]'(by omega)) := List.getElem?_eq_getElem _
      rcases hrows1 (j + d) _ ho with h2 | ⟨r, h2⟩
      · exact ⟨rs, by rw [← Nat.add_assoc, h2, hr]⟩
      · exact ⟨rs ++ [r], by rw [← Nat.add_assoc, h2, hr, List.append_assoc]⟩
  have htake : ∀ j, j ≤ L.length → H'.take (Hf j).length = Hf j := by
    intro j hj
    obtain ⟨rs, hr⟩ := hpre (L.length - j) j (by omega)
    rw [show j + (L.length - j) = L.length by omega, e4] at hr
    rw [hr, List.take_left]
  have hmono : ∀ j k, j ≤ k → k ≤ L.length → (Hf j).length ≤ (Hf k).length := by
    intro j k hjk hk
    obtain ⟨rs, hr⟩ := hpre (k - j) j (by omega)
    rw [show j + (k - j) = k by omega] at hr
    rw [hr]; simp
  have hslots := slotAt_all (L := L) (S := S) (pf := pf) e1 hlen fun j o ho => (hone j o ho).1
  -- the walk
  intro r C a hH hro hR hs _ Q hQ
  refine wpIn_region_any hmix ?_
  subst hH
  obtain ⟨rs, hrs⟩ := hpre L.length 0 (by omega)
  rw [Nat.zero_add, e4, e2] at hrs
  have hx0 := mores_ext hR rs
  have hR0 := mores_rh hR rs
  rw [← hrs] at hx0 hR0
  have hxd : Ext { C with H := H' } ({ C with H := H' } : Ctx).dr := dr_ext _
  -- the invariant
  let D : Array Bool → Nat → Prop := fun listed j => listed.getD j false = true
  let Inv : Array Bool → Act → World → Prop := fun listed a1 w => ∃ C1 : Ctx, C1.w = w ∧ C1.H = H' ∧ Ext C C1 ∧ RH P C1 ∧ a1.tmps.size = S.length ∧ a1.defers = a.defers ∧
    (∀ j, j < L.length → ¬ D listed j → ∀ x, (Hf j).length ≤ x → x < (Hf (j + 1)).length → C1.ρ x = none) ∧
    (∀ t p v, slotAt L S pf (D listed) L.length t = some p → a1.tmps[t]? = some v → RV P C1 p v)
  have final : ∀ listed a1 w, (∀ j, j < L.length → D listed j) → Inv listed a1 w → Q .normal a1 w := by
    rintro listed a1 w hd ⟨C1, rfl, h1, h2, h3, h4, h5, _, h7⟩
    refine hQ a1 C1 (.of_eq h5) h1 h2 h3 ⟨by rw [h4, ← e3, hlen _ (Nat.le_refl _)], fun t p v g1 g2 => h7 t p v ?_ g2⟩
    rw [slotAt_congr (D' := fun _ => True) _ fun j hj _ => ⟨fun _ => trivial, fun _ => hd j hj⟩, hslots _ (Nat.le_refl _), e3]
    exact g1
  have hready : ∀ listed, HeadInv .any ops ops.size listed → Region.ready .any ops listed = [] → ∀ j, j < L.length → D listed j := by
    intro listed hinv hnil j
    induction j using Nat.strongRecOn with
    | _ j ih =>
      intro hj
      by_cases hDj : D listed j
      · exact hDj
      · exfalso
        have ho : L[j]? = some (L[j]'hj) := List.getElem?_eq_getElem _
        have hlj : j < listed.size := by rw [hinv.size, hsize]; exact hj
        have : j ∈ Region.ready .any ops listed := mem_ready.2 ⟨getD_in hlj (by simpa [D] using hDj), L[j]'hj, by rw [hget]; exact ho, fun e he hb => by
          have hlt := (hchk j _ ho).1 e he hb
          exact ih e.on hlt (by omega)⟩
        rw [hnil] at this
        cases this
  have main : ∀ fuel listed a1 w, HeadInv .any ops ops.size listed → (List.range L.length).countP (fun j => !listed.getD j false) ≤ fuel → Inv listed a1 w → wpAnyIn (Fr r) 0 P .any ops Q fuel listed a1 w := by
    intro fuel
    induction fuel with
    | zero =>
      intro listed a1 w hinv hc hI
      have hd : ∀ j, j < L.length → D listed j := by
        intro j hj
        by_cases hDj : D listed j
        · exact hDj
        · exfalso
          have : 0 < (List.range L.length).countP (fun j => !listed.getD j false) := List.countP_pos_iff.2 ⟨j, List.mem_range.2 hj, by simpa [D] using hDj⟩
          omega
      refine ⟨?_, final listed a1 w hd hI⟩
      cases hr : Region.ready .any ops listed with
      | nil => rfl
      | cons x xs =>
        exfalso
        have hx : x ∈ Region.ready .any ops listed := by rw [hr]; simp
        obtain ⟨h1, o, ho, _⟩ := mem_ready.1 hx
        have hxl : x < L.length := by rw [hget] at ho; exact (List.getElem?_eq_some_iff.1 ho).1
        have h9 : listed.getD x false = true := hd x hxl
        rw [getD_both h1] at h9
        cases h9
    | succ fuel ih =>
      intro listed a1 w hinv hc hI
      refine ⟨fun hnil => final listed a1 w (hready listed hinv hnil) hI, fun i hi => ?_⟩
      obtain ⟨h1, o, ho, hedges⟩ := mem_ready.1 hi
      have hoL : L[i]? = some o := by rw [← hget]; exact ho
      have hiL : i < L.length := (List.getElem?_eq_some_iff.1 hoL).1
      have hnD : ¬ D listed i := by show ¬ listed.getD i false = true; rw [getD_both h1]; simp
      have hil : i < listed.size := by rw [hinv.size, hsize]; exact hiL
      have hclosed : ∀ j o e, L[j]? = some o → D listed j → e ∈ o.after → Region.binds .any e = true → D listed e.on := fun j o e hj hDj he hb => hinv.closed j o (by rw [hget]; exact hj) hDj e he hb
      have hpreds : ∀ j, Reach L i j → D listed j := fun j hr => hr.ready hclosed fun o' e ho' he hb => by
        have : o' = o := Option.some.inj (ho'.symm.trans hoL)
        subst this
        exact hedges e he hb
      have hsuccs : ∀ j, Reach L j i → ¬ D listed j := fun j hr hDj => hnD (hr.closed hclosed hDj)
      have hinv' := hinv.set hi (by rw [hsize]; exact hiL)
      have hcount : (List.range L.length).countP (fun j => !(listed.setIfInBounds i true).getD j false) ≤ fuel := by
        have := countP_set (p := fun j => !listed.getD j false) (q := fun j => !(listed.setIfInBounds i true).getD j false) (i := i) (List.nodup_range (n := L.length)) (List.mem_range.2 hiL)
          (by simp only [Bool.not_eq_true']; exact getD_both h1) (by simp [hil]) (fun j hj => by simp only [getD_set_ne false (fun e => hj e.symm)])
        omega
      have hD' : ∀ j, D (listed.setIfInBounds i true) j ↔ D listed j ∨ j = i := by
        intro j
        by_cases hji : j = i
        · subst hji
          simp [D, hil]
        · simp only [D, getD_set_ne false (fun e => hji e.symm), hji, or_false]
      obtain ⟨C1, rfl, c1, c2, c3, c4, c5, c6, c7⟩ := hI
      -- the slots that it looks at
      have hread : ∀ t ∈ o.looksAt ops, ∀ p v, (Sf i)[t]? = some p → a1.tmps[t]? = some v → RV P C1 p v := by
        intro t ht p v g1 g2
        refine c7 t p v ?_ g2
        rw [slotAt_cut i L.length (by omega) fun j hij hjn hd => ?_, slotAt_congr (D' := fun _ => True) i fun j hj hd => ⟨fun _ => trivial, fun _ => ?_⟩, hslots i (by omega)]
        · exact g1
        · -- a writer before
          obtain ⟨q, hq, hqd⟩ := Option.bind_eq_some_iff.1 hd
          rcases (hchk i o hoL).2 j q hq hj with hap | hr
          · exact absurd ht ((Oper.apart_spec hap).1 t hqd)
          · exact hpreds j hr
        · -- a writer behind
          by_cases hji : j = i
          · subst hji; exact hnD
          · obtain ⟨q, hq, hqd⟩ := Option.bind_eq_some_iff.1 hd
            rcases (hchk j q hq).2 i o hoL (by omega) with hap | hr
            · exact absurd ht ((Oper.apart_spec hap).2.2 t hqd)
            · exact hsuccs j hr
      have hopnd : ∀ x ∈ o.op.operands, RV P C1 (ev (Sf i) x) (a1.eval x) := by
        intro x hx
        cases x with
        | tmp t =>
          have ht : t ∈ o.looksAt ops := by
            simp only [Oper.looksAt]
            exact List.mem_append_left _ (List.mem_filterMap.2 ⟨.tmp t, by simpa using hx, rfl⟩)
          show RV P C1 ((Sf i).getD t (.val undef)) (a1.tmps.getD t undef)
          have hl := hlen i (by omega)
          by_cases htl : t < S.length
          · have g1 : (Sf i)[t]? = some ((Sf i)[t]'(by rw [hl]; exact htl)) := List.getElem?_eq_getElem _
            have g2 : a1.tmps[t]? = some (a1.tmps[t]'(by rw [c4]; exact htl)) := Array.getElem?_eq_getElem _
            have := hread t ht _ _ g1 g2
            simpa [List.getD, Array.getD, htl, hl, c4] using this
          · have g1 : (Sf i).getD t (.val undef) = .val undef := by simp [List.getD, List.getElem?_eq_none (show (Sf i).length ≤ t by rw [hl]; exact Nat.le_of_not_lt htl)]
            have g2 : a1.tmps.getD t undef = undef := by simp [Array.getD, c4, htl]
            rw [g1, g2]; exact .val
        | const v => exact .val
        | global g => exact .any
        | func f => exact .fn rfl rfl (fun j c v h => by simp at h) (fun j c v h => by simp at h)
      -- what it leaves
      have hwrite : ∀ (C2 : Ctx) (v : Value), C2.H = H' → Ext C1 C2 → RH P C2 → RV P C2 (pf i) v → (∀ x, (x < (Hf i).length ∨ (Hf (i + 1)).length ≤ x) → C2.ρ x = C1.ρ x) →
          wpAnyIn (Fr r) 0 P .any ops Q fuel (listed.setIfInBounds i true) (a1.put o.dst v) C2.w := by
        intro C2 v k1 k2 k3 k4 k5
        refine ih _ _ _ hinv' hcount ⟨C2, rfl, k1, c2.trans k2, k3, ?_, ?_, fun j hj hDj x hx1 hx2 => ?_, fun t p u g1 g2 => ?_⟩
        · cases o.dst <;> simp [Act.put, c4]
        · cases o.dst <;> exact c5
        · have hji : j ≠ i := fun e => hDj ((hD' j).2 (.inr e))
          have hDj' : ¬ D listed j := fun hh => hDj ((hD' j).2 (.inl hh))
          rw [k5 x ?_]
          · exact c6 j hj hDj' x hx1 hx2
          · rcases Nat.lt_or_gt_of_ne hji with h2 | h2
            · left
              have := hmono (j + 1) i (by omega) (by omega)
              omega
            · right
              have := hmono (i + 1) j (by omega) (by omega)
              omega
        · by_cases hdt : o.dst = some t
          · -- its own slot
            have htl : t < S.length := by
              have h9 := (Array.getElem?_eq_some_iff.1 g2).1
              rw [hdt] at h9
              simp only [Act.put, Array.size_setIfInBounds, c4] at h9
              exact h9
            have hself : slotAt L S pf (D (listed.setIfInBounds i true)) L.length t = some (pf i) := by
              rw [slotAt_cut (i + 1) L.length (by omega) fun j hij hjn hd => ?_]
              · simp only [slotAt]
                rw [if_pos ⟨(hD' i).2 (.inr rfl), by simp [hoL, hdt], htl⟩]
              · obtain ⟨q, hq, hqd⟩ := Option.bind_eq_some_iff.1 hd
                intro hDj
                rcases (hD' j).1 hDj with hDj | hji
                · rcases (hchk j q hq).2 i o hoL (by omega) with hap | hr
                  · exact (Oper.apart_spec hap).2.1 t hdt hqd
                  · exact hsuccs j hr hDj
                · omega
            rw [hself] at g1
            cases g1
            rw [hdt] at g2
            simp only [Act.put] at g2
            rw [Array.getElem?_setIfInBounds, if_pos rfl] at g2
            split at g2
            · cases g2; exact k4
            · cases g2
          · -- another's
            have hsame : slotAt L S pf (D (listed.setIfInBounds i true)) L.length t = slotAt L S pf (D listed) L.length t := by
              refine slotAt_congr _ fun j hj hd => ?_
              rw [hD' j]
              refine ⟨fun hh => hh.resolve_right fun e => ?_, fun hh => .inl hh⟩
              subst e
              rw [hoL] at hd
              exact hdt hd
            rw [hsame] at g1
            have g3 : a1.tmps[t]? = some u := by
              cases hod : o.dst with
              | none => rw [hod] at g2; exact g2
              | some d =>
                rw [hod] at g2 hdt
                simp only [Act.put] at g2
                rw [Array.getElem?_setIfInBounds, if_neg (fun e => hdt (by rw [e]))] at g2
                exact g2
            exact (c7 t p u g1 g3).mono k2
      unfold wpOpIn
      simp only [ho]
      obtain ⟨_, hcase⟩ := hone i o hoL
      rcases hcase with ⟨hg, hp, hHe⟩ | ⟨hg, hst⟩
      · have hw := guard_wanted (by rw [c4, hlen i (by omega)]) hread hg
        rw [hw, if_neg (by simp)]
        exact ⟨fun _ _ => trivial, hwrite C1 undef c1 (.refl C1) c3 (by rw [hp]; exact .val) fun _ _ => rfl⟩
      · have hw := guard_wanted (by rw [c4, hlen i (by omega)]) hread hg
        rw [hw, if_pos rfl]
        refine stepE_sound hE hX c3 ?_ (by rw [c1]; exact htake i (by omega)) (by rw [c1]; exact htake (i + 1) (by omega)) (fun x hx1 hx2 => c6 i hiL hnD x hx1 hx2) hopnd hst fun v C' k1 k2 k3 k4 k5 _ => hwrite C' v (by rw [k1, c1]) k2 k3 k4 k5
        rw [c2.ro]
        have h10 := hR.ro
        have h11 := hmono 0 i (by omega) (by omega)
        rw [e2] at h11
        omega
  refine main ops.size _ _ _ ⟨by simp, fun j oj _ hl => (by rw [getD_replicate_false] at hl; cases hl), fun t h1 h2 => absurd h2 (by omega)⟩ ?_ ?_
  · rw [hsize]
    exact Nat.le_trans List.countP_le_length (by simp)
  · refine ⟨({ C with H := H' } : Ctx).dr, rfl, rfl, hx0.trans hxd, dr_rh hR0, hs.1, rfl, fun j hj _ x hx1 _ => ?_, fun t p v g1 g2 => ?_⟩
    · show C.ρ x = none
      refine hR.ρ_none ?_
      have := hmono 0 j (by omega) (by omega)
      rw [e2] at this
      omega
    · have : slotAt L S pf (D (Array.replicate ops.size false)) L.length t = S[t]? := by
        rw [slotAt_cut 0 L.length (by omega) fun j _ _ _ hDj => by
          simp only [D, getD_replicate_false] at hDj
          cases hDj]
        rfl
      rw [this] at g1
      exact ((hs.2 t p v g1 g2).mono hx0).mono hxd
end Go.Hx
/- Hx: a region that draws its order and writes comes to what the order of the text comes to. -/
namespace Go.Hx

def SameShp (r r' : Row) : Prop := r = r' ∨ (r.live = true ∧ r'.live = true ∧ ShpR r r' ∧ r.lp = r'.lp)
theorem SameShp.refl (r : Row) : SameShp r r := .inl rfl
theorem SameShp.symm {r r' : Row} (h : SameShp r r') : SameShp r' r := by
  rcases h with h | ⟨a, b, ⟨c1, c2, c3, c4⟩, d⟩
  · exact .inl h.symm
  · exact .inr ⟨b, a, ⟨c1.symm, c2.symm, c3.symm, c4.symm⟩, d.symm⟩
theorem SameShp.trans {r r' r'' : Row} (h : SameShp r r') (k : SameShp r' r'') : SameShp r r'' := by
  rcases h with rfl | ⟨a, b, ⟨c1, c2, c3, c4⟩, d⟩
  · exact k
  · rcases k with rfl | ⟨a', b', ⟨e1, e2, e3, e4⟩, d'⟩
    · exact .inr ⟨a, b, ⟨c1, c2, c3, c4⟩, d⟩
    · exact .inr ⟨a, b', ⟨c1.trans e1, c2.trans e2, c3.trans e3, c4.trans e4⟩, d.trans d'⟩
theorem SameShp.poison {r r' : Row} (h : SameShp r r') : poisonRow r = poisonRow r' := by
  rcases h with rfl | ⟨a, b, c, d⟩
  · rfl
  · exact poisonRow_eq c a b d

theorem storeQ_rows {P : Program} {ro : Nat} {H H' : List Row} {T : TypeId} {i n k j : Nat} {x : PV} (h : storeQ P ro H T (.ptr i n k j) x = some H') :
    ∃ r r2, rowAt H i = some r ∧ H' = H.set i r2 ∧ SameShp r r2 ∧ ∀ Hd, rowAt Hd i = some r → storeQ P ro Hd T (.ptr i n k j) x = some (Hd.set i r2) := by
  simp only [storeQ] at h
  split at h
  · rename_i r hr
    split at h
    · rename_i hc
      split at h
      · rename_i r2 hr2
        cases h
        have hlive : r.live = true := by
          unfold rowAt at hr
          split at hr
          · split at hr
            · rename_i hl; cases hr; exact hl
            · cases hr
          · cases hr
        refine ⟨r, r2, hr, rfl, ?_, fun Hd hd => by simp only [storeQ, hd]; rw [if_pos hc]; simp only [hr2]⟩
        unfold setCells at hr2
        split at hr2
        · cases hr2
          exact .inr ⟨hlive, hlive, ⟨rfl, by simp, rfl, rfl⟩, rfl⟩
        · cases hr2
      · cases h
    · cases h
  · cases h

/-- What one operation of the text's order does; w: the rows that it writes. -/
def DoesM (P : Program) (E : Env) (ex : Ex) (ro : Nat) (R K G : List Nat) (S : List PV) (H : List Row) (o : Oper) (p : PV) (H' : List Row) (w : List Nat) : Prop :=
  (∃ T a x i n k j, o.op = .store T a x ∧ ev S a = .ptr i n k j ∧ storeQ P ro H T (.ptr i n k j) (ev S x) = some H' ∧ p = .val undef ∧ w = [i]) ∨
  (stepX P E ex K S (poison R H) o = some (p, poison R H) ∧ H' = H ∧ w = []) ∨
  (∃ r, stepX P E ex K S (poison R H) o = some (p, poison R H ++ [r]) ∧ H' = H ++ [r] ∧ w = [H.length]) ∨
  (∃ f args H2, wcallQ S o.op = some (f, args) ∧ args.all (argOk H.length) = true ∧ ro ≤ H.length ∧ rowsOk 0 (maskH w H) = true ∧ callI P E ex ro f args (maskH w H) = some (p, H2) ∧ plain p = true ∧
    rowsOk 0 (maskH w (H2.take H.length)) = true ∧ shpsB w H H2 = true ∧ H' = backH w H H2) ∨
  (∃ c i x y, growQ S o.op = some (c, i, x, y) ∧ srcFree R y = true ∧ appendQ P ro H c x y = some (p, H') ∧ i ∈ G ∧ w = [i])

theorem stepM_does {P : Program} {E : Env} {ex : Ex} {ro : Nat} {W R K G : List Nat} {S : List PV} {H H' : List Row} {o : Oper} {p : PV} (h : stepM P E ex ro W R K G S H o = some (p, H')) :
    ∃ w, DoesM P E ex ro R K G S H o p H' w ∧ ∀ x, x ∈ w → x ∈ W ∧ x ∉ R := by
  have hE : stepME P E ex W R K S H o = some (p, H') → ∃ w, DoesM P E ex ro R K G S H o p H' w ∧ ∀ x, x ∈ w → x ∈ W ∧ x ∉ R := by
    intro h
    unfold stepME at h
    split at h
    · rename_i q H1 hs
      have hrows := stepX_rows hs
      have hl := poison_length R H
      split at h
      · rename_i hd
        cases h
        rcases hrows with rfl | ⟨r, rfl⟩
        · exact ⟨[], .inr (.inl ⟨hs, rfl, rfl⟩), fun x hx => by cases hx⟩
        · rw [← hl, List.drop_left] at hd; cases hd
      · rename_i r hd
        split at h
        · rename_i hc
          cases h
          rcases hrows with rfl | ⟨r', rfl⟩
          · rw [← hl, List.drop_length] at hd; cases hd
          · rw [← hl, List.drop_left] at hd
            cases hd
            simp only [Bool.and_eq_true, Bool.not_eq_true', List.contains_eq_mem, decide_eq_true_eq, decide_eq_false_iff_not] at hc
            exact ⟨[H.length], .inr (.inr (.inl ⟨r, hs, rfl, rfl⟩)), fun x hx => by simp only [List.mem_singleton] at hx; subst hx; exact hc⟩
        · cases h
      · cases h
    · cases h
  unfold stepM at h
  split at h
  · rename_i T a x ho
    split at h
    · rename_i i n k j ha
      split at h
      · rename_i hc
        obtain ⟨H2, h2, he⟩ := Option.map_eq_some_iff.1 h
        cases he
        simp only [Bool.and_eq_true, Bool.not_eq_true', List.contains_eq_mem, decide_eq_true_eq, decide_eq_false_iff_not] at hc
        exact ⟨[i], .inl ⟨T, a, x, i, n, k, j, ho, ha, h2, rfl, rfl⟩, fun y hy => by simp only [List.mem_singleton] at hy; subst hy; exact hc⟩
      · cases h
    · cases h
  · split at h
    · rename_i f args hw
      split at h
      · exact hE h
      · rename_i hne
        split at h
        · rename_i hc
          simp only [Bool.and_eq_true, decide_eq_true_eq] at hc
          obtain ⟨⟨⟨hK, hargs⟩, hro⟩, hok⟩ := hc
          split at h
          · rename_i q H2 hcall
            split at h
            · rename_i hc2
              cases h
              simp only [Bool.and_eq_true] at hc2
              refine ⟨wRows E.pure f args, .inr (.inr (.inr (.inl ⟨f, args, H2, hw, hargs, hro, hok, hcall, hc2.1.1, hc2.1.2, hc2.2, rfl⟩))), fun x hx => ?_⟩
              have := List.all_eq_true.1 hK x hx
              simpa using this
            · cases h
          · cases h
        · cases h
    · split at h
      · rename_i c i x y hg
        split at h
        · rename_i hc
          simp only [Bool.and_eq_true, Bool.not_eq_true', List.contains_eq_mem, decide_eq_true_eq, decide_eq_false_iff_not] at hc
          exact ⟨[i], .inr (.inr (.inr (.inr ⟨c, i, x, y, hg, hc.2, h, hc.1.2, rfl⟩))), fun z hz => by simp only [List.mem_singleton] at hz; subst hz; exact hc.1.1⟩
        · cases h
      · exact hE h

theorem growQ_sl {S : List PV} {op : Op} {c : Call} {i : Nat} {x y : PV} (h : growQ S op = some (c, i, x, y)) : ∃ X Y n len, op = .call c ∧ c.callee = .builtin .append ∧ c.args.toList = [X, Y] ∧ ev S X = .sl i n 0 len ∧ x = .sl i n 0 len ∧ y = ev S Y := by
  unfold growQ at h
  split at h
  · rename_i c' _
    split at h
    · rename_i hc
      split at h
      · rename_i X Y ha
        split at h
        · rename_i i' n len hx
          cases h
          exact ⟨X, Y, n, len, rfl, hc, ha, hx, rfl, rfl⟩
        · cases h
      · cases h
    · cases h
  · cases h
theorem srcOf_same {H Hd : List Row} {y : PV} (h : ∀ i n k l, y = .sl i n k l → rowAt Hd i = rowAt H i) : srcOf Hd y = srcOf H y := by
  cases y with
  | sl i n k l => simp only [srcOf]; rw [h i n k l rfl]
  | _ => rfl
/-- An append to a row: only this row and the source matter. -/
theorem appendQ_rows {P : Program} {ro : Nat} {H H' : List Row} {c : Call} {i n len : Nat} {y p : PV} (h : appendQ P ro H c (.sl i n 0 len) y = some (p, H')) :
    ∃ r r2, rowAt H i = some r ∧ H' = H.set i r2 ∧ (srcOf H y).isSome = true ∧ ∀ Hd, rowAt Hd i = some r → srcOf Hd y = srcOf H y → appendQ P ro Hd c (.sl i n 0 len) y = some (p, Hd.set i r2) := by
  unfold appendQ at h
  split at h
  · rename_i T T2 hT hT2
    split at h
    · rename_i e e2 ty t news hu hu2 hsrc
      split at h
      · rename_i hc
        split at h
        · rename_i heq
          cases heq
          split at h
          · rename_i r hr
            split at h
            · rename_i hc2
              split at h
              · rename_i hc3
                cases h
                refine ⟨r, _, hr, rfl, by rw [hsrc]; rfl, fun Hd h1 h2 => ?_⟩
                unfold appendQ
                simp only [hT, hT2, hu, hu2, h2, hsrc, h1]
                rw [if_pos hc, if_pos hc2, if_pos hc3]
              · cases h
            · cases h
          · cases h
        · rename_i heq; cases heq
        · rename_i heq; cases heq
        · cases h
      · cases h
    · cases h
  · cases h

theorem shpsB_get {K : List Nat} {H H2 : List Row} (h : shpsB K H H2 = true) {x : Nat} (hx : x ∈ K) : ∃ r r', H[x]? = some r ∧ H2[x]? = some r' ∧ SameShp r r' := by
  have := List.all_eq_true.1 h x hx
  split at this
  · rename_i r r' h1 h2
    simp only [shpB, Bool.and_eq_true, beq_iff_eq, Option.isNone_iff_eq_none] at this
    obtain ⟨⟨⟨⟨⟨⟨⟨a1, a2⟩, a3⟩, a4⟩, a5⟩, a6⟩, a7⟩, a8⟩ := this
    exact ⟨r, r', h1, h2, .inr ⟨a1, a2, ⟨a3, a4, a5, a6⟩, by rw [a7, a8]⟩⟩
  · cases this

/-- What it does to the rows. -/
theorem DoesM.rows {P : Program} {E : Env} {ex : Ex} {ro : Nat} {R K G : List Nat} {S : List PV} {H H' : List Row} {o : Oper} {p : PV} {w : List Nat} (h : DoesM P E ex ro R K G S H o p H' w) :
    (∀ x, x < H.length → ∃ r r', H[x]? = some r ∧ H'[x]? = some r' ∧ (x ∈ G ∨ SameShp r r') ∧ (x ∉ w → r' = r)) ∧ H.length ≤ H'.length ∧ (∀ x, H.length ≤ x → x < H'.length → x = H.length ∧ x ∈ w) ∧ (∀ x, x ∈ w → x < H'.length) := by
  have same : ∀ x, x < H.length → ∃ r r', H[x]? = some r ∧ H[x]? = some r' ∧ (x ∈ G ∨ SameShp r r') ∧ (x ∉ w → r' = r) := fun x hx => ⟨H[x], H[x], List.getElem?_eq_getElem hx, List.getElem?_eq_getElem hx, .inr (.refl _), fun _ => rfl⟩
  rcases h with ⟨T, a, x, i, n, k, j, ho, ha, hs, rfl, rfl⟩ | ⟨hs, rfl, rfl⟩ | ⟨r, hs, rfl, rfl⟩ | ⟨f, args, H2, hw, hargs, hro, hok, hcall, hp, hk, hsh, rfl⟩ | ⟨c, i, x, y, hg, hsf, hap, hiG, rfl⟩
  · obtain ⟨r, r2, g1, rfl, g3, g4⟩ := storeQ_rows hs
    have hi : i < H.length := rowAt_lt g1
    refine ⟨fun y hy => ?_, by simp, fun y h1 h2 => by simp at h2; omega, fun y hy => by simp only [List.mem_singleton] at hy; subst hy; simpa using hi⟩
    by_cases hyi : i = y
    · subst hyi
      have hri : H[i]? = some r := by
        unfold rowAt at g1
        split at g1
        · rename_i r' hr'
          split at g1
          · cases g1; exact hr'
          · cases g1
        · cases g1
      exact ⟨r, r2, hri, by rw [List.getElem?_set, if_pos rfl, if_pos hi], .inr g3, fun hn => absurd (by simp) hn⟩
    · exact ⟨H[y], H[y], List.getElem?_eq_getElem hy, by rw [List.getElem?_set, if_neg hyi]; exact List.getElem?_eq_getElem hy, .inr (.refl _), fun _ => rfl⟩
  · exact ⟨same, Nat.le_refl _, fun x h1 h2 => by omega, fun x hx => by cases hx⟩
  · refine ⟨fun x hx => ⟨H[x], H[x], List.getElem?_eq_getElem hx, by rw [List.getElem?_append_left hx]; exact List.getElem?_eq_getElem hx, .inr (.refl _), fun _ => rfl⟩, by simp, fun x h1 h2 => by simp at h2; exact ⟨by omega, by simp; omega⟩, fun x hx => by simp at hx; subst hx; simp⟩
  · refine ⟨fun x hx => ?_, by rw [backH_length]; exact Nat.le_refl _, fun x h1 h2 => by rw [backH_length] at h2; omega, fun x hx => ?_⟩
    · have hH : H[x]? = some H[x] := List.getElem?_eq_getElem hx
      by_cases hxw : x ∈ w
      · obtain ⟨r, r', g1, g2, g3⟩ := shpsB_get hsh hxw
        refine ⟨r, r', g1, ?_, .inr g3, fun hn => absurd hxw hn⟩
        rw [backH_get, g1]
        simp only [Option.map_some]
        rw [if_pos (by simpa using hxw), List.getD_eq_getElem?_getD, g2]; rfl
      · refine ⟨H[x], H[x], hH, ?_, .inr (.refl _), fun _ => rfl⟩
        rw [backH_get, hH]
        simp only [Option.map_some]
        rw [if_neg (by simpa using hxw)]
    · obtain ⟨r, r', g1, g2, g3⟩ := shpsB_get hsh hx
      rw [backH_length]
      exact (List.getElem?_eq_some_iff.1 g1).1
  · obtain ⟨X, Y, n, len, _, _, _, _, rfl, _⟩ := growQ_sl hg
    obtain ⟨r, r2, g1, rfl, _, g4⟩ := appendQ_rows hap
    have hi : i < H.length := rowAt_lt g1
    refine ⟨fun y hy => ?_, by simp, fun y h1 h2 => by simp at h2; omega, fun y hy => by simp only [List.mem_singleton] at hy; subst hy; simpa using hi⟩
    by_cases hyi : i = y
    · subst hyi
      exact ⟨H[i], r2, List.getElem?_eq_getElem hi, by rw [List.getElem?_set, if_pos rfl, if_pos hi], .inl hiG, fun hn => absurd (by simp) hn⟩
    · exact ⟨H[y], H[y], List.getElem?_eq_getElem hy, by rw [List.getElem?_set, if_neg hyi]; exact List.getElem?_eq_getElem hy, .inr (.refl _), fun _ => rfl⟩

theorem traceJ {step : Nat → List PV → List Row → Oper → Option (PV × List Row)} {ops : Array Oper} : ∀ (l : List Oper) (j0 : Nat) {S S' : List PV} {H H' : List Row}, opsJ step ops j0 l S H = some (S', H') →
    ∃ (Sf : Nat → List PV) (Hf : Nat → List Row) (pf : Nat → PV), Sf 0 = S ∧ Hf 0 = H ∧ Sf l.length = S' ∧ Hf l.length = H' ∧ ∀ (j : Nat) o, l[j]? = some o → Sf (j + 1) = putS (Sf j) o.dst (pf j) ∧
      ((guardQ ops (Sf j) o = some (false, Sf j) ∧ pf j = .val undef ∧ Hf (j + 1) = Hf j) ∨ (guardQ ops (Sf j) o = some (true, Sf j) ∧ step (j0 + j) (Sf j) (Hf j) o = some (pf j, Hf (j + 1))))
  | [], j0, S, S', H, H', h => by
    simp only [opsJ] at h
    cases h
    exact ⟨fun _ => S, fun _ => H, fun _ => .any, rfl, rfl, rfl, rfl, fun j o hj => by simp at hj⟩
  | o :: os, j0, S, S', H, H', h => by
    simp only [opsJ] at h
    have glue : ∀ (p : PV) (H1 : List Row), ((guardQ ops S o = some (false, S) ∧ p = .val undef ∧ H1 = H) ∨ (guardQ ops S o = some (true, S) ∧ step j0 S H o = some (p, H1))) → opsJ step ops (j0 + 1) os (putS S o.dst p) H1 = some (S', H') →
        ∃ (Sf : Nat → List PV) (Hf : Nat → List Row) (pf : Nat → PV), Sf 0 = S ∧ Hf 0 = H ∧ Sf (o :: os).length = S' ∧ Hf (o :: os).length = H' ∧ ∀ (j : Nat) o', (o :: os)[j]? = some o' → Sf (j + 1) = putS (Sf j) o'.dst (pf j) ∧
          ((guardQ ops (Sf j) o' = some (false, Sf j) ∧ pf j = .val undef ∧ Hf (j + 1) = Hf j) ∨ (guardQ ops (Sf j) o' = some (true, Sf j) ∧ step (j0 + j) (Sf j) (Hf j) o' = some (pf j, Hf (j + 1)))) := by
      intro p H1 h1 h2
      obtain ⟨Sf, Hf, pf, a1, a2, a3, a4, a5⟩ := traceJ os (j0 + 1) h2
      refine ⟨fun j => match j with | 0 => S | j + 1 => Sf j, fun j => match j with | 0 => H | j + 1 => Hf j, fun j => match j with | 0 => p | j + 1 => pf j, rfl, rfl, a3, a4, fun j o' hj => ?_⟩
      match j with
      | 0 =>
        simp at hj
        subst hj
        show Sf 0 = putS S o.dst p ∧ ((guardQ ops S o = some (false, S) ∧ p = .val undef ∧ Hf 0 = H) ∨ (guardQ ops S o = some (true, S) ∧ step (j0 + 0) S H o = some (p, Hf 0)))
        rw [a1, a2]
        exact ⟨rfl, h1⟩
      | j + 1 =>
        have := a5 j o' (by simpa using hj)
        rw [show j0 + 1 + j = j0 + (j + 1) by omega] at this
        exact this
    split at h
    · rename_i S1 hg
      have := guardQ_same hg
      subst this
      split at h
      · rename_i p H1 hs
        exact glue p H1 (.inr ⟨hg, hs⟩) h
      · cases h
    · rename_i S1 hg
      have := guardQ_same hg
      subst this
      exact glue (.val undef) H (.inl ⟨hg, rfl, rfl⟩) h
    · cases h

/-- Row x, once the operations D are carried out (of the first n); a row that is not made yet is there as it will be made. -/
noncomputable def rowD (Hf : Nat → List Row) (wf : Nat → List Nat) (D : Nat → Prop) : Nat → Nat → Option Row
  | 0, x => (Hf 0)[x]?
  | j + 1, x => open Classical in if x ∈ wf j ∧ (D j ∨ (Hf j).length ≤ x) then (Hf (j + 1))[x]? else rowD Hf wf D j x

/-- What the operations do to the rows. -/
def TrRows (Hf : Nat → List Row) (wf gw : Nat → List Nat) (N : Nat) : Prop := ∀ j, j < N → (∀ x, x < (Hf j).length → ∃ r r', (Hf j)[x]? = some r ∧ (Hf (j + 1))[x]? = some r' ∧ (x ∈ gw j ∨ SameShp r r') ∧ (x ∉ wf j → r' = r)) ∧ (Hf j).length ≤ (Hf (j + 1)).length ∧
    (∀ x, (Hf j).length ≤ x → x < (Hf (j + 1)).length → x = (Hf j).length ∧ x ∈ wf j) ∧ (∀ x, x ∈ wf j → x < (Hf (j + 1)).length)
section
variable {Hf : Nat → List Row} {wf gw : Nat → List Nat} {D D' : Nat → Prop} {N : Nat}
theorem lenD (hrow : TrRows Hf wf gw N) : ∀ d j, j + d ≤ N → (Hf j).length ≤ (Hf (j + d)).length
  | 0, _, _ => Nat.le_refl _
  | d + 1, j, h => Nat.le_trans (lenD hrow d j (by omega)) (hrow (j + d) (by omega)).2.1
theorem lenDle (hrow : TrRows Hf wf gw N) {j k : Nat} (hjk : j ≤ k) (hk : k ≤ N) : (Hf j).length ≤ (Hf k).length := by
  have := lenD hrow (k - j) j (by omega)
  rwa [show j + (k - j) = k by omega] at this
theorem rowD_all (hrow : TrRows Hf wf gw N) {x : Nat} : ∀ j, j ≤ N → rowD Hf wf (fun _ => True) j x = (Hf j)[x]?
  | 0, _ => rfl
  | j + 1, hj => by
    simp only [rowD, true_or, and_true]
    split
    · rfl
    · rename_i hx
      rw [rowD_all hrow j (by omega)]
      obtain ⟨h1, h2, h3, h4⟩ := hrow j (by omega)
      rcases Nat.lt_or_ge x (Hf j).length with hl | hl
      · obtain ⟨r, r', g1, g2, _, g4⟩ := h1 x hl
        rw [g1, g2, g4 hx]
      · rw [List.getElem?_eq_none hl]
        rcases Nat.lt_or_ge x (Hf (j + 1)).length with hl2 | hl2
        · exact absurd (h3 x hl hl2).2 hx
        · rw [List.getElem?_eq_none hl2]
theorem rowD_some (hrow : TrRows Hf wf gw N) {x : Nat} : ∀ j, j ≤ N → x < (Hf j).length → ∃ r, rowD Hf wf D j x = some r
  | 0, _, hx => ⟨_, List.getElem?_eq_getElem hx⟩
  | j + 1, hj, hx => by
    simp only [rowD]
    split
    · exact ⟨_, List.getElem?_eq_getElem hx⟩
    · rename_i hc
      obtain ⟨h1, h2, h3, h4⟩ := hrow j (by omega)
      rcases Nat.lt_or_ge x (Hf j).length with hl | hl
      · exact rowD_some hrow j (by omega) hl
      · exact absurd ⟨(h3 x hl hx).2, .inr hl⟩ hc
/-- What differs in operations that let nothing grow has the same shape. -/
theorem rowD_same (hrow : TrRows Hf wf gw N) {x : Nat} : ∀ n, n ≤ N → ∀ (D D' : Nat → Prop), (∀ g, g < n → x ∈ gw g → x ∈ wf g → (D g ↔ D' g)) → (∀ j, j < n → x ∈ wf j → D j → ∀ g, g < j → x ∈ gw g → x ∈ wf g → D g) → (∀ j, j < n → x ∈ wf j → D' j → ∀ g, g < j → x ∈ gw g → x ∈ wf g → D' g) →
    ∀ r, rowD Hf wf D n x = some r → ∃ r', rowD Hf wf D' n x = some r' ∧ SameShp r r'
  | 0, _, D, D', _, _, _, r, h => ⟨r, h, .refl _⟩
  | n + 1, hn, D, D', hag, hc, hc', r, h => by
    have ih := rowD_same hrow (x := x) n (by omega)
    have down : ∀ {D D' : Nat → Prop}, (∀ g, g < n + 1 → x ∈ gw g → x ∈ wf g → (D g ↔ D' g)) → (∀ j, j < n + 1 → x ∈ wf j → D j → ∀ g, g < j → x ∈ gw g → x ∈ wf g → D g) → (∀ j, j < n + 1 → x ∈ wf j → D' j → ∀ g, g < j → x ∈ gw g → x ∈ wf g → D' g) → x ∈ wf n → x < (Hf n).length → D n → ¬ D' n →
        ∃ q q', (Hf (n + 1))[x]? = some q ∧ rowD Hf wf D' n x = some q' ∧ SameShp q q' := by
      intro D D' hag hc hc' hxw hxl hDn hDn'
      have hng : x ∉ gw n := fun hg => hDn' ((hag n (by omega) hg hxw).1 hDn)
      obtain ⟨h1, _, _, _⟩ := hrow n (by omega)
      obtain ⟨r0, r1, g1, g2, g3, _⟩ := h1 x hxl
      have hT : rowD Hf wf (fun _ => True) n x = some r0 := by rw [rowD_all hrow n (by omega)]; exact g1
      obtain ⟨q', k1, k2⟩ := ih (fun _ => True) D' (fun g hg h1 h2 => ⟨fun _ => (hag g (by omega) h1 h2).1 (hc n (by omega) hxw hDn g hg h1 h2), fun _ => trivial⟩) (fun _ _ _ _ _ _ _ _ => trivial) (fun j hj => hc' j (by omega)) r0 hT
      exact ⟨r1, q', g2, k1, (g3.resolve_left hng).symm.trans k2⟩
    simp only [rowD] at h ⊢
    by_cases hxw : x ∈ wf n
    · by_cases hxl : (Hf n).length ≤ x
      · rw [if_pos ⟨hxw, .inr hxl⟩] at h
        rw [if_pos ⟨hxw, .inr hxl⟩]
        exact ⟨r, h, .refl _⟩
      · by_cases h1 : D n
        · rw [if_pos ⟨hxw, .inl h1⟩] at h
          by_cases h2 : D' n
          · rw [if_pos ⟨hxw, .inl h2⟩]; exact ⟨r, h, .refl _⟩
          · rw [if_neg (fun hh => hh.2.elim h2 hxl)]
            obtain ⟨q, q', k1, k2, k3⟩ := down hag hc hc' hxw (by omega) h1 h2
            rw [h] at k1; cases k1
            exact ⟨q', k2, k3⟩
        · rw [if_neg (fun hh => hh.2.elim h1 hxl)] at h
          by_cases h2 : D' n
          · rw [if_pos ⟨hxw, .inl h2⟩]
            obtain ⟨q, q', k1, k2, k3⟩ := down (fun g hg a b => (hag g hg a b).symm) hc' hc hxw (by omega) h2 h1
            rw [h] at k2; cases k2
            exact ⟨q, k1, k3.symm⟩
          · rw [if_neg (fun hh => hh.2.elim h2 hxl)]
            exact ih D D' (fun g hg => hag g (by omega)) (fun j hj => hc j (by omega)) (fun j hj => hc' j (by omega)) r h
    · rw [if_neg (fun hh => hxw hh.1)] at h
      rw [if_neg (fun hh => hxw hh.1)]
      exact ih D D' (fun g hg => hag g (by omega)) (fun j hj => hc j (by omega)) (fun j hj => hc' j (by omega)) r h
theorem rowD_cut {x : Nat} (i : Nat) : ∀ n, i ≤ n → (∀ j, i ≤ j → j < n → x ∈ wf j → ¬ (D j ∨ (Hf j).length ≤ x)) → rowD Hf wf D n x = rowD Hf wf D i x
  | 0, hi, _ => by have : i = 0 := by omega
                   subst this; rfl
  | n + 1, hi, h => by
    by_cases he : i = n + 1
    · subst he; rfl
    · rw [← rowD_cut i n (by omega) fun j h1 h2 => h j h1 (by omega)]
      simp only [rowD]
      rw [if_neg]
      rintro ⟨h1, h2⟩
      exact h n (by omega) (by omega) h1 h2
theorem rowD_congr {x : Nat} : ∀ n, (∀ j, j < n → x ∈ wf j → ((D j ∨ (Hf j).length ≤ x) ↔ (D' j ∨ (Hf j).length ≤ x))) → rowD Hf wf D n x = rowD Hf wf D' n x
  | 0, _ => rfl
  | n + 1, h => by
    have ih := rowD_congr n fun j hj => h j (by omega)
    simp only [rowD]
    rw [ih]
    by_cases hx : x ∈ wf n
    · have := h n (by omega) hx
      by_cases hc : D n ∨ (Hf n).length ≤ x
      · rw [if_pos ⟨hx, hc⟩, if_pos ⟨hx, this.1 hc⟩]
      · rw [if_neg (fun hh => hc hh.2), if_neg (fun hh => hc (this.2 hh.2))]
    · rw [if_neg (fun hh => hx hh.1), if_neg (fun hh => hx hh.1)]
end
/-- All rows. -/
noncomputable def HD (Hf : Nat → List Row) (wf : Nat → List Nat) (N : Nat) (D : Nat → Prop) : List Row := (List.range (Hf N).length).map fun x => (rowD Hf wf D N x).getD default
theorem HD_length {Hf : Nat → List Row} {wf : Nat → List Nat} {N : Nat} {D : Nat → Prop} : (HD Hf wf N D).length = (Hf N).length := by simp [HD]

/-- Back from unknown rows. -/
theorem unpoi {P : Program} {C1 C' : Ctx} {R : List Nat} {h h1 : Nat} (hR1 : RH P C1) (hH : C'.H = (C1.poi R).H) (hx : Ext (C1.poi R) C') (hR' : RH P C') (hρ : ∀ x, (x < h ∨ h1 ≤ x) → C'.ρ x = C1.ρ x)
    (hun : ∀ x, h ≤ x → x < h1 → C1.ρ x = none) (hnew : ∀ x, h ≤ x → x < h1 → x ∉ R) (hold : ∀ b, b < C1.w.heap.size → C'.w.heap[b]? = C1.w.heap[b]?) :
    Ext C1 { C' with H := C1.H } ∧ RH P { C' with H := C1.H } ∧ Shp C' { C' with H := C1.H } := by
  have hC : ({ C' with H := C1.H } : Ctx).poi R = C' := by
    show ({ C' with H := poison R C1.H } : Ctx) = C'
    have : C'.H = poison R C1.H := hH
    rw [← this]
  have hshp : Shp C' { C' with H := C1.H } := by
    have := (poi_shp { C' with H := C1.H } R).symm
    rwa [hC] at this
  have hkeep : ∀ i b, C1.ρ i = some b → C'.ρ i = some b := by
    intro i b hb
    rcases Nat.lt_or_ge i h with h2 | h2
    · rw [hρ i (.inl h2)]; exact hb
    · rcases Nat.lt_or_ge i h1 with h3 | h3
      · rw [hun i h2 h3] at hb; cases hb
      · rw [hρ i (.inr h3)]; exact hb
  have hext : Ext C1 { C' with H := C1.H } := by
    refine ⟨hx.os, hx.tape, hx.output, hx.size, fun b hb _ => hold b hb, fun b c e fr hb => ⟨c, by rw [← hb]; exact hold b (Array.getElem?_eq_some_iff.1 hb).1, rfl⟩, Nat.le_refl _, fun i r' _ hr => ⟨r', hr, rfl, rfl, Nat.le_refl _, fun _ => ⟨rfl, fun b hb => hkeep i b hb⟩⟩,
      hx.fresh, hx.freshOwn, hx.fo, hx.ro, fun i hi => ⟨rfl, (hx.low i hi).2⟩, fun i r info g1 g2 g3 => ⟨⟨r, info.st, g1, g2, g3⟩, fun b hb => hkeep i b hb⟩, fun b rec hb => ⟨rec, by rw [← hb]; exact hold b (Array.getElem?_eq_some_iff.1 hb).1⟩⟩
  refine ⟨hext, hR'.shp hshp fun i b r g1 g2 => ?_, hshp⟩
  have g2' : C1.row? i = some r := g2
  rcases Nat.lt_or_ge i h with h2 | h2
  · have g3 : C1.ρ i = some b := by rw [← hρ i (.inl h2)]; exact g1
    exact (hR1.blk i b r g3 g2').mono hext (hold b (hR1.lt g3))
  · rcases Nat.lt_or_ge i h1 with h3 | h3
    · have hrow : C'.row? i = some r := by
        have : (({ C' with H := C1.H } : Ctx).poi R).row? i = some r := by
          rw [poi_row, show ({ C' with H := C1.H } : Ctx).row? i = some r from g2, Option.map_some, if_neg (by simpa using hnew i h2 h3)]
        rwa [hC] at this
      exact (hR'.blk i b r g1 hrow).shp hshp
    · have g3 : C1.ρ i = some b := by rw [← hρ i (.inr h3)]; exact g1
      exact (hR1.blk i b r g3 g2').mono hext (hold b (hR1.lt g3))

theorem confl_mem {W : List (List Nat)} {m : List Nat} {n i j x : Nat} (hi : i < n) (hij : i ≠ j) (hx : x ∈ W.getD i []) (hc : x ∉ confl W m n j) : (m.getD j 0).testBit i = true ∨ (m.getD i 0).testBit j = true := by
  by_cases h1 : (m.getD j 0).testBit i = true
  · exact .inl h1
  · by_cases h2 : (m.getD i 0).testBit j = true
    · exact .inr h2
    · exfalso
      apply hc
      refine List.mem_flatMap.2 ⟨i, List.mem_range.2 hi, ?_⟩
      have h3 : (i == j) = false := by simpa using hij
      have h1' : (m.getD j 0).testBit i = false := by simpa using h1
      have h2' : (m.getD i 0).testBit j = false := by simpa using h2
      rw [h1', h2', h3]
      exact hx
theorem mix_sound {P : Program} {E : Env} (hE : EnvOK P E) {ex : Ex} (hX : ExSound P E ex) {ro id : Nat} {ops : Array Oper} {S S' : List PV} {H H' : List Row} {W G : List (List Nat)} (hok : drawOk P ops.toList = true)
    (h : opsJ (stepsM P E ex ro W G (masks ops.toList []) ops.size) ops 0 ops.toList S H = some (S', H')) : WpTo P (.region id ops true) ro S H .normal S' H' := by
  obtain ⟨Sf, Hf, pf, e1, e2, e3, e4, hone⟩ := traceJ ops.toList 0 h
  generalize hL : ops.toList = L at *
  have hget : ∀ j, ops[j]? = L[j]? := fun j => by rw [← hL, Array.getElem?_toList]
  have hsize : ops.size = L.length := by rw [← hL]; simp
  simp only [drawOk, Bool.and_eq_true] at hok
  obtain ⟨⟨hmix, _⟩, hall⟩ := hok
  -- the edges
  have hchk : ∀ (j : Nat) o, L[j]? = some o → (∀ e, e ∈ o.after → Region.binds .any e = true → e.on < j) ∧ ∀ (i : Nat) q, L[i]? = some q → i < j → q.apart ops o = true ∨ Reach L j i := by
    intro j o ho
    have h1 := List.all_eq_true.1 hall (o, j) (by rw [List.mem_zipIdx_iff_getElem?]; simpa using ho)
    simp only [Bool.and_eq_true] at h1
    refine ⟨fun e he hb => ?_, fun i q hq hij => ?_⟩
    · have := Array.all_eq_true_iff_forall_mem.1 h1.1 e he
      simpa [hb] using this
    · have h2 := List.all_eq_true.1 h1.2 (q, i) (by rw [List.mem_zipIdx_iff_getElem?]; simpa using hq)
      simp only [Bool.or_eq_true, Bool.not_eq_true', decide_eq_false_iff_not] at h2
      rcases h2 with (h2 | h2) | h2
      · exact absurd hij h2
      · refine .inl ?_
        have : L.toArray = ops := by rw [← hL]
        rwa [this] at h2
      · exact .inr (masks_reach L [] (by simp) (fun j i hb => by simp at hb) j i h2)
  have hdown : ∀ j i, Reach L j i → i < j := by
    intro j i hr
    induction hr with
    | one ho he hb => exact (hchk _ _ ho).1 _ he hb
    | more ho he hb _ ih => have := (hchk _ _ ho).1 _ he hb; omega
  -- the trace
  have hlen : ∀ j, j ≤ L.length → (Sf j).length = S.length := by
    intro j
    induction j with
    | zero => intro _; rw [e1]
    | succ j ih =>
      intro hj
      have ho : L[j]? = some (L[j]'(by omega)) := List.getElem?_eq_getElem _
      rw [(hone j _ ho).1]
      have := ih (by omega)
      cases (L[j]'(by omega)).dst <;> simp [putS, this]
  let R : Nat → List Nat := fun j => confl W (masks L []) ops.size j
  let K : Nat → List Nat := fun j => confl G (masks L []) ops.size j
  let gw : Nat → List Nat := fun j => G.getD j []
  have hex : ∀ j, ∃ w : List Nat, ∀ o, L[j]? = some o → ((guardQ ops (Sf j) o = some (false, Sf j) ∧ pf j = .val undef ∧ Hf (j + 1) = Hf j ∧ w = []) ∨ (guardQ ops (Sf j) o = some (true, Sf j) ∧ DoesM P E ex ro (R j) (K j) (gw j) (Sf j) (Hf j) o (pf j) (Hf (j + 1)) w)) ∧
      ∀ x, x ∈ w → x ∈ W.getD j [] ∧ x ∉ R j := by
    intro j
    cases hj : L[j]? with
    | none => exact ⟨[], fun o ho => by cases ho⟩
    | some o =>
      rcases (hone j o hj).2 with ⟨g1, g2, g3⟩ | ⟨g1, g2⟩
      · exact ⟨[], fun o' ho' => by cases ho'; exact ⟨.inl ⟨g1, g2, g3, rfl⟩, fun x hx => by cases hx⟩⟩
      · rw [Nat.zero_add] at g2
        obtain ⟨w, g3, g4⟩ := stepM_does g2
        exact ⟨w, fun o' ho' => by cases ho'; exact ⟨.inr ⟨g1, g3⟩, g4⟩⟩
  obtain ⟨wf, hwf⟩ := Classical.axiomOfChoice hex
  have hrow : ∀ j, j < L.length → (∀ x, x < (Hf j).length → ∃ r r', (Hf j)[x]? = some r ∧ (Hf (j + 1))[x]? = some r' ∧ (x ∈ gw j ∨ SameShp r r') ∧ (x ∉ wf j → r' = r)) ∧ (Hf j).length ≤ (Hf (j + 1)).length ∧
      (∀ x, (Hf j).length ≤ x → x < (Hf (j + 1)).length → x = (Hf j).length ∧ x ∈ wf j) ∧ (∀ x, x ∈ wf j → x < (Hf (j + 1)).length) := by
    intro j hj
    have ho : L[j]? = some (L[j]'hj) := List.getElem?_eq_getElem _
    rcases (hwf j _ ho).1 with ⟨_, _, g3, g4⟩ | ⟨_, g2⟩
    · rw [g3, g4]
      exact ⟨fun x hx => ⟨_, _, List.getElem?_eq_getElem hx, List.getElem?_eq_getElem hx, .inr (.refl _), fun _ => rfl⟩, Nat.le_refl _, fun x h1 h2 => by omega, fun x hx => by cases hx⟩
    · exact g2.rows
  have hmono : ∀ j k, j ≤ k → k ≤ L.length → (Hf j).length ≤ (Hf k).length := fun j k hjk hk => lenDle hrow hjk hk
  have hordR : ∀ i j x, i < L.length → j < L.length → j ≠ i → x ∈ wf j → x ∉ R i → Reach L i j ∨ Reach L j i := by
    intro i j x hi hj hij hx hR
    have ho : L[j]? = some (L[j]'hj) := List.getElem?_eq_getElem _
    rcases confl_mem (by rw [hsize]; exact hj) hij ((hwf j _ ho).2 x hx).1 hR with hb | hb
    · exact .inl (masks_reach L [] (by simp) (fun j i hb => by simp at hb) i j hb)
    · exact .inr (masks_reach L [] (by simp) (fun j i hb => by simp at hb) j i hb)
  have hslots := slotAt_all (L := L) (S := S) (pf := pf) e1 hlen fun j o ho => (hone j o ho).1
  have hHDget : ∀ (D : Nat → Prop) x, x < (Hf L.length).length → (HD Hf wf L.length D)[x]? = rowD Hf wf D L.length x := by
    intro D x hx
    obtain ⟨r, g1⟩ := rowD_some hrow (D := D) L.length (Nat.le_refl _) hx
    simp only [HD, List.getElem?_map, List.getElem?_range hx, Option.map_some, g1, Option.getD_some]
  -- the walk
  intro r C a hH hro hRH hs _ Q hQ
  refine wpIn_region_any hmix ?_
  subst hH
  let D : Array Bool → Nat → Prop := fun listed j => listed.getD j false = true
  have hD0 : ∀ j, ¬ D (Array.replicate ops.size false) j := fun j hj => by simp only [D, getD_replicate_false] at hj; cases hj
  have hpre0 : ∃ rs, HD Hf wf L.length (D (Array.replicate ops.size false)) = C.H ++ rs := by
    refine ⟨(HD Hf wf L.length (D (Array.replicate ops.size false))).drop C.H.length, ?_⟩
    have hle := hmono 0 L.length (by omega) (by omega)
    rw [e2] at hle
    conv => lhs; rw [← List.take_append_drop C.H.length (HD Hf wf L.length (D (Array.replicate ops.size false)))]
    congr 1
    apply List.ext_getElem?
    intro x
    rw [List.getElem?_take]
    split
    · rename_i hx
      rw [hHDget _ x (by omega), rowD_cut 0 L.length (by omega) fun j h1 h2 h3 h4 => ?_]
      · show (Hf 0)[x]? = _
        rw [e2]
      · rcases h4 with h4 | h4
        · exact hD0 j h4
        · have := hmono 0 j (by omega) (by omega)
          rw [e2] at this
          omega
    · rename_i hx
      exact (List.getElem?_eq_none (by omega)).symm
  obtain ⟨rs, hrs⟩ := hpre0
  have hx0 := mores_ext hRH rs
  have hR0 := mores_rh hRH rs
  rw [← hrs] at hx0 hR0
  -- the invariant
  let Inv : Array Bool → Act → World → Prop := fun listed a1 w => ∃ C1 : Ctx, C1.w = w ∧ C1.H = HD Hf wf L.length (D listed) ∧ Ext C C1 ∧ RH P C1 ∧ a1.tmps.size = S.length ∧ a1.defers = a.defers ∧
    (∀ j, j < L.length → ¬ D listed j → ∀ x, (Hf j).length ≤ x → x < (Hf (j + 1)).length → C1.ρ x = none) ∧
    (∀ t p v, slotAt L S pf (D listed) L.length t = some p → a1.tmps[t]? = some v → RV P C1 p v)
  have final : ∀ listed a1 w, (∀ j, j < L.length → D listed j) → Inv listed a1 w → Q .normal a1 w := by
    rintro listed a1 w hd ⟨C1, rfl, h1, h2, h3, h4, h5, _, h7⟩
    refine hQ a1 C1 (.of_eq h5) ?_ h2 h3 ⟨by rw [h4, ← e3, hlen _ (Nat.le_refl _)], fun t p v g1 g2 => h7 t p v ?_ g2⟩
    · rw [h1, ← e4]
      apply List.ext_getElem?
      intro x
      rcases Nat.lt_or_ge x (Hf L.length).length with hx | hx
      · rw [hHDget _ x hx, rowD_congr (D' := fun _ => True) L.length fun j hj _ => ⟨fun _ => .inl trivial, fun _ => .inl (hd j hj)⟩, rowD_all hrow L.length (Nat.le_refl _)]
      · rw [List.getElem?_eq_none (by rw [HD_length]; exact hx), List.getElem?_eq_none hx]
    · rw [slotAt_congr (D' := fun _ => True) _ fun j hj _ => ⟨fun _ => trivial, fun _ => hd j hj⟩, hslots _ (Nat.le_refl _), e3]
      exact g1
  have hready : ∀ listed, HeadInv .any ops ops.size listed → Region.ready .any ops listed = [] → ∀ j, j < L.length → D listed j := by
    intro listed hinv hnil j
    induction j using Nat.strongRecOn with
    | _ j ih =>
      intro hj
      by_cases hDj : D listed j
      · exact hDj
      · exfalso
        have ho : L[j]? = some (L[j]'hj) := List.getElem?_eq_getElem _
        have hlj : j < listed.size := by rw [hinv.size, hsize]; exact hj
        have : j ∈ Region.ready .any ops listed := mem_ready.2 ⟨getD_in hlj (by simpa [D] using hDj), L[j]'hj, by rw [hget]; exact ho, fun e he hb => by
          have hlt := (hchk j _ ho).1 e he hb
          exact ih e.on hlt (by omega)⟩
        rw [hnil] at this
        cases this
  have main : ∀ fuel listed a1 w, HeadInv .any ops ops.size listed → (List.range L.length).countP (fun j => !listed.getD j false) ≤ fuel → Inv listed a1 w → wpAnyIn (Fr r) 0 P .any ops Q fuel listed a1 w := by
    intro fuel
    induction fuel with
    | zero =>
      intro listed a1 w hinv hc hI
      have hd : ∀ j, j < L.length → D listed j := by
        intro j hj
        by_cases hDj : D listed j
        · exact hDj
        · exfalso
          have : 0 < (List.range L.length).countP (fun j => !listed.getD j false) := List.countP_pos_iff.2 ⟨j, List.mem_range.2 hj, by simpa [D] using hDj⟩
          omega
      refine ⟨?_, final listed a1 w hd hI⟩
      cases hr : Region.ready .any ops listed with
      | nil => rfl
      | cons x xs =>
        exfalso
        have hx : x ∈ Region.ready .any ops listed := by rw [hr]; simp
        obtain ⟨h1, o, ho, _⟩ := mem_ready.1 hx
        have hxl : x < L.length := by rw [hget] at ho; exact (List.getElem?_eq_some_iff.1 ho).1
        have h9 : listed.getD x false = true := hd x hxl
        rw [getD_both h1] at h9
        cases h9
    | succ fuel ih =>
      intro listed a1 w hinv hc hI
      refine ⟨fun hnil => final listed a1 w (hready listed hinv hnil) hI, fun i hi => ?_⟩
      obtain ⟨h1, o, ho, hedges⟩ := mem_ready.1 hi
      have hoL : L[i]? = some o := by rw [← hget]; exact ho
      have hiL : i < L.length := (List.getElem?_eq_some_iff.1 hoL).1
      have hnD : ¬ D listed i := by show ¬ listed.getD i false = true; rw [getD_both h1]; simp
      have hil : i < listed.size := by rw [hinv.size, hsize]; exact hiL
      have hclosed : ∀ j o e, L[j]? = some o → D listed j → e ∈ o.after → Region.binds .any e = true → D listed e.on := fun j o e hj hDj he hb => hinv.closed j o (by rw [hget]; exact hj) hDj e he hb
      have hpreds : ∀ j, Reach L i j → D listed j := fun j hr => hr.ready hclosed fun o' e ho' he hb => by
        have : o' = o := Option.some.inj (ho'.symm.trans hoL)
        subst this
        exact hedges e he hb
      have hsuccs : ∀ j, Reach L j i → ¬ D listed j := fun j hr hDj => hnD (hr.closed hclosed hDj)
      have hinv' := hinv.set hi (by rw [hsize]; exact hiL)
      have hcount : (List.range L.length).countP (fun j => !(listed.setIfInBounds i true).getD j false) ≤ fuel := by
        have := countP_set (p := fun j => !listed.getD j false) (q := fun j => !(listed.setIfInBounds i true).getD j false) (i := i) (List.nodup_range (n := L.length)) (List.mem_range.2 hiL)
          (by simp only [Bool.not_eq_true']; exact getD_both h1) (by simp [hil]) (fun j hj => by simp only [getD_set_ne false (fun e => hj e.symm)])
        omega
      have hD' : ∀ j, D (listed.setIfInBounds i true) j ↔ D listed j ∨ j = i := by
        intro j
        by_cases hji : j = i
        · subst hji
          simp [D, hil]
        · simp only [D, getD_set_ne false (fun e => hji e.symm), hji, or_false]
      obtain ⟨C1, rfl, c1, c2, c3, c4, c5, c6, c7⟩ := hI
      have hDi : ∀ j, D (listed.setIfInBounds i true) j ↔ D listed j ∨ j = i := hD'
      -- the rows
      have hN : ∀ j, j < L.length → (Hf j).length ≤ (Hf L.length).length := fun j hj => hmono j _ (by omega) (by omega)
      have hagree : ∀ x, x < (Hf i).length → x ∉ R i → (HD Hf wf L.length (D listed))[x]? = (Hf i)[x]? := by
        intro x hx hxR
        rw [hHDget _ x (Nat.lt_of_lt_of_le hx (hN i hiL)), rowD_cut i L.length (by omega) fun j h1 h2 h3 h4 => ?_, rowD_congr (D' := fun _ => True) i fun j hj hxj => ⟨fun _ => .inl trivial, fun _ => .inl ?_⟩, rowD_all hrow i (by omega)]
        · rcases hordR i j x hiL (by omega) (by omega) hxj hxR with hr | hr
          · exact hpreds j hr
          · have := hdown _ _ hr; omega
        · rcases h4 with h4 | h4
          · by_cases hji : j = i
            · subst hji; exact hnD h4
            · rcases hordR i j x hiL h2 hji h3 hxR with hr | hr
              · have := hdown _ _ hr; omega
              · exact hsuccs j hr h4
          · have := hmono i j h1 (by omega); omega
      have hgrown : ∀ g x, g < L.length → g ≠ i → x ∈ gw g → x ∉ K i → Reach L i g ∨ Reach L g i := by
        intro g x hg hgi hx hxK
        rcases confl_mem (W := G) (by rw [hsize]; exact hg) hgi hx hxK with hb | hb
        · exact .inl (masks_reach L [] (by simp) (fun j i hb => by simp at hb) i g hb)
        · exact .inr (masks_reach L [] (by simp) (fun j i hb => by simp at hb) g i hb)
      have hthere : ∀ x, x < (Hf i).length → ∃ q q', (HD Hf wf L.length (D listed))[x]? = some q ∧ (Hf i)[x]? = some q' := by
        intro x hx
        have hxN := Nat.lt_of_lt_of_le hx (hN i hiL)
        obtain ⟨q, g1⟩ := rowD_some hrow (D := D listed) L.length (Nat.le_refl _) hxN
        exact ⟨q, _, by rw [hHDget _ x hxN]; exact g1, List.getElem?_eq_getElem hx⟩
      have hshape : ∀ x, x < (Hf i).length → x ∈ R i → x ∉ K i → ∃ q q', (HD Hf wf L.length (D listed))[x]? = some q ∧ (Hf i)[x]? = some q' ∧ SameShp q q' := by
        intro x hx hxR hxK
        have hxN := Nat.lt_of_lt_of_le hx (hN i hiL)
        obtain ⟨q, g1⟩ := rowD_some hrow (D := D listed) L.length (Nat.le_refl _) hxN
        have hiw : x ∉ wf i := fun hw => ((hwf i o hoL).2 x hw).2 hxR
        have ord : ∀ g, g < L.length → x ∈ gw g → x ∈ wf g → (g < i ∧ D listed g) ∨ (i < g ∧ ¬ D listed g) := by
          intro g hg h1 h2
          have hgi : g ≠ i := fun e => hiw (e ▸ h2)
          rcases hgrown g x hg hgi h1 hxK with hr | hr
          · exact .inl ⟨hdown _ _ hr, hpreds g hr⟩
          · exact .inr ⟨hdown _ _ hr, hsuccs g hr⟩
        obtain ⟨q', g2, g3⟩ := rowD_same hrow L.length (Nat.le_refl _) (D listed) (fun j => j < i) (fun g hg h1 h2 => by
            rcases ord g hg h1 h2 with ⟨a, b⟩ | ⟨a, b⟩
            · exact ⟨fun _ => a, fun _ => b⟩
            · exact ⟨fun h => absurd h b, fun h => by omega⟩)
          (fun j hj hjw hDj g hgj h1 h2 => by
            rcases ord g (by omega) h1 h2 with ⟨_, b⟩ | ⟨a, b⟩
            · exact b
            · -- g lies behind i, before j, and lets x grow
              exfalso
              have hxRg : x ∉ R g := ((hwf g _ (List.getElem?_eq_getElem (by omega))).2 x h2).2
              rcases hordR g j x (by omega) hj (by omega) hjw hxRg with hr | hr
              · have := hdown _ _ hr; omega
              · exact b (hr.closed hclosed hDj))
          (fun j hj _ hDj g hgj h1 h2 => by have : j < i := hDj; show g < i; omega) q g1
        refine ⟨q, q', by rw [hHDget _ x hxN]; exact g1, ?_, g3⟩
        rw [← g2, rowD_cut i L.length (by omega) fun j h1 h2 h3 h4 => ?_, rowD_congr (D' := fun _ => True) i fun j hj _ => ⟨fun _ => .inl trivial, fun _ => .inl hj⟩, rowD_all hrow i (by omega)]
        rcases h4 with h4 | h4
        · omega
        · have := hmono i j h1 (by omega); omega
      have hag : ∀ x, x < (poison (R i) (Hf i)).length → x ∉ K i → (poison (R i) (HD Hf wf L.length (D listed)))[x]? = (poison (R i) (Hf i))[x]? := by
        intro x hx hxK
        rw [poison_length] at hx
        rw [poison_get, poison_get]
        by_cases hxR : x ∈ R i
        · obtain ⟨q, q', g1, g2, g3⟩ := hshape x hx hxR hxK
          rw [g1, g2]
          simp only [Option.map_some]
          rw [if_pos (by simpa using hxR), if_pos (by simpa using hxR), g3.poison]
        · rw [hagree x hx hxR]
      have hafter : ∀ x, x ∈ wf i → (HD Hf wf L.length (D (listed.setIfInBounds i true)))[x]? = (Hf (i + 1))[x]? := by
        intro x hx
        have hxl := (hrow i hiL).2.2.2 x hx
        rw [hHDget _ x (Nat.lt_of_lt_of_le hxl (hmono (i + 1) _ (by omega) (by omega))), rowD_cut (i + 1) L.length (by omega) fun j h1 h2 h3 h4 => ?_]
        · simp only [rowD]
          rw [if_pos ⟨hx, .inl ((hDi i).2 (.inr rfl))⟩]
        · rcases h4 with h4 | h4
          · rcases (hDi j).1 h4 with h4 | h4
            · rcases hordR i j x hiL h2 (by omega) h3 ((hwf i o hoL).2 x hx).2 with hr | hr
              · have := hdown _ _ hr; omega
              · exact hsuccs j hr h4
            · omega
          · have := hmono (i + 1) j h1 (by omega); omega
      have hother : ∀ x, x ∉ wf i → (HD Hf wf L.length (D (listed.setIfInBounds i true)))[x]? = (HD Hf wf L.length (D listed))[x]? := by
        intro x hx
        rcases Nat.lt_or_ge x (Hf L.length).length with hl | hl
        · rw [hHDget _ x hl, hHDget _ x hl]
          refine rowD_congr L.length fun j hj hxj => ?_
          rw [hDi j]
          refine ⟨fun hh => hh.elim (fun hh => hh.elim .inl fun e => ?_) .inr, fun hh => hh.elim (fun hh => .inl (.inl hh)) .inr⟩
          subst e; exact absurd hxj hx
        · rw [List.getElem?_eq_none (by rw [HD_length]; exact hl), List.getElem?_eq_none (by rw [HD_length]; exact hl)]
      have hnew : ∀ x, (Hf i).length ≤ x → x < (Hf (i + 1)).length → (HD Hf wf L.length (D listed))[x]? = (Hf (i + 1))[x]? := by
        intro x hx1 hx2
        have hxw := ((hrow i hiL).2.2.1 x hx1 hx2).2
        rw [hHDget _ x (Nat.lt_of_lt_of_le hx2 (hmono (i + 1) _ (by omega) (by omega))), rowD_cut (i + 1) L.length (by omega) fun j h1 h2 h3 h4 => ?_]
        · simp only [rowD]
          rw [if_pos ⟨hxw, .inr hx1⟩]
        · rcases h4 with h4 | h4
          · rcases hordR i j x hiL h2 (by omega) h3 ((hwf i o hoL).2 x hxw).2 with hr | hr
            · have := hdown _ _ hr; omega
            · exact hsuccs j hr h4
          · have := hmono (i + 1) j h1 (by omega); omega
      have hstay : (∀ x, x ∈ wf i → (Hf i).length ≤ x) → HD Hf wf L.length (D (listed.setIfInBounds i true)) = HD Hf wf L.length (D listed) := by
        intro hw
        apply List.ext_getElem?
        intro x
        by_cases hx : x ∈ wf i
        · rw [hafter x hx, hnew x (hw x hx) ((hrow i hiL).2.2.2 x hx)]
        · exact hother x hx
      -- the slots that it looks at
      have hread : ∀ t ∈ o.looksAt ops, ∀ p v, (Sf i)[t]? = some p → a1.tmps[t]? = some v → RV P C1 p v := by
        intro t ht p v g1 g2
        refine c7 t p v ?_ g2
        rw [slotAt_cut i L.length (by omega) fun j hij hjn hd => ?_, slotAt_congr (D' := fun _ => True) i fun j hj hd => ⟨fun _ => trivial, fun _ => ?_⟩, hslots i (by omega)]
        · exact g1
        · -- a writer before
          obtain ⟨q, hq, hqd⟩ := Option.bind_eq_some_iff.1 hd
          rcases (hchk i o hoL).2 j q hq hj with hap | hr
          · exact absurd ht ((Oper.apart_spec hap).1 t hqd)
          · exact hpreds j hr
        · -- a writer behind
          by_cases hji : j = i
          · subst hji; exact hnD
          · obtain ⟨q, hq, hqd⟩ := Option.bind_eq_some_iff.1 hd
            rcases (hchk j q hq).2 i o hoL (by omega) with hap | hr
            · exact absurd ht ((Oper.apart_spec hap).2.2 t hqd)
            · exact hsuccs j hr
      have hopnd : ∀ x ∈ o.op.operands, RV P C1 (ev (Sf i) x) (a1.eval x) := by
        intro x hx
        cases x with
        | tmp t =>
          have ht : t ∈ o.looksAt ops := by
            simp only [Oper.looksAt]
            exact List.mem_append_left _ (List.mem_filterMap.2 ⟨.tmp t, by simpa using hx, rfl⟩)
          show RV P C1 ((Sf i).getD t (.val undef)) (a1.tmps.getD t undef)
          have hl := hlen i (by omega)
          by_cases htl : t < S.length
          · have g1 : (Sf i)[t]? = some ((Sf i)[t]'(by rw [hl]; exact htl)) := List.getElem?_eq_getElem _
            have g2 : a1.tmps[t]? = some (a1.tmps[t]'(by rw [c4]; exact htl)) := Array.getElem?_eq_getElem _
            have := hread t ht _ _ g1 g2
            simpa [List.getD, Array.getD, htl, hl, c4] using this
          · have g1 : (Sf i).getD t (.val undef) = .val undef := by simp [List.getD, List.getElem?_eq_none (show (Sf i).length ≤ t by rw [hl]; exact Nat.le_of_not_lt htl)]
            have g2 : a1.tmps.getD t undef = undef := by simp [Array.getD, c4, htl]
            rw [g1, g2]; exact .val
        | const v => exact .val
        | global g => exact .any
        | func f => exact .fn rfl rfl (fun j c v h => by simp at h) (fun j c v h => by simp at h)
      -- what it leaves
      have hwrite : ∀ (C2 : Ctx) (v : Value), C2.H = HD Hf wf L.length (D (listed.setIfInBounds i true)) → Ext C1 C2 → RH P C2 → RV P C2 (pf i) v → (∀ x, ¬ (x ∈ wf i ∧ x < (Hf i).length) → C1.ρ x = none → (x < (Hf i).length ∨ (Hf (i + 1)).length ≤ x) → C2.ρ x = none) →
          wpAnyIn (Fr r) 0 P .any ops Q fuel (listed.setIfInBounds i true) (a1.put o.dst v) C2.w := by
        intro C2 v k1 k2 k3 k4 k5
        refine ih _ _ _ hinv' hcount ⟨C2, rfl, k1, c2.trans k2, k3, ?_, ?_, fun j hj hDj x hx1 hx2 => ?_, fun t p u g1 g2 => ?_⟩
        · cases o.dst <;> simp [Act.put, c4]
        · cases o.dst <;> exact c5
        · have hji : j ≠ i := fun e => hDj ((hD' j).2 (.inr e))
          have hDj' : ¬ D listed j := fun hh => hDj ((hD' j).2 (.inl hh))
          refine k5 x ?_ (c6 j hj hDj' x hx1 hx2) ?_
          · rintro ⟨hxw, hxl⟩
            rcases hordR i j x hiL hj hji ((hrow j hj).2.2.1 x hx1 hx2).2 ((hwf i o hoL).2 x hxw).2 with hr | hr
            · exact hDj' (hpreds j hr)
            · have := hdown _ _ hr
              have := hmono i j (by omega) (by omega)
              omega
          rcases Nat.lt_or_gt_of_ne hji with h2 | h2
          · left
            have := hmono (j + 1) i (by omega) (by omega)
            omega
          · right
            have := hmono (i + 1) j (by omega) (by omega)
            omega
        · by_cases hdt : o.dst = some t
          · -- its own slot
            have htl : t < S.length := by
              have h9 := (Array.getElem?_eq_some_iff.1 g2).1
              rw [hdt] at h9
              simp only [Act.put, Array.size_setIfInBounds, c4] at h9
              exact h9
            have hself : slotAt L S pf (D (listed.setIfInBounds i true)) L.length t = some (pf i) := by
              rw [slotAt_cut (i + 1) L.length (by omega) fun j hij hjn hd => ?_]
              · simp only [slotAt]
                rw [if_pos ⟨(hD' i).2 (.inr rfl), by simp [hoL, hdt], htl⟩]
              · obtain ⟨q, hq, hqd⟩ := Option.bind_eq_some_iff.1 hd
                intro hDj
                rcases (hD' j).1 hDj with hDj | hji
                · rcases (hchk j q hq).2 i o hoL (by omega) with hap | hr
                  · exact (Oper.apart_spec hap).2.1 t hdt hqd
                  · exact hsuccs j hr hDj
                · omega
            rw [hself] at g1
            cases g1
            rw [hdt] at g2
            simp only [Act.put] at g2
            rw [Array.getElem?_setIfInBounds, if_pos rfl] at g2
            split at g2
            · cases g2; exact k4
            · cases g2
          · -- another's
            have hsame : slotAt L S pf (D (listed.setIfInBounds i true)) L.length t = slotAt L S pf (D listed) L.length t := by
              refine slotAt_congr _ fun j hj hd => ?_
              rw [hD' j]
              refine ⟨fun hh => hh.resolve_right fun e => ?_, fun hh => .inl hh⟩
              subst e
              rw [hoL] at hd
              exact hdt hd
            rw [hsame] at g1
            have g3 : a1.tmps[t]? = some u := by
              cases hod : o.dst with
              | none => rw [hod] at g2; exact g2
              | some d =>
                rw [hod] at g2 hdt
                simp only [Act.put] at g2
                rw [Array.getElem?_setIfInBounds, if_neg (fun e => hdt (by rw [e]))] at g2
                exact g2
            exact (c7 t p u g1 g3).mono k2
      -- an operation that does not write
      have hquiet : ∀ H1, stepX P E ex (K i) (Sf i) (poison (R i) (Hf i)) o = some (pf i, H1) → (Hf (i + 1)).length = H1.length → (∀ x, x ∈ wf i → (Hf i).length ≤ x) → (∀ rr, H1 = poison (R i) (Hf i) ++ [rr] → (poison (R i) (HD Hf wf L.length (D listed)))[(Hf i).length]? = some rr) →
          o.wpIn (Fr r) 0 P a1 C1.w (fun a2 w2 => wpAnyIn (Fr r) 0 P .any ops Q fuel (listed.setIfInBounds i true) a2 w2) Q := by
        intro H1 hst hl1 hw hH1
        have hH0 : (C1.poi (R i)).H = poison (R i) (HD Hf wf L.length (D listed)) := by simp only [Ctx.poi]; rw [c1]
        have hlp := poison_length (R i) (Hf i)
        have hunb : ∀ x, (Hf i).length ≤ x → x < (Hf (i + 1)).length → C1.ρ x = none := fun x h1 h2 => c6 i hiL hnD x h1 h2
        refine stepX_sound hE hX (C := C1.poi (R i)) (poi_rh c3 (R i)) ?_ (by rw [hH0, poison_length, HD_length, ← hl1]; exact hmono (i + 1) _ (by omega) (by omega)) (by rw [hH0]; exact hag) (by rw [hH0, hlp]; exact hH1) (fun x h1 h2 => hunb x (by rw [hlp] at h1; exact h1) (by rw [hl1]; exact h2)) (fun x hx => (hopnd x hx).shp (poi_shp C1 (R i))) hst fun v C' k1 k2 k3 k4 k5 k6 => ?_
        · rw [hlp]
          show C1.ro ≤ _
          rw [c2.ro]
          have h10 := hRH.ro
          have h11 := hmono 0 i (by omega) (by omega)
          rw [e2] at h11
          omega
        · have hRi : ∀ x, (Hf i).length ≤ x → x < (Hf (i + 1)).length → x ∉ R i := fun x h1 h2 => ((hwf i o hoL).2 x ((hrow i hiL).2.2.1 x h1 h2).2).2
          obtain ⟨q1, q2, q3⟩ := unpoi (h := (Hf i).length) (h1 := (Hf (i + 1)).length) c3 k1 k2 k3 (fun x hx => k5 x (by rw [hlp, ← hl1]; exact hx)) hunb hRi k6
          refine hwrite { C' with H := C1.H } v (by show C1.H = _; rw [c1, hstay hw]) q1 q2 (k4.shp q3) fun x _ h1 h2 => ?_
          show C'.ρ x = none
          rw [k5 x (by rw [hlp, ← hl1]; exact h2)]
          exact h1
      unfold wpOpIn
      simp only [ho]
      rcases (hwf i o hoL).1 with ⟨hg, hp, hHe, hwe⟩ | ⟨hg, hdo⟩
      · have hw := guard_wanted (by rw [c4, hlen i (by omega)]) hread hg
        rw [hw, if_neg (by simp)]
        exact ⟨fun _ _ => trivial, hwrite C1 undef (by rw [c1, hstay fun x hx => by rw [hwe] at hx; cases hx]) (.refl C1) c3 (by rw [hp]; exact .val) fun x _ h1 _ => h1⟩
      · have hw := guard_wanted (by rw [c4, hlen i (by omega)]) hread hg
        rw [hw, if_pos rfl]
        have hC1len : C1.H.length = (Hf L.length).length := by rw [c1, HD_length]
        rcases hdo with ⟨T, ad, x, ii, n, k, j, hop, had, hst, hp, hwe⟩ | ⟨hst, hHe, hwe⟩ | ⟨rr, hst, hHe, hwe⟩ | ⟨f, args, H2, hwc, hargs, hrol, hokm, hcall, hpl, hkm, hsh, hHe⟩ | ⟨c, ii, x, y, hg, hsf, hap, hiG, hwe⟩
        · -- a store
          obtain ⟨r1, r2, g1, g2, g3, g4⟩ := storeQ_rows hst
          have hii : ii < (Hf i).length := rowAt_lt g1
          have hiw : ii ∈ wf i := by rw [hwe]; simp
          have hrow1 : rowAt C1.H ii = some r1 := by
            have := hagree ii hii ((hwf i o hoL).2 ii hiw).2
            unfold rowAt at g1 ⊢
            rw [c1, this]; exact g1
          have hq := g4 C1.H hrow1
          have hax : ad ∈ o.op.operands := by rw [hop]; simp [Op.operands]
          have hxx : x ∈ o.op.operands := by rw [hop]; simp [Op.operands]
          have hA := hopnd ad hax
          rw [had] at hA
          obtain ⟨C', q1, q2, q3⟩ := storeQ_sound c3 hA (hopnd x hxx) (by rw [c2.ro, hro]; exact hq)
          refine ⟨fun _ _ => trivial, ?_⟩
          have hrun : (execOp a1.eval o).run P C1.w = .ok .skip C'.w := by
            unfold execOp
            simp only [hop, Sem.run_bind, q1, Result.andThen_ok, Sem.run_pure]
          rw [semAt_value hrun (fun _ h => by cases h)]
          refine hwrite C' undef ?_ q2.ext q2.rh (by rw [hp]; exact .val) fun y _ h1 _ => by rw [q3]; exact h1
          rw [q2.H, c1]
          apply List.ext_getElem?
          intro y
          rw [List.getElem?_set]
          by_cases hy : ii = y
          · subst hy
            rw [if_pos rfl, if_pos (by rw [HD_length]; exact Nat.lt_of_lt_of_le hii (hN i hiL)), hafter ii hiw, g2, List.getElem?_set, if_pos rfl, if_pos hii]
          · rw [if_neg hy, hother y (by rw [hwe]; simp; exact fun e => hy e.symm)]
        · exact hquiet _ hst (by rw [hHe, poison_length]) (fun x hx => by rw [hwe] at hx; cases hx) (fun rr he => by
            have := congrArg List.length he
            simp at this)
        · refine hquiet _ hst (by rw [hHe]; simp [poison_length]) (fun x hx => by rw [hwe] at hx; simp at hx; omega) fun rr' he => ?_
          have hl : (Hf (i + 1)).length = (Hf i).length + 1 := by rw [hHe]; simp
          have hin := hnew (Hf i).length (Nat.le_refl _) (by omega)
          have hRn : (Hf i).length ∉ R i := ((hwf i o hoL).2 _ (by rw [hwe]; simp)).2
          obtain rfl : rr = rr' := by
            have := List.append_cancel_left he
            simpa using this
          rw [poison_get, hin, hHe]
          simp only [List.getElem?_append_right (Nat.le_refl _), Nat.sub_self, List.getElem?_cons_zero, Option.map_some]
          rw [if_neg (by simpa using hRn)]
        · -- a call that writes
          have hKlt : ∀ x, x ∈ wf i → x < (Hf i).length := fun x hx => by
            obtain ⟨z, z', k1, _⟩ := shpsB_get hsh hx
            exact (List.getElem?_eq_some_iff.1 k1).1
          have hle : (Hf i).length ≤ C1.H.length := by rw [hC1len]; exact hN i hiL
          have hroC : C1.ro ≤ (Hf i).length := by rw [c2.ro, hro]; exact hrol
          have hmask : maskH (wf i) (C1.H.take (Hf i).length) = maskH (wf i) (Hf i) := by
            apply List.ext_getElem?
            intro x
            rw [maskH_get, maskH_get, List.getElem?_take]
            by_cases hx : x < (Hf i).length
            · rw [if_pos hx, c1]
              by_cases hxw : x ∈ wf i
              · rw [hagree x hx ((hwf i o hoL).2 x hxw).2]
              · obtain ⟨z, z', k1, k2⟩ := hthere x hx
                rw [k1, k2]
                simp only [Option.map_some]
                rw [if_neg (by simpa using hxw), if_neg (by simpa using hxw)]; rfl
            · rw [if_neg hx, List.getElem?_eq_none (by omega)]
          have hRm : RH P (C1.mask (wf i) (Hf i).length) := mask_rh c3 hle hroC (by rw [hmask]; exact hokm)
          have hHm : (C1.mask (wf i) (Hf i).length).H = maskH (wf i) (Hf i) := hmask
          unfold wcallQ at hwc
          split at hwc
          case h_2 => cases hwc
          rename_i c hop
          split at hwc
          case h_2 => cases hwc
          rename_i g hcal
          split at hwc
          case h_2 => cases hwc
          rename_i f' first cap hgf
          cases hwc
          have hgm : g ∈ o.op.operands := by rw [hop]; simp [Op.operands, Call.operands, hcal]
          have hgv := hopnd g hgm
          rw [hgf] at hgv
          generalize hG : a1.eval g = G at hgv
          cases hgv with
          | @fn _ _ _ F K q1 q2 q3 q4 =>
            have hcs := args_rv (a := a1) (S := Sf i) (xs := c.args) ⟨q1, q3⟩ ⟨q2, q4⟩ (fun x hx => hopnd x (by rw [hop]; simp [Op.operands, Call.operands, hcal, hx]))
            have hcm : Cs P (C1.mask (wf i) (Hf i).length) (first ++ c.args.toList.map (ev (Sf i)) ++ cap) (F ++ c.args.map a1.eval ++ K) :=
              ⟨hcs.1, fun j cc v k1 k2 => mask_arg hle (hcs.2 j cc v k1 k2) (List.all_eq_true.1 hargs cc (List.mem_of_getElem? k1))⟩
            obtain ⟨z1, z2⟩ := callI_sound (ro := ro) hE hX hRm (by show C1.ro = ro; rw [c2.ro]; exact hro) hcm (by rw [hHm]; exact hcall)
            refine wp_call hop hcal hG z1 z2 fun e w' ⟨V, C', he, hw', hct⟩ => ⟨V, he, ?_⟩
            subst hw'
            have hH2 := hct.H
            have hl2 : (Hf i).length ≤ C'.H.length := by have := hct.ext.len; rwa [mask_len hle] at this
            refine hwrite (C1.back C' (wf i) (Hf i).length) V ?_ (backm_ext c3 hle hct.ext) (backm_rh c3 hle hct.ext hct.rh (by rw [hH2]; exact hkm)) (hct.rv.plain hpl) fun x h0 h1 h2 => ?_
            · apply List.ext_getElem?
              intro x
              rw [back_get hle hl2]
              by_cases hxw : x ∈ wf i
              · have hxl := hKlt x hxw
                rw [if_pos ⟨hxl, by simpa using hxw⟩, hafter x hxw, hHe, backH_get, hH2]
                obtain ⟨z, z', k1, k2, _⟩ := shpsB_get hsh hxw
                rw [k1, k2]
                simp only [Option.map_some]
                rw [if_pos (by simpa using hxw), List.getD_eq_getElem?_getD, k2]; rfl
              · rw [if_neg (fun hh => hxw (by simpa using hh.2)), hother x hxw, c1]
            · show (if inK (wf i) (Hf i).length x then C'.ρ x else C1.ρ x) = none
              split
              · rename_i hk
                exact absurd ⟨by simpa using hk.2, hk.1⟩ h0
              · exact h1
        · -- an append
          obtain ⟨X, Y, n, len, hop, hcal, hargs, hX, rfl, rfl⟩ := growQ_sl hg
          obtain ⟨r1, r2, g1, g2, g3, g4⟩ := appendQ_rows hap
          have hii : ii < (Hf i).length := rowAt_lt g1
          have hiw : ii ∈ wf i := by rw [hwe]; simp
          have hrat : ∀ z, z < (Hf i).length → z ∉ R i → rowAt C1.H z = rowAt (Hf i) z := by
            intro z hz1 hz2
            have := hagree z hz1 hz2
            unfold rowAt
            rw [c1, this]
          have hsrc : srcOf C1.H (ev (Sf i) Y) = srcOf (Hf i) (ev (Sf i) Y) := by
            refine srcOf_same fun z n' k' l' he => ?_
            rw [he] at hsf g3
            simp only [srcFree, Bool.not_eq_true', List.contains_eq_mem, decide_eq_false_iff_not] at hsf
            refine hrat z ?_ hsf
            cases hz : rowAt (Hf i) z with
            | none => simp [srcOf, hz] at g3
            | some q => exact rowAt_lt hz
          have hq := g4 C1.H ((hrat ii hii ((hwf i o hoL).2 ii hiw).2).trans g1) hsrc
          have hca : c.args = #[X, Y] := by apply Array.ext'; simpa using hargs
          have hXm : X ∈ o.op.operands := by rw [hop]; simp [Op.operands, Call.operands, hca]
          have hYm : Y ∈ o.op.operands := by rw [hop]; simp [Op.operands, Call.operands, hca]
          have hA := hopnd X hXm
          rw [hX] at hA
          obtain ⟨v, C', q1, q2, q3, q4⟩ := appendQ_sound c3 hA (hopnd Y hYm) (by rw [c2.ro, hro]; exact hq) o.type
          refine wp_value (v := v) (w' := C'.w) ?_ (hwrite C' v ?_ q2.ext q2.rh q3 fun z h0 h1 _ => ?_)
          · unfold execOp
            simp only [hop, resolve, hcal, hca, Sem.run_bind, Sem.run_pure, Result.andThen_ok, invoke, builtin, List.map_toArray, List.map_cons, List.map_nil, q1]
          · rw [q2.H, c1]
            apply List.ext_getElem?
            intro z
            rw [List.getElem?_set]
            by_cases hz : ii = z
            · subst hz
              rw [if_pos rfl, if_pos (by rw [HD_length]; exact Nat.lt_of_lt_of_le hii (hN i hiL)), hafter ii hiw, g2, List.getElem?_set, if_pos rfl, if_pos hii]
            · rw [if_neg hz, hother z (by rw [hwe]; simp; exact fun e => hz e.symm)]
          · by_cases hz : z = ii
            · subst hz
              exact absurd ⟨hiw, hii⟩ h0
            · rw [q4 ii n 0 len rfl z hz]; exact h1
  refine main ops.size _ _ _ ⟨by simp, fun j oj _ hl => (by rw [getD_replicate_false] at hl; cases hl), fun t h1 h2 => absurd h2 (by omega)⟩ ?_ ?_
  · rw [hsize]
    exact Nat.le_trans List.countP_le_length (by simp)
  · refine ⟨({ C with H := HD Hf wf L.length (D (Array.replicate ops.size false)) } : Ctx).dr, rfl, rfl, hx0.trans (dr_ext _), dr_rh hR0, hs.1, rfl, fun j hj _ x hx1 _ => ?_, fun t p v g1 g2 => ?_⟩
    · show C.ρ x = none
      refine hRH.ρ_none ?_
      have := hmono 0 j (by omega) (by omega)
      rw [e2] at this
      omega
    · have : slotAt L S pf (D (Array.replicate ops.size false)) L.length t = S[t]? := by
        rw [slotAt_cut 0 L.length (by omega) fun j _ _ _ hDj => hD0 j hDj]
        rfl
      rw [this] at g1
      exact ((hs.2 t p v g1 g2).mono hx0).mono (dr_ext _)

end Go.Hx
/- Hx: a region that draws its order, with one operation that everything else is in order with (a yield): what is before it, it, what is behind it. -/
namespace Go.Hx

theorem stepP_stepE {P : Program} {E : Env} {ex : Ex} {S : List PV} {H H' : List Row} {o : Oper} {p : PV} (h : stepP P E ex S H o = some (p, H')) : H' = H ∧ stepE P E ex S H o = some (p, H) := by
  unfold stepP at h
  split at h
  · rename_i q H1 hs
    split at h
    · rename_i hl
      cases h
      rcases stepE_rows hs with rfl | ⟨r, rfl⟩
      · exact ⟨rfl, hs⟩
      · simp at hl
    · cases h
  · cases h

theorem pivot_sound {P : Program} {E : Env} (hE : EnvOK P E) {ex : Ex} (hX : ExSound P E ex) {ro id pv : Nat} {ops : Array Oper} {S S' : List PV} {H H' : List Row} (hok : drawOk P ops.toList = true)
    (hpv : pivotOk (masks ops.toList []) ops.size pv = true) (h : opsJ (stepsP P E ex ro pv) ops 0 ops.toList S H = some (S', H')) : WpTo P (.region id ops true) ro S H .normal S' H' := by
  obtain ⟨Sf, Hf, pf, e1, e2, e3, e4, hone⟩ := traceJ ops.toList 0 h
  generalize hL : ops.toList = L at *
  have hget : ∀ j, ops[j]? = L[j]? := fun j => by rw [← hL, Array.getElem?_toList]
  have hsize : ops.size = L.length := by rw [← hL]; simp
  simp only [drawOk, Bool.and_eq_true] at hok
  obtain ⟨⟨hmix, _⟩, hall⟩ := hok
  -- the edges
  have hchk : ∀ (j : Nat) o, L[j]? = some o → (∀ e, e ∈ o.after → Region.binds .any e = true → e.on < j) ∧ ∀ (i : Nat) q, L[i]? = some q → i < j → q.apart ops o = true ∨ Reach L j i := by
    intro j o ho
    have h1 := List.all_eq_true.1 hall (o, j) (by rw [List.mem_zipIdx_iff_getElem?]; simpa using ho)
    simp only [Bool.and_eq_true] at h1
    refine ⟨fun e he hb => ?_, fun i q hq hij => ?_⟩
    · have := Array.all_eq_true_iff_forall_mem.1 h1.1 e he
      simpa [hb] using this
    · have h2 := List.all_eq_true.1 h1.2 (q, i) (by rw [List.mem_zipIdx_iff_getElem?]; simpa using hq)
      simp only [Bool.or_eq_true, Bool.not_eq_true', decide_eq_false_iff_not] at h2
      rcases h2 with (h2 | h2) | h2
      · exact absurd hij h2
      · refine .inl ?_
        have : L.toArray = ops := by rw [← hL]
        rwa [this] at h2
      · exact .inr (masks_reach L [] (by simp) (fun j i hb => by simp at hb) j i h2)
  -- the trace
  have hlen : ∀ j, j ≤ L.length → (Sf j).length = S.length := by
    intro j
    induction j with
    | zero => intro _; rw [e1]
    | succ j ih =>
      intro hj
      have ho : L[j]? = some (L[j]'(by omega)) := List.getElem?_eq_getElem _
      rw [(hone j _ ho).1]
      have := ih (by omega)
      cases (L[j]'(by omega)).dst <;> simp [putS, this]
  simp only [pivotOk, Bool.and_eq_true, decide_eq_true_eq] at hpv
  obtain ⟨hpl, hpo⟩ := hpv
  rw [hsize] at hpl
  have hord : ∀ j, j < L.length → j ≠ pv → Reach L pv j ∨ Reach L j pv := by
    intro j hj hne
    have := List.all_eq_true.1 hpo j (List.mem_range.2 (by rw [hsize]; exact hj))
    simp only [Bool.or_eq_true, beq_iff_eq] at this
    rcases this with (h1 | h1) | h1
    · exact absurd h1 hne
    · exact .inl (masks_reach L [] (by simp) (fun j i hb => by simp at hb) pv j h1)
    · exact .inr (masks_reach L [] (by simp) (fun j i hb => by simp at hb) j pv h1)
  have hdown : ∀ j i, Reach L j i → i < j := by
    intro j i hr
    induction hr with
    | one ho he hb => exact (hchk _ _ ho).1 _ he hb
    | more ho he hb _ ih => have := (hchk _ _ ho).1 _ he hb; omega
  have hkeep : ∀ j, j < L.length → j ≠ pv → Hf (j + 1) = Hf j := by
    intro j hj hne
    have ho : L[j]? = some (L[j]'hj) := List.getElem?_eq_getElem _
    rcases (hone j _ ho).2 with ⟨_, _, h2⟩ | ⟨_, h2⟩
    · exact h2
    · rw [Nat.zero_add] at h2
      unfold stepsP at h2
      rw [if_neg hne] at h2
      exact (stepP_stepE h2).1
  have hbef : ∀ j, j ≤ pv → Hf j = H := by
    intro j
    induction j with
    | zero => intro _; exact e2
    | succ j ih => intro hj; rw [hkeep j (by omega) (by omega), ih (by omega)]
  have haft : ∀ d, pv + 1 + d ≤ L.length → Hf (pv + 1 + d) = Hf (pv + 1) := by
    intro d
    induction d with
    | zero => intro _; rfl
    | succ d ih => intro hd; rw [← Nat.add_assoc, hkeep _ (by omega) (by omega), ih (by omega)]
  have hbeh : ∀ j, pv < j → j ≤ L.length → Hf j = H' := by
    intro j h1 h2
    have a1 := haft (j - (pv + 1)) (by omega)
    have a2 := haft (L.length - (pv + 1)) (by omega)
    rw [show pv + 1 + (j - (pv + 1)) = j by omega] at a1
    rw [show pv + 1 + (L.length - (pv + 1)) = L.length by omega, e4] at a2
    rw [a1, ← a2]
  have hslots := slotAt_all (L := L) (S := S) (pf := pf) e1 hlen fun j o ho => (hone j o ho).1
  -- the walk
  intro r C a hH hro hR hs _ Q hQ
  refine wpIn_region_any hmix ?_
  -- the invariant
  let D : Array Bool → Nat → Prop := fun listed j => listed.getD j false = true
  let Inv : Array Bool → Act → World → Prop := fun listed a1 w => ∃ C1 : Ctx, C1.w = w ∧ ((¬ D listed pv ∧ C1.H = H) ∨ (D listed pv ∧ C1.H = H')) ∧ Ext C C1 ∧ RH P C1 ∧ a1.tmps.size = S.length ∧ a1.defers = a.defers ∧
    (∀ t p v, slotAt L S pf (D listed) L.length t = some p → a1.tmps[t]? = some v → RV P C1 p v)
  have final : ∀ listed a1 w, (∀ j, j < L.length → D listed j) → Inv listed a1 w → Q .normal a1 w := by
    rintro listed a1 w hd ⟨C1, rfl, h1, h2, h3, h4, h5, h7⟩
    have h1 : C1.H = H' := by
      rcases h1 with ⟨h1, _⟩ | ⟨_, h1⟩
      · exact absurd (hd pv hpl) h1
      · exact h1
    refine hQ a1 C1 (.of_eq h5) h1 h2 h3 ⟨by rw [h4, ← e3, hlen _ (Nat.le_refl _)], fun t p v g1 g2 => h7 t p v ?_ g2⟩
    rw [slotAt_congr (D' := fun _ => True) _ fun j hj _ => ⟨fun _ => trivial, fun _ => hd j hj⟩, hslots _ (Nat.le_refl _), e3]
    exact g1
  have hready : ∀ listed, HeadInv .any ops ops.size listed → Region.ready .any ops listed = [] → ∀ j, j < L.length → D listed j := by
    intro listed hinv hnil j
    induction j using Nat.strongRecOn with
    | _ j ih =>
      intro hj
      by_cases hDj : D listed j
      · exact hDj
      · exfalso
        have ho : L[j]? = some (L[j]'hj) := List.getElem?_eq_getElem _
        have hlj : j < listed.size := by rw [hinv.size, hsize]; exact hj
        have : j ∈ Region.ready .any ops listed := mem_ready.2 ⟨getD_in hlj (by simpa [D] using hDj), L[j]'hj, by rw [hget]; exact ho, fun e he hb => by
          have hlt := (hchk j _ ho).1 e he hb
          exact ih e.on hlt (by omega)⟩
        rw [hnil] at this
        cases this
  have main : ∀ fuel listed a1 w, HeadInv .any ops ops.size listed → (List.range L.length).countP (fun j => !listed.getD j false) ≤ fuel → Inv listed a1 w → wpAnyIn (Fr r) 0 P .any ops Q fuel listed a1 w := by
    intro fuel
    induction fuel with
    | zero =>
      intro listed a1 w hinv hc hI
      have hd : ∀ j, j < L.length → D listed j := by
        intro j hj
        by_cases hDj : D listed j
        · exact hDj
        · exfalso
          have : 0 < (List.range L.length).countP (fun j => !listed.getD j false) := List.countP_pos_iff.2 ⟨j, List.mem_range.2 hj, by simpa [D] using hDj⟩
          omega
      refine ⟨?_, final listed a1 w hd hI⟩
      cases hr : Region.ready .any ops listed with
      | nil => rfl
      | cons x xs =>
        exfalso
        have hx : x ∈ Region.ready .any ops listed := by rw [hr]; simp
        obtain ⟨h1, o, ho, _⟩ := mem_ready.1 hx
        have hxl : x < L.length := by rw [hget] at ho; exact (List.getElem?_eq_some_iff.1 ho).1
        have h9 : listed.getD x false = true := hd x hxl
        rw [getD_both h1] at h9
        cases h9
    | succ fuel ih =>
      intro listed a1 w hinv hc hI
      refine ⟨fun hnil => final listed a1 w (hready listed hinv hnil) hI, fun i hi => ?_⟩
      obtain ⟨h1, o, ho, hedges⟩ := mem_ready.1 hi
      have hoL : L[i]? = some o := by rw [← hget]; exact ho
      have hiL : i < L.length := (List.getElem?_eq_some_iff.1 hoL).1
      have hnD : ¬ D listed i := by show ¬ listed.getD i false = true; rw [getD_both h1]; simp
      have hil : i < listed.size := by rw [hinv.size, hsize]; exact hiL
      have hclosed : ∀ j o e, L[j]? = some o → D listed j → e ∈ o.after → Region.binds .any e = true → D listed e.on := fun j o e hj hDj he hb => hinv.closed j o (by rw [hget]; exact hj) hDj e he hb
      have hpreds : ∀ j, Reach L i j → D listed j := fun j hr => hr.ready hclosed fun o' e ho' he hb => by
        have : o' = o := Option.some.inj (ho'.symm.trans hoL)
        subst this
        exact hedges e he hb
      have hsuccs : ∀ j, Reach L j i → ¬ D listed j := fun j hr hDj => hnD (hr.closed hclosed hDj)
      have hinv' := hinv.set hi (by rw [hsize]; exact hiL)
      have hcount : (List.range L.length).countP (fun j => !(listed.setIfInBounds i true).getD j false) ≤ fuel := by
        have := countP_set (p := fun j => !listed.getD j false) (q := fun j => !(listed.setIfInBounds i true).getD j false) (i := i) (List.nodup_range (n := L.length)) (List.mem_range.2 hiL)
          (by simp only [Bool.not_eq_true']; exact getD_both h1) (by simp [hil]) (fun j hj => by simp only [getD_set_ne false (fun e => hj e.symm)])
        omega
      have hD' : ∀ j, D (listed.setIfInBounds i true) j ↔ D listed j ∨ j = i := by
        intro j
        by_cases hji : j = i
        · subst hji
          simp [D, hil]
        · simp only [D, getD_set_ne false (fun e => hji e.symm), hji, or_false]
      obtain ⟨C1, rfl, c1, c2, c3, c4, c5, c7⟩ := hI
      have hHi : C1.H = Hf i := by
        rcases Nat.lt_trichotomy i pv with hlt | heq | hgt
        · rcases c1 with ⟨_, c1⟩ | ⟨c0, _⟩
          · rw [c1, hbef i (by omega)]
          · rcases hord i hiL (by omega) with hr | hr
            · exact absurd (hr.closed hclosed c0) hnD
            · have := hdown _ _ hr; omega
        · subst heq
          rcases c1 with ⟨_, c1⟩ | ⟨c0, _⟩
          · rw [c1, hbef i (by omega)]
          · exact absurd c0 hnD
        · rcases c1 with ⟨c0, _⟩ | ⟨_, c1⟩
          · rcases hord i hiL (by omega) with hr | hr
            · have := hdown _ _ hr; omega
            · exact absurd (hpreds pv hr) c0
          · rw [c1, hbeh i hgt (by omega)]
      have hnext : (¬ D (listed.setIfInBounds i true) pv ∧ Hf (i + 1) = H) ∨ (D (listed.setIfInBounds i true) pv ∧ Hf (i + 1) = H') := by
        rcases Nat.lt_trichotomy i pv with hlt | heq | hgt
        · refine .inl ⟨fun hh => ?_, hbef (i + 1) (by omega)⟩
          rcases (hD' pv).1 hh with hh | hh
          · rcases hord i hiL (by omega) with hr | hr
            · exact hnD (hr.closed hclosed hh)
            · have := hdown _ _ hr; omega
          · omega
        · exact .inr ⟨(hD' pv).2 (.inr heq.symm), hbeh (i + 1) (by omega) (by omega)⟩
        · refine .inr ⟨(hD' pv).2 (.inl ?_), hbeh (i + 1) (by omega) (by omega)⟩
          rcases hord i hiL (by omega) with hr | hr
          · have := hdown _ _ hr; omega
          · exact hpreds pv hr
      -- the slots that it looks at
      have hread : ∀ t ∈ o.looksAt ops, ∀ p v, (Sf i)[t]? = some p → a1.tmps[t]? = some v → RV P C1 p v := by
        intro t ht p v g1 g2
        refine c7 t p v ?_ g2
        rw [slotAt_cut i L.length (by omega) fun j hij hjn hd => ?_, slotAt_congr (D' := fun _ => True) i fun j hj hd => ⟨fun _ => trivial, fun _ => ?_⟩, hslots i (by omega)]
        · exact g1
        · -- a writer before
          obtain ⟨q, hq, hqd⟩ := Option.bind_eq_some_iff.1 hd
          rcases (hchk i o hoL).2 j q hq hj with hap | hr
          · exact absurd ht ((Oper.apart_spec hap).1 t hqd)
          · exact hpreds j hr
        · -- a writer behind
          by_cases hji : j = i
          · subst hji; exact hnD
          · obtain ⟨q, hq, hqd⟩ := Option.bind_eq_some_iff.1 hd
            rcases (hchk j q hq).2 i o hoL (by omega) with hap | hr
            · exact absurd ht ((Oper.apart_spec hap).2.2 t hqd)
            · exact hsuccs j hr
      have hopnd : ∀ x ∈ o.op.operands, RV P C1 (ev (Sf i) x) (a1.eval x) := by
        intro x hx
        cases x with
        | tmp t =>
          have ht : t ∈ o.looksAt ops := by
            simp only [Oper.looksAt]
            exact List.mem_append_left _ (List.mem_filterMap.2 ⟨.tmp t, by simpa using hx, rfl⟩)
          show RV P C1 ((Sf i).getD t (.val undef)) (a1.tmps.getD t undef)
          have hl := hlen i (by omega)
          by_cases htl : t < S.length
          · have g1 : (Sf i)[t]? = some ((Sf i)[t]'(by rw [hl]; exact htl)) := List.getElem?_eq_getElem _
            have g2 : a1.tmps[t]? = some (a1.tmps[t]'(by rw [c4]; exact htl)) := Array.getElem?_eq_getElem _
            have := hread t ht _ _ g1 g2
            simpa [List.getD, Array.getD, htl, hl, c4] using this
          · have g1 : (Sf i).getD t (.val undef) = .val undef := by simp [List.getD, List.getElem?_eq_none (show (Sf i).length ≤ t by rw [hl]; exact Nat.le_of_not_lt htl)]
            have g2 : a1.tmps.getD t undef = undef := by simp [Array.getD, c4, htl]
            rw [g1, g2]; exact .val
        | const v => exact .val
        | global g => exact .any
        | func f => exact .fn rfl rfl (fun j c v h => by simp at h) (fun j c v h => by simp at h)
      -- what it leaves
      have hwrite : ∀ (C2 : Ctx) (v : Value), C2.H = Hf (i + 1) → Ext C1 C2 → RH P C2 → RV P C2 (pf i) v →
          wpAnyIn (Fr r) 0 P .any ops Q fuel (listed.setIfInBounds i true) (a1.put o.dst v) C2.w := by
        intro C2 v k1 k2 k3 k4
        refine ih _ _ _ hinv' hcount ⟨C2, rfl, by rw [k1]; exact hnext, c2.trans k2, k3, ?_, ?_, fun t p u g1 g2 => ?_⟩
        · cases o.dst <;> simp [Act.put, c4]
        · cases o.dst <;> exact c5
        · by_cases hdt : o.dst = some t
          · -- its own slot
            have htl : t < S.length := by
              have h9 := (Array.getElem?_eq_some_iff.1 g2).1
              rw [hdt] at h9
              simp only [Act.put, Array.size_setIfInBounds, c4] at h9
              exact h9
            have hself : slotAt L S pf (D (listed.setIfInBounds i true)) L.length t = some (pf i) := by
              rw [slotAt_cut (i + 1) L.length (by omega) fun j hij hjn hd => ?_]
              · simp only [slotAt]
                rw [if_pos ⟨(hD' i).2 (.inr rfl), by simp [hoL, hdt], htl⟩]
              · obtain ⟨q, hq, hqd⟩ := Option.bind_eq_some_iff.1 hd
                intro hDj
                rcases (hD' j).1 hDj with hDj | hji
                · rcases (hchk j q hq).2 i o hoL (by omega) with hap | hr
                  · exact (Oper.apart_spec hap).2.1 t hdt hqd
                  · exact hsuccs j hr hDj
                · omega
            rw [hself] at g1
            cases g1
            rw [hdt] at g2
            simp only [Act.put] at g2
            rw [Array.getElem?_setIfInBounds, if_pos rfl] at g2
            split at g2
            · cases g2; exact k4
            · cases g2
          · -- another's
            have hsame : slotAt L S pf (D (listed.setIfInBounds i true)) L.length t = slotAt L S pf (D listed) L.length t := by
              refine slotAt_congr _ fun j hj hd => ?_
              rw [hD' j]
              refine ⟨fun hh => hh.resolve_right fun e => ?_, fun hh => .inl hh⟩
              subst e
              rw [hoL] at hd
              exact hdt hd
            rw [hsame] at g1
            have g3 : a1.tmps[t]? = some u := by
              cases hod : o.dst with
              | none => rw [hod] at g2; exact g2
              | some d =>
                rw [hod] at g2 hdt
                simp only [Act.put] at g2
                rw [Array.getElem?_setIfInBounds, if_neg (fun e => hdt (by rw [e]))] at g2
                exact g2
            exact (c7 t p u g1 g3).mono k2
      unfold wpOpIn
      simp only [ho]
      obtain ⟨_, hcase⟩ := hone i o hoL
      rcases hcase with ⟨hg, hp, hHe⟩ | ⟨hg, hst⟩
      · have hw := guard_wanted (by rw [c4, hlen i (by omega)]) hread hg
        rw [hw, if_neg (by simp)]
        exact ⟨fun _ _ => trivial, hwrite C1 undef (by rw [hHi, hHe]) (.refl C1) c3 (by rw [hp]; exact .val)⟩
      · have hw := guard_wanted (by rw [c4, hlen i (by omega)]) hread hg
        rw [hw, if_pos rfl]
        rw [Nat.zero_add] at hst
        unfold stepsP at hst
        by_cases hip : i = pv
        · rw [if_pos hip, ← hHi] at hst
          refine stepS_sound hE hX (S := Sf i) c3 (by rw [c2.ro]; exact hro) ⟨by rw [c4, hlen i (by omega)], fun t p v g1 g2 => c7 t p v ?_ g2⟩ hst fun v C' hct => hwrite C' v hct.H hct.ext hct.rh hct.rv
          rw [slotAt_cut i L.length (by omega) fun j hij hjn hd => ?_, slotAt_congr (D' := fun _ => True) i fun j hj hd => ⟨fun _ => trivial, fun _ => ?_⟩, hslots i (by omega)]
          · exact g1
          · rcases hord j (by omega) (by omega) with hr | hr
            · exact hpreds j (by rw [hip]; exact hr)
            · have := hdown _ _ hr; omega
          · by_cases hji : j = i
            · subst hji; exact hnD
            · rcases hord j (by omega) (by omega) with hr | hr
              · have := hdown _ _ hr; omega
              · exact hsuccs j (by rw [hip]; exact hr)
        · rw [if_neg hip] at hst
          obtain ⟨hHe, hst⟩ := stepP_stepE hst
          rw [← hHi] at hst
          exact stepE_sound hE hX c3 c3.ro (List.take_length) (List.take_length) (fun x hx1 hx2 => by omega) hopnd hst fun v C' k1 k2 k3 k4 k5 _ => hwrite C' v (by rw [k1, hHe, hHi]) k2 k3 k4
  refine main ops.size _ _ _ ⟨by simp, fun j oj _ hl => (by rw [getD_replicate_false] at hl; cases hl), fun t h1 h2 => absurd h2 (by omega)⟩ ?_ ?_
  · rw [hsize]
    exact Nat.le_trans List.countP_le_length (by simp)
  · refine ⟨C.dr, rfl, .inl ⟨(fun hj => by simp only [D, getD_replicate_false] at hj; cases hj), hH⟩, dr_ext C, dr_rh hR, hs.1, rfl, fun t p v g1 g2 => ?_⟩
    have : slotAt L S pf (D (Array.replicate ops.size false)) L.length t = S[t]? := by
      rw [slotAt_cut 0 L.length (by omega) fun j _ _ _ hDj => by
        simp only [D, getD_replicate_false] at hDj
        cases hDj]
      rfl
    rw [this] at g1
    exact (hs.2 t p v g1 g2).mono (dr_ext C)

theorem exec_ok {P : Program} {E : Env} (hE : EnvOK P E) (n : Nat) : ExSound P E (exec P E n) :=
  exec_sound hE (fun hX _ _ _ _ _ _ _ hd h => draw_sound hE hX hd h) (fun hX _ _ _ _ _ _ _ _ _ hd h => mix_sound hE hX hd h) (fun hX _ _ _ _ _ _ _ _ hd hp h => pivot_sound hE hX hd hp h) n
end Go.Hx
/- Hx: the machine in continuations: what is known only of a value stands as a 'bif' outermost. -/
namespace Go.Hx

/-- A tree of conditions. -/
inductive DT (α : Type) where
  | leaf (a : α)
  | no
  | br (b : Bool) (x y : DT α)
def DT.run {α : Type} : DT α → Option α
  | .leaf a => some a
  | .no => none
  | .br b x y => bif b then x.run else y.run
def DT.go {α β : Type} (k : α → Option β) : DT α → Option β
  | .leaf a => k a
  | .no => none
  | .br b x y => bif b then x.go k else y.go k
theorem DT.go_some {α β : Type} {k : α → Option β} {r : β} : ∀ {d : DT α}, d.go k = some r → ∃ a, d.run = some a ∧ k a = some r
  | .leaf a, h => ⟨a, rfl, h⟩
  | .no, h => by cases h
  | .br b x y, h => by
    cases b
    · exact DT.go_some (d := y) h
    · exact DT.go_some (d := x) h

structure EnvK where
  ora : FuncId → List PV → Option PV := fun _ _ => none
  live : FuncId → Nat → Option (List Tmp) := fun _ _ => none
  lo : FuncId → Nat → Nat → List PV → List Row → Option (DT (PX × List PV × List Row)) := fun _ _ _ _ _ => none
  keep : FuncId → Bool := fun _ => false
  cal : Nat → FuncId → List PV → List Row → Option (DT (PV × List Row)) := fun _ _ _ _ => none
  nils : FuncId → Nat → List (Tmp × TypeId × Nat) := fun _ _ => []
  pure : FuncId → Bool := fun _ => false
  orD : FuncId → List PV → Option (DT PV) := fun _ _ => none
def EnvK.env (E : EnvK) : Env where
  ora f a := match E.orD f a with | some d => d.run | none => E.ora f a
  live := E.live
  lo f ro i S H := (E.lo f ro i S H).bind DT.run
  keep := E.keep
  cal ro k args H := (E.cal ro k args H).bind DT.run
  nils := E.nils
  pure := E.pure

section
variable {α : Type}
def need (c : Bool) (k : Option α) : Option α := bif c then k else none
theorem need_some {c : Bool} {k : Option α} {r : α} (h : need c k = some r) : c = true ∧ k = some r := by
  cases c
  · cases h
  · exact ⟨rfl, h⟩
def dflt {β : Type} (o : Option β) (k : β → Option α) : Option α := match o with | some p => k p | none => none
theorem dflt_some {β : Type} {o : Option β} {k : β → Option α} {r : α} (h : dflt o k = some r) : ∃ p, o = some p ∧ k p = some r := by
  cases o with
  | none => cases h
  | some p => exact ⟨p, rfl, h⟩

def binK (P : Program) (op : BinOp) (T : TypeId) (x0 y0 : Operand) (x y : PV) (k : PV → Option α) : Option α :=
  match x, y with
  | .val (.int ka a), .val (.int kb b) =>
    match op with
    | .quo => need (ka == kb && !decide (b = 0)) (k (.val (.int ka (ka.wrap (a.tdiv b)))))
    | .rem => need (ka == kb && !decide (b = 0)) (k (.val (.int ka (a.tmod b))))
    | .shl => need (!decide (b < 0)) (k (.val (.int ka (ka.wrap (a * 2 ^ min b.toNat ka.bits)))))
    | .shr => need (!decide (b < 0)) (k (.val (.int ka (a.fdiv (2 ^ min b.toNat ka.bits)))))
    | op => dflt (binV P op T x0 y0 (.val (.int ka a)) (.val (.int kb b))) k
  | .val (.string a), .val (.string b) =>
    match op with
    | .add => need (!decide (((a.size + b.size : Nat) : Int) > IntKind.i64.max)) (k (.val (.string (a ++ b))))
    | op => dflt (strV op a b) k
  | .lst _ _ es, .val (.slice none 0 0) =>
    match P.underlying T, op with
    | some (.slice _), .eql => need (decide (0 < es.length)) (k (.val (.bool false)))
    | some (.slice _), .neq => need (decide (0 < es.length)) (k (.val (.bool true)))
    | _, _ => none
  | x, y => dflt (binV P op T x0 y0 x y) k
theorem binK_some {P : Program} {op : BinOp} {T : TypeId} {x0 y0 : Operand} {x y : PV} {k : PV → Option α} {r : α} (h : binK P op T x0 y0 x y k = some r) : ∃ p, binV P op T x0 y0 x y = some p ∧ k p = some r := by
  unfold binK at h
  split at h
  · rename_i ka a kb b
    split at h
    · obtain ⟨h1, h2⟩ := need_some h
      simp only [Bool.and_eq_true, beq_iff_eq, Bool.not_eq_true', decide_eq_false_iff_not] at h1
      exact ⟨_, by simp [binV, h1.1, intV, h1.2], h2⟩
    · obtain ⟨h1, h2⟩ := need_some h
      simp only [Bool.and_eq_true, beq_iff_eq, Bool.not_eq_true', decide_eq_false_iff_not] at h1
      exact ⟨_, by simp [binV, h1.1, intV, h1.2], h2⟩
    · obtain ⟨h1, h2⟩ := need_some h
      simp only [Bool.not_eq_true', decide_eq_false_iff_not] at h1
      exact ⟨_, by simp only [binV]; rw [if_neg h1], h2⟩
    · obtain ⟨h1, h2⟩ := need_some h
      simp only [Bool.not_eq_true', decide_eq_false_iff_not] at h1
      exact ⟨_, by simp only [binV]; rw [if_neg h1], h2⟩
    · exact dflt_some h
  · rename_i a b
    split at h
    · obtain ⟨h1, h2⟩ := need_some h
      simp only [Bool.not_eq_true', decide_eq_false_iff_not] at h1
      exact ⟨_, by simp only [binV, strV]; rw [if_neg h1], h2⟩
    · obtain ⟨p, h1, h2⟩ := dflt_some h
      exact ⟨p, by simpa [binV] using h1, h2⟩
  · split at h
    · rename_i hu
      obtain ⟨h1, h2⟩ := need_some h
      exact ⟨_, by simp only [binV, hu]; rw [if_pos (of_decide_eq_true h1)], h2⟩
    · rename_i hu
      obtain ⟨h1, h2⟩ := need_some h
      exact ⟨_, by simp only [binV, hu]; rw [if_pos (of_decide_eq_true h1)], h2⟩
    · cases h
  · exact dflt_some h

def binHK (P : Program) (H : List Row) (op : BinOp) (T : TypeId) (x0 y0 : Operand) (x y : PV) (k : PV → Option α) : Option α :=
  match x, y with
  | .sl i n _ _, .val (.slice none 0 0) =>
    match rowAt H i, P.underlying T, op with
    | some r, some (.slice _), .eql => need (r.es.length == n) (bif r.nl then k (.val (.bool true)) else k (.val (.bool false)))
    | some r, some (.slice _), .neq => need (r.es.length == n) (bif r.nl then k (.val (.bool false)) else k (.val (.bool true)))
    | _, _, _ => none
  | x, y => binK P op T x0 y0 x y k
theorem binHK_some {P : Program} {H : List Row} {op : BinOp} {T : TypeId} {x0 y0 : Operand} {x y : PV} {k : PV → Option α} {r : α} (h : binHK P H op T x0 y0 x y k = some r) : ∃ p, binH P H op T x0 y0 x y = some p ∧ k p = some r := by
  unfold binHK at h
  split at h
  · split at h
    · rename_i r0 _ hr hu
      obtain ⟨h1, h2⟩ := need_some h
      refine ⟨.val (.bool r0.nl), by simp only [binH, hr, hu]; rw [if_pos (by simpa using h1)], ?_⟩
      cases hn : r0.nl <;> rw [hn] at h2 <;> exact h2
    · rename_i r0 _ hr hu
      obtain ⟨h1, h2⟩ := need_some h
      refine ⟨.val (.bool !r0.nl), by simp only [binH, hr, hu]; rw [if_pos (by simpa using h1)], ?_⟩
      cases hn : r0.nl <;> rw [hn] at h2 <;> exact h2
    · cases h
  · rename_i hne
    obtain ⟨p, h1, h2⟩ := binK_some h
    refine ⟨p, ?_, h2⟩
    unfold binH
    split
    · exact absurd rfl (hne _ _ _ _ rfl)
    · exact h1

def grabK (P : Program) (t : TypeId) (bv : Bool) (s : Nat) (e : PV) (T : TypeId) (j : Nat) (k : PV → Option α) : Option α :=
  match known P T with
  | true =>
    match isAggT P T with
    | true => need (decide (j + P.cellsOf T ≤ s)) (bif bv then k (.agg ((List.range (P.cellsOf T)).map fun x => pick P t true e (j + x))) else k (.agg ((List.range (P.cellsOf T)).map fun x => pick P t false e (j + x))))
    | false => need (decide (j < s)) (bif bv then k (pick P t true e j) else k (pick P t false e j))
  | false => none
theorem grabK_some {P : Program} {t : TypeId} {bv : Bool} {s : Nat} {e : PV} {T : TypeId} {j : Nat} {k : PV → Option α} {r : α} (h : grabK P t bv s e T j k = some r) : ∃ p, grab P t bv s e T j = some p ∧ k p = some r := by
  unfold grabK at h
  unfold grab
  split at h
  · rename_i hk
    rw [if_pos hk]
    split at h
    · rename_i ha
      obtain ⟨h1, h2⟩ := need_some h
      rw [if_pos ha, if_pos (by simpa using h1)]
      cases bv <;> exact ⟨_, rfl, h2⟩
    · rename_i ha
      obtain ⟨h1, h2⟩ := need_some h
      rw [if_neg (by simp [ha]), if_pos (by simpa using h1)]
      cases bv <;> exact ⟨_, rfl, h2⟩
  · cases h

def loadK (P : Program) (H : List Row) (T : TypeId) (x : PV) (k : PV → Option α) : Option α :=
  match x with
  | .ptr i n m j =>
    match rowAt H i with
    | some r => need (r.es.length == n) (grabK P r.t r.bv r.s (r.es.getD m .any) T j k)
    | none => none
  | .lptr t e j => grabK P t true (P.cellsOf t) e T j k
  | _ => none
theorem loadK_some {P : Program} {H : List Row} {T : TypeId} {x : PV} {k : PV → Option α} {r : α} (h : loadK P H T x k = some r) : ∃ p, loadQ P H T x = some p ∧ k p = some r := by
  unfold loadK at h
  split at h
  · split at h
    · rename_i hr
      obtain ⟨h1, h2⟩ := need_some h
      obtain ⟨p, h3, h4⟩ := grabK_some h2
      exact ⟨p, by simp only [loadQ, hr]; rw [if_pos (by simpa using h1)]; exact h3, h4⟩
    · cases h
  · exact grabK_some h
  · cases h

def fieldAddrK (P : Program) (H : List Row) (T : TypeId) (i : Nat) (x : PV) (k : PV → Option α) : Option α :=
  match P.underlying T with
  | some (.struct fs) =>
    match fs[i]? with
    | some fd => need (known P fd.type && P.cellsOf fd.type != 0 && okPtr H x) (k (addOff fd.offset x))
    | none => none
  | _ => none
theorem fieldAddrK_some {P : Program} {H : List Row} {T : TypeId} {i : Nat} {x : PV} {k : PV → Option α} {r : α} (h : fieldAddrK P H T i x k = some r) : ∃ p, fieldAddrQ P H T i x = some p ∧ k p = some r := by
  unfold fieldAddrK at h
  split at h
  · rename_i fs hu
    split at h
    · rename_i fd hf
      obtain ⟨h1, h2⟩ := need_some h
      exact ⟨_, by simp only [fieldAddrQ, hu, hf]; rw [if_pos h1], h2⟩
    · cases h
  · cases h

/-- One of the numbers below n. -/
def ofK (n : Nat) (z : Int) (k : Nat → Option α) : Option α :=
  match n with
  | 0 => none
  | m + 1 => bif decide (z = (m : Int)) then k m else ofK m z k
theorem ofK_some {z : Int} {k : Nat → Option α} {r : α} : ∀ {n : Nat}, ofK n z k = some r → ∃ m, m < n ∧ z = (m : Int) ∧ k m = some r
  | 0, h => by cases h
  | n + 1, h => by
    unfold ofK at h
    cases hd : decide (z = (n : Int)) with
    | true => rw [hd] at h; exact ⟨n, by omega, by simpa using hd, h⟩
    | false => rw [hd] at h; obtain ⟨m, h1, h2, h3⟩ := ofK_some (n := n) h; exact ⟨m, by omega, h2, h3⟩

def indexAddrK (P : Program) (H : List Row) (T : TypeId) (x ix : PV) (k : PV → Option α) : Option α :=
  match ixOf ix, P.underlying T with
  | some z, some (.array len e) => need (known P e && okPtr H x) (ofK len z fun m => k (addOff (m * P.cellsOf e) x))
  | some z, some (.slice e) =>
    match x with
    | .sl i n m len =>
      match rowAt H i with
      | some r => need (known P e && r.es.length == n && r.s == P.cellsOf e) (need (decide (0 ≤ z) && decide (z < len)) (k (.ptr i n (m + z.toNat) 0)))
      | none => none
    | .lst _ t es => need (known P e && t == e) (need (decide (0 ≤ z) && decide (z < es.length)) (k (.lptr t (es.getD z.toNat .any) 0)))
    | _ => none
  | _, _ => none
theorem indexAddrK_some {P : Program} {H : List Row} {T : TypeId} {x ix : PV} {k : PV → Option α} {r : α} (h : indexAddrK P H T x ix k = some r) : ∃ p, indexAddrQ P H T x ix = some p ∧ k p = some r := by
  unfold indexAddrK at h
  unfold indexAddrQ
  split at h
  · rename_i z len e hz hu
    obtain ⟨h1, h2⟩ := need_some h
    obtain ⟨m, g1, rfl, g3⟩ := ofK_some h2
    refine ⟨_, ?_, g3⟩
    simp only [hz, hu]
    rw [if_pos h1, if_pos ⟨by omega, by omega⟩]
    simp
  · rename_i z e hz hu
    simp only [hz, hu]
    split at h
    · split at h
      · rename_i hr
        obtain ⟨h1, h2⟩ := need_some h
        obtain ⟨h3, h4⟩ := need_some h2
        simp only [Bool.and_eq_true, decide_eq_true_eq] at h3
        simp only [hr]
        exact ⟨_, by rw [if_pos h1, if_pos h3], h4⟩
      · cases h
    · obtain ⟨h1, h2⟩ := need_some h
      obtain ⟨h3, h4⟩ := need_some h2
      simp only [Bool.and_eq_true, decide_eq_true_eq] at h3
      exact ⟨_, by dsimp only; rw [if_pos h1, if_pos h3], h4⟩
    · cases h
  · cases h

def indexK (P : Program) (T : TypeId) (x ix : PV) (k : PV → Option α) : Option α :=
  match ixOf ix, P.underlying T with
  | some z, some (.array len e) => need (x.isAgg && known P e) (ofK len z fun m => dflt (partQ P e x.cells (m * P.cellsOf e)) k)
  | some z, some .string =>
    match x with
    | .val (.string s) => need (decide (0 ≤ z) && decide (z < s.size)) (k (.val (.int .u8 (s.data.getD z.toNat 0).toNat)))
    | _ => none
  | _, _ => none
theorem indexK_some {P : Program} {T : TypeId} {x ix : PV} {k : PV → Option α} {r : α} (h : indexK P T x ix k = some r) : ∃ p, indexQ P T x ix = some p ∧ k p = some r := by
  unfold indexK at h
  unfold indexQ
  split at h
  · rename_i z len e hz hu
    obtain ⟨h1, h2⟩ := need_some h
    obtain ⟨m, g1, rfl, g3⟩ := ofK_some h2
    obtain ⟨p, h3, h4⟩ := dflt_some g3
    refine ⟨p, ?_, h4⟩
    simp only [hz, hu]
    rw [if_pos h1, if_pos ⟨by omega, by omega⟩]
    simpa using h3
  · rename_i z hz hu
    simp only [hz, hu]
    split at h
    · obtain ⟨h3, h4⟩ := need_some h
      simp only [Bool.and_eq_true, decide_eq_true_eq] at h3
      exact ⟨_, by simp only []; rw [if_pos h3], h4⟩
    · cases h
  · cases h

def sliceK (P : Program) (H : List Row) (T : TypeId) (x : PV) (lo hi mx : Option PV) (k : PV → Option α) : Option α :=
  match P.underlying T, x, natIx lo, natIx hi, natIx mx with
  | some .string, .val (.string s), some l, some h, some none =>
    need (decide (0 ≤ l.getD 0) && decide (l.getD 0 ≤ h.getD s.size) && decide (h.getD s.size ≤ s.size)) (k (.val (.string (s.extract (l.getD 0).toNat (h.getD s.size).toNat))))
  | some (.slice e), .lst full t es, some l, some h, some none =>
    need (known P e && t == e) (need (decide (0 ≤ l.getD 0) && decide (l.getD 0 ≤ h.getD es.length) && decide (h.getD es.length ≤ es.length))
      (k (.lst (full && h.isNone) t ((es.take (h.getD es.length).toNat).drop (l.getD 0).toNat))))
  | some (.slice e), .lst _ t es, some l, some (some h), some (some m) =>
    need (known P e && t == e) (need (decide (0 ≤ l.getD 0) && decide (l.getD 0 ≤ h) && decide (h ≤ m) && decide (m ≤ es.length))
      (k (.lst (h == m) t ((es.take h.toNat).drop (l.getD 0).toNat))))
  | some (.slice e), .sl i n m len, some none, some h, some none =>
    match rowAt H i with
    | some r => need (known P e && r.es.length == n && r.s == P.cellsOf e) (need (decide (0 ≤ h.getD len) && decide (h.getD len ≤ len)) (k (.sl i n m (h.getD len).toNat)))
    | none => none
  | some (.slice e), .sl i n m len, some (some l), some h, some none =>
    match rowAt H i with
    | some r => need (known P e && r.es.length == n && r.s == P.cellsOf e)
        (need (decide (0 ≤ l) && decide (l < len) && decide (l ≤ h.getD len) && decide (h.getD len ≤ len)) (k (.sl i n (m + l.toNat) (h.getD len - l).toNat)))
    | none => none
  | _, _, _, _, _ => none
theorem sliceK_some {P : Program} {H : List Row} {T : TypeId} {x : PV} {lo hi mx : Option PV} {k : PV → Option α} {r : α} (h : sliceK P H T x lo hi mx k = some r) : ∃ p, sliceQ P H T x lo hi mx = some p ∧ k p = some r := by
  unfold sliceK at h
  split at h
  · rename_i h1 h2 h3 h4
    obtain ⟨g1, g2⟩ := need_some h
    simp only [Bool.and_eq_true, decide_eq_true_eq] at g1
    exact ⟨_, by simp only [sliceQ, h1, h2, h3, h4]; rw [if_pos ⟨g1.1.1, g1.1.2, g1.2⟩], g2⟩
  · rename_i h1 h2 h3 h4
    obtain ⟨g0, g⟩ := need_some h
    obtain ⟨g1, g2⟩ := need_some g
    simp only [Bool.and_eq_true, decide_eq_true_eq] at g1
    exact ⟨_, by simp only [sliceQ, h1, h2, h3, h4]; rw [if_pos g0, if_pos ⟨g1.1.1, g1.1.2, g1.2⟩], g2⟩
  · rename_i h1 h2 h3 h4
    obtain ⟨g0, g⟩ := need_some h
    obtain ⟨g1, g2⟩ := need_some g
    simp only [Bool.and_eq_true, decide_eq_true_eq] at g1
    exact ⟨_, by simp only [sliceQ, h1, h2, h3, h4]; rw [if_pos g0, if_pos ⟨g1.1.1.1, g1.1.1.2, g1.1.2, g1.2⟩], g2⟩
  · rename_i h1 h2 h3 h4
    split at h
    · rename_i hr
      obtain ⟨g0, g⟩ := need_some h
      obtain ⟨g1, g2⟩ := need_some g
      simp only [Bool.and_eq_true, decide_eq_true_eq] at g1
      exact ⟨_, by simp only [sliceQ, h1, h2, h3, h4, hr]; rw [if_pos g0, if_pos ⟨g1.1, g1.2⟩], g2⟩
    · cases h
  · rename_i h1 h2 h3 h4
    split at h
    · rename_i hr
      obtain ⟨g0, g⟩ := need_some h
      obtain ⟨g1, g2⟩ := need_some g
      simp only [Bool.and_eq_true, decide_eq_true_eq] at g1
      exact ⟨_, by simp only [sliceQ, h1, h2, h3, h4, hr]; rw [if_pos g0, if_pos ⟨g1.1.1.1, g1.1.1.2, g1.1.2, g1.2⟩], g2⟩
    · cases h
  · cases h

def popK (P : Program) (H : List Row) (f : Operand → PV) (op : Op) (k : PV → Option α) (other : Option α) : Option α :=
  match op with
  | .load t a => loadK P H t (f a) k
  | .nilCheck x => need (okNil H (f x)) (k (f x))
  | .binOp op t x y _ => binHK P H op t x y (f x) (f y) k
  | .slice t x lo hi mx => match P.underlying t with | some (.array _ _) => none | _ => sliceK P H t (f x) (lo.map f) (hi.map f) (mx.map f) k
  | .fieldAddr t x i => fieldAddrK P H t i (f x) k
  | .indexAddr t x ix => indexAddrK P H t (f x) (f ix) k
  | .index t x ix => indexK P t (f x) (f ix) k
  | op => match popQ P H f op with | some p => k p | none => other
theorem popK_some {P : Program} {H : List Row} {f : Operand → PV} {op : Op} {k : PV → Option α} {other : Option α} {r : α} (h : popK P H f op k other = some r) :
    (∃ p, popQ P H f op = some p ∧ k p = some r) ∨ (popQ P H f op = none ∧ other = some r) := by
  unfold popK at h
  split at h
  · exact .inl (loadK_some h)
  · obtain ⟨h1, h2⟩ := need_some h
    exact .inl ⟨_, by simp [popQ, h1], h2⟩
  · exact .inl (binHK_some h)
  · split at h
    · cases h
    · rename_i hu
      obtain ⟨p, h1, h2⟩ := sliceK_some h
      refine .inl ⟨p, ?_, h2⟩
      simp only [popQ]
      exact h1
  · exact .inl (fieldAddrK_some h)
  · exact .inl (indexAddrK_some h)
  · exact .inl (indexK_some h)
  · split at h
    · rename_i hp; exact .inl ⟨_, hp, h⟩
    · rename_i hp; exact .inr ⟨hp, h⟩

/-- A row, with what is known of its being typed. -/
def rowK (r : Row) (k : Row → Option α) : Option α := bif r.bv then k { r with bv := true } else k { r with bv := false }
theorem rowK_eq (r : Row) (k : Row → Option α) : rowK r k = k r := by
  unfold rowK
  cases r with | mk es s t bv live nl lp => cases bv <;> rfl

def newK (P : Program) (H : List Row) (f : Operand → PV) (op : Op) (k : PV → Row → Option α) (other : Option α) : Option α :=
  match op with
  | .box T x => need (okc (f x) && (f x).cells.length == P.cellsOf T) (rowK (mkRow P T [f x]) fun r => k (.ptr H.length 1 0 0) r)
  | .makeSlice T l c =>
    match P.underlying T, f l, f c with
    | some (.slice e), .val (.int _ n), .val (.int _ m) =>
      match zeroQ P e with
      | some z =>
        need (okc (.val z) && known P e && z.cells.size == P.cellsOf e && decide (0 < P.cellsOf e) && decide (0 ≤ n) && decide (n ≤ m) && decide (m ≤ 2 ^ 40) && decide (P.bytesOf e ≤ 256))
          (rowK (mkRow P e (List.replicate n.toNat (.val z))) fun r => k (.sl H.length n.toNat 0 n.toNat) r)
      | none => none
    | _, _, _ => none
  | op => match newQ P H f op with | some (p, r) => rowK r fun r => k p r | none => other
theorem newK_some {P : Program} {H : List Row} {f : Operand → PV} {op : Op} {k : PV → Row → Option α} {other : Option α} {r : α} (h : newK P H f op k other = some r) :
    (∃ p rw, newQ P H f op = some (p, rw) ∧ k p rw = some r) ∨ (newQ P H f op = none ∧ other = some r) := by
  unfold newK at h
  split at h
  · obtain ⟨h1, h2⟩ := need_some h
    rw [rowK_eq] at h2
    exact .inl ⟨_, _, by simp only [newQ]; rw [if_pos h1], h2⟩
  · split at h
    · rename_i hu hl hc
      split at h
      · rename_i z hz
        obtain ⟨h1, h2⟩ := need_some h
        rw [rowK_eq] at h2
        exact .inl ⟨_, _, by simp only [newQ, hu, hl, hc, hz]; rw [if_pos h1], h2⟩
      · cases h
    · cases h
  · split at h
    · rename_i hp; rw [rowK_eq] at h; exact .inl ⟨_, _, hp, h⟩
    · rename_i hp; exact .inr ⟨hp, h⟩

def storeK (P : Program) (ro : Nat) (H : List Row) (T : TypeId) (a x : PV) (k : List Row → Option α) : Option α :=
  match a with
  | .ptr i n m j =>
    match rowAt H i with
    | some r =>
      need (decide (ro ≤ i) && okc x && x.cells.all cellish && r.es.length == n && x.cells.length == P.cellsOf T && known P T && decide (j + x.cells.length ≤ r.s))
        (dflt (setCells P r m j x.cells) fun r2 => rowK r2 fun r3 => k (H.set i r3))
    | none => none
  | _ => none
theorem storeK_some {P : Program} {ro : Nat} {H : List Row} {T : TypeId} {a x : PV} {k : List Row → Option α} {r : α} (h : storeK P ro H T a x k = some r) : ∃ H', storeQ P ro H T a x = some H' ∧ k H' = some r := by
  unfold storeK at h
  split at h
  · split at h
    · rename_i hr
      obtain ⟨h1, h2⟩ := need_some h
      obtain ⟨r2, h3, h4⟩ := dflt_some h2
      rw [rowK_eq] at h4
      exact ⟨_, by simp only [storeQ, hr]; rw [if_pos h1]; simp only [h3], h4⟩
    · cases h
  · cases h

def srcK (H : List Row) (y : PV) (k : Bool → TypeId → List PV → Option α) : Option α :=
  match y with
  | .sl i n m len =>
    match rowAt H i with
    | some r => need (r.es.length == n) (k r.bv r.t ((r.es.drop m).take len))
    | none => none
  | .lst _ t es => k true t es
  | _ => none
theorem srcK_some {H : List Row} {y : PV} {k : Bool → TypeId → List PV → Option α} {r : α} (h : srcK H y k = some r) : ∃ ty t news, srcOf H y = some (ty, t, news) ∧ k ty t news = some r := by
  unfold srcK at h
  split at h
  · split at h
    · rename_i hr
      obtain ⟨h1, h2⟩ := need_some h
      exact ⟨_, _, _, by simp only [srcOf, hr]; rw [if_pos (by simpa using h1)], h2⟩
    · cases h
  · exact ⟨_, _, _, rfl, h⟩
  · cases h

def appendK (P : Program) (ro : Nat) (H : List Row) (c : Call) (x y : PV) (k : PV → List Row → Option α) : Option α :=
  match c.argTypes[0]?, c.argTypes[1]? with
  | some T, some T2 =>
    match P.underlying T, P.underlying T2 with
    | some (.slice e), some (.slice _) =>
      srcK H y fun ty t news =>
      need (known P e && t == e && (zeroQ P e).any (fun z => z.cells.size == P.cellsOf e) && P.bytesOf e != 0 && (ty || cellishAll news))
        (match x with
        | .sl i n 0 len =>
          match rowAt H i with
          | some r =>
            need (decide (ro ≤ i) && decide (r.es.length = n) && decide (n = len) && decide ((n + news.length) * P.bytesOf e ≤ 140737488355328))
              (need (r.t == e && r.s == P.cellsOf e)
                (rowK { r with es := r.es ++ news, bv := r.bv && ty, nl := r.nl && news.isEmpty } fun r2 => k (.sl i (n + news.length) 0 (n + news.length)) (H.set i r2)))
          | none => none
        | .val (.slice none 0 0) =>
          need (decide (news.length * P.bytesOf e ≤ 140737488355328))
            (bif news.isEmpty then k x H else rowK { es := news, s := P.cellsOf e, t := e, bv := ty } fun r2 => k (.sl H.length news.length 0 news.length) (H ++ [r2]))
        | .lst true t2 es =>
          need (t2 == e) (need (decide ((es.length + news.length) * P.bytesOf e ≤ 140737488355328))
            (bif news.isEmpty then k x H else rowK { es := es ++ news, s := P.cellsOf e, t := e, bv := ty } fun r2 => k (.sl H.length (es.length + news.length) 0 (es.length + news.length)) (H ++ [r2])))
        | _ => none)
    | _, _ => none
  | _, _ => none
theorem appendK_some {P : Program} {ro : Nat} {H : List Row} {c : Call} {x y : PV} {k : PV → List Row → Option α} {r : α} (h : appendK P ro H c x y k = some r) : ∃ p H', appendQ P ro H c x y = some (p, H') ∧ k p H' = some r := by
  unfold appendK at h
  unfold appendQ
  split at h
  · rename_i T T2 h1 h2
    split at h
    · rename_i e e2 hu hu2
      obtain ⟨ty, t, news, hs, h⟩ := srcK_some h
      obtain ⟨hc, h⟩ := need_some h
      simp only [h1, h2, hu, hu2, hs]
      rw [if_pos hc]
      split at h
      · split at h
        · rename_i hr
          obtain ⟨g1, h⟩ := need_some h
          obtain ⟨g2, h⟩ := need_some h
          simp only [Bool.and_eq_true, decide_eq_true_eq] at g1
          rw [rowK_eq] at h
          simp only [hr]
          exact ⟨_, _, by rw [if_pos ⟨g1.1.1.1, g1.1.1.2, g1.1.2, g1.2⟩, if_pos g2], h⟩
        · cases h
      · obtain ⟨g1, h⟩ := need_some h
        rw [if_pos (by simpa using g1)]
        cases hn : news.isEmpty with
        | true => rw [hn] at h; exact ⟨_, _, by simp, h⟩
        | false => rw [hn] at h; simp only [cond_false, rowK_eq] at h; exact ⟨_, _, rfl, h⟩
      · obtain ⟨g0, h⟩ := need_some h
        obtain ⟨g1, h⟩ := need_some h
        dsimp only
        rw [if_pos g0, if_pos (by simpa using g1)]
        cases hn : news.isEmpty with
        | true => rw [hn] at h; exact ⟨_, _, rfl, h⟩
        | false => rw [hn] at h; simp only [cond_false, rowK_eq] at h; exact ⟨_, _, rfl, h⟩
      · cases h
    · cases h
  · cases h
end
end Go.Hx
/- Hx: the machine in continuations: calls, regions, code; it says no more than the machine. -/
namespace Go.Hx

abbrev ExK (α : Type) := Nat → FuncId → Code → List PV → List Row → (PX → List PV → List Row → Option α) → Option α

section
variable {α : Type}
def resAllK (P : Program) (S : List PV) (H : List Row) : List ResultVar → (List PV → Option α) → Option α
  | [], k => k []
  | .tmp t :: rs, k => resAllK P S H rs fun ps => k (S.getD t (.val undef) :: ps)
  | .cell a t :: rs, k => need (okPtr H (S.getD a (.val undef))) (loadK P H t (S.getD a (.val undef)) fun p => resAllK P S H rs fun ps => k (p :: ps))
theorem resAllK_some {P : Program} {S : List PV} {H : List Row} : ∀ {rs : List ResultVar} {k : List PV → Option α} {r : α}, resAllK P S H rs k = some r → ∃ ps, resAll P S H rs = some ps ∧ k ps = some r
  | [], k, r, h => ⟨[], rfl, h⟩
  | .tmp t :: rs, k, r, h => by
    obtain ⟨ps, h1, h2⟩ := resAllK_some (rs := rs) h
    exact ⟨_, by simp only [resAll, resOne, h1], h2⟩
  | .cell a t :: rs, k, r, h => by
    obtain ⟨g1, g2⟩ := need_some h
    obtain ⟨p, g3, g4⟩ := loadK_some g2
    obtain ⟨ps, h1, h2⟩ := resAllK_some (rs := rs) g4
    exact ⟨_, by simp only [resAll, resOne, h1]; rw [if_pos g1]; simp only [g3], h2⟩
def resK (P : Program) (fn : Func) (S : List PV) (H : List Row) (k : PV → Option α) : Option α :=
  resAllK P S H fn.results.toList fun ps => match ps with | [p] => k p | ps => k (.tup ps)
theorem resK_some {P : Program} {fn : Func} {S : List PV} {H : List Row} {k : PV → Option α} {r : α} (h : resK P fn S H k = some r) : ∃ p, resQ P fn S H = some p ∧ k p = some r := by
  obtain ⟨ps, h1, h2⟩ := resAllK_some h
  unfold resQ
  rw [h1]
  split at h2
  · exact ⟨_, rfl, h2⟩
  · rename_i hne
    refine ⟨.tup ps, ?_, h2⟩
    split
    · rename_i q hq; cases hq; exact absurd rfl (hne _)
    · rename_i hq; cases hq; rfl
    · rename_i hq; cases hq

def callXK (P : Program) (ex : ExK α) (ro : Nat) (f : FuncId) (args : List PV) (H : List Row) (k : PV → List Row → Option α) : Option α :=
  match P.funcs[f]? with
  | some fn =>
    match fn.body with
    | some b =>
      match fn.name == "runtime.NumGoroutine" with
      | true => none
      | false =>
        ex ro f b (args ++ List.replicate (fn.ntmps - args.length) (.val undef)) H fun x S' H' =>
          match x with
          | .exit _ => none
          | _ => resK P fn S' H' fun p => k p H'
    | none => none
  | none => none
def callIK (P : Program) (E : EnvK) (ex : ExK α) (ro : Nat) (f : FuncId) (args : List PV) (H : List Row) (k : PV → List Row → Option α) : Option α :=
  match E.cal ro f args H with
  | some d => d.go fun r => k r.1 r.2
  | none => callXK P ex ro f args H k
/-- What frz does, its questions outermost. -/
def frzK (H : List Row) (h : Nat) (p : PV) (k : PV → Option α) : Option α :=
  match p with
  | .sl i n m len =>
    bif decide (h ≤ i) then
      match rowAt H i with
      | some r => bif r.bv then need (r.es.length == n) (k (.lst false r.t ((r.es.drop m).take len))) else k (.sl i n m len)
      | none => k (.sl i n m len)
    else k (.sl i n m len)
  | p => k (frz H h p)
theorem frzK_some {H : List Row} {h : Nat} {p : PV} {k : PV → Option α} {r : α} (g : frzK H h p k = some r) : k (frz H h p) = some r := by
  unfold frzK at g
  split at g
  · rename_i i n m len
    rw [frz]
    by_cases hh : h ≤ i
    · rw [if_pos hh]
      rw [decide_eq_true hh, cond_true] at g
      cases hr : rowAt H i with
      | none => rw [hr] at g; exact g
      | some r0 =>
        rw [hr] at g
        dsimp only at g ⊢
        cases hb : r0.bv with
        | true =>
          rw [hb, cond_true] at g
          obtain ⟨g1, g2⟩ := need_some g
          rw [g1]
          exact g2
        | false => rw [hb] at g; exact g
    · rw [if_neg hh]
      rw [decide_eq_false hh, cond_false] at g
      exact g
  · exact g
def frzsK (H : List Row) (h : Nat) : List PV → (List PV → Option α) → Option α
  | [], k => k []
  | p :: ps, k => frzK H h p fun q => frzsK H h ps fun qs => k (q :: qs)
theorem frzsK_some {H : List Row} {h : Nat} : ∀ {ps : List PV} {k : List PV → Option α} {r : α}, frzsK H h ps k = some r → k (frzs H h ps) = some r
  | [], k, r, g => by rw [frzs]; exact g
  | p :: ps, k, r, g => by rw [frzs]; exact frzsK_some (ps := ps) (frzK_some g)
def oraK (r : PV) (as args : List PV) (k : PV → Option α) : Option α :=
  need (mlts 0 as && mlt 0 r && (plain r || mlts 0 args)) (k r)
def callGK (P : Program) (E : EnvK) (ex : ExK α) (ro : Nat) (f : FuncId) (args : List PV) (H : List Row) (k : PV → List Row → Option α) : Option α :=
  frzsK H 0 args fun as =>
  match E.orD f as with
  | some d => d.go fun r => oraK r as args fun p => k p H
  | none =>
  match E.ora f as with
  | some r => oraK r as args fun p => k p H
  | none => callIK P E ex ro f args H fun p H' =>
      bif E.keep f then k p H' else frzK H' H.length p fun q => need (mlt H.length q && rowsOk H.length (H'.take H.length)) (k q (H'.take H.length))
def callEK (P : Program) (E : EnvK) (ex : ExK α) (f : FuncId) (args : List PV) (H : List Row) (k : PV → Option α) : Option α :=
  need (mlts H.length args && rowsOk H.length H)
    (frzsK H 0 args fun as =>
    match E.orD f as with
    | some d => d.go fun r => oraK r as args k
    | none =>
    match E.ora f as with
    | some r => oraK r as args k
    | none => callIK P E ex H.length f args H fun p H' => frzK H' H.length p fun q => need (mlt H.length q) (k q))

def Ref (exK : ExK α) (ex : Ex) : Prop := ∀ ro f c S H (k : PX → List PV → List Row → Option α) r, exK ro f c S H k = some r → ∃ x S' H', ex ro f c S H = some (x, S', H') ∧ k x S' H' = some r

theorem callXK_some {P : Program} {exK : ExK α} {ex : Ex} (hr : Ref exK ex) {ro : Nat} {f : FuncId} {args : List PV} {H : List Row} {k : PV → List Row → Option α} {r : α} (h : callXK P exK ro f args H k = some r) :
    ∃ p H', callX P ex ro f args H = some (p, H') ∧ k p H' = some r := by
  unfold callXK at h
  split at h
  · rename_i fn hfn
    split at h
    · rename_i b hb
      split at h
      · cases h
      · rename_i hn
        obtain ⟨x, S', H', h1, h2⟩ := hr _ _ _ _ _ _ _ h
        have : x ≠ .exit (match x with | .exit i => i | _ => 0) ∧ resK P fn S' H' (fun p => k p H') = some r := by
          cases x with
          | exit i => cases h2
          | normal => exact ⟨by simp, h2⟩
          | ret => exact ⟨by simp, h2⟩
        obtain ⟨p, h3, h4⟩ := resK_some this.2
        refine ⟨p, H', ?_, h4⟩
        unfold callX
        simp only [hfn, hb]
        rw [if_neg (by simp [hn]), h1]
        cases x with
        | exit i => cases h2
        | normal => simp only [h3, Option.map_some]
        | ret => simp only [h3, Option.map_some]
    · cases h
  · cases h
theorem callIK_some {P : Program} {E : EnvK} {exK : ExK α} {ex : Ex} (hr : Ref exK ex) {ro : Nat} {f : FuncId} {args : List PV} {H : List Row} {k : PV → List Row → Option α} {r : α} (h : callIK P E exK ro f args H k = some r) :
    ∃ p H', callI P E.env ex ro f args H = some (p, H') ∧ k p H' = some r := by
  unfold callIK at h
  unfold callI EnvK.env
  dsimp only
  split at h
  · rename_i d hd
    obtain ⟨a, h1, h2⟩ := DT.go_some h
    rw [hd]
    simp only [Option.bind_some, h1]
    exact ⟨_, _, rfl, h2⟩
  · rename_i hd
    rw [hd]
    exact callXK_some hr h
theorem oraK_some {E : EnvK} {f : FuncId} {args : List PV} {H : List Row} {p : PV} {k : PV → Option α} {r : α} (ho : E.env.ora f (frzs H 0 args) = some p) (h : oraK p (frzs H 0 args) args k = some r) : callO E.env f args H = some p ∧ k p = some r := by
  obtain ⟨h1, h2⟩ := need_some h
  refine ⟨?_, h2⟩
  unfold callO
  rw [ho]
  dsimp only
  rw [if_pos h1]
theorem ora_of {E : EnvK} {f : FuncId} {a : List PV} {p : PV} (hd : E.orD f a = none) (h : E.ora f a = some p) : E.env.ora f a = some p := by
  show (match E.orD f a with | some d => d.run | none => E.ora f a) = _
  rw [hd]; exact h
theorem ora_orD {E : EnvK} {f : FuncId} {a : List PV} {p : PV} {d : DT PV} (hd : E.orD f a = some d) (h : d.run = some p) : E.env.ora f a = some p := by
  show (match E.orD f a with | some d => d.run | none => E.ora f a) = _
  rw [hd]; exact h
theorem ora_none {E : EnvK} {f : FuncId} {a : List PV} (hd : E.orD f a = none) (h : E.ora f a = none) : E.env.ora f a = none := by
  show (match E.orD f a with | some d => d.run | none => E.ora f a) = _
  rw [hd]; exact h
theorem callGK_some {P : Program} {E : EnvK} {exK : ExK α} {ex : Ex} (hr : Ref exK ex) {ro : Nat} {f : FuncId} {args : List PV} {H : List Row} {k : PV → List Row → Option α} {r : α} (h : callGK P E exK ro f args H k = some r) :
    ∃ p H', callG P E.env ex ro f args H = some (p, H') ∧ k p H' = some r := by
  unfold callGK at h
  replace h := frzsK_some h
  unfold callG
  split at h
  · rename_i d hd
    obtain ⟨p, g1, g2⟩ := DT.go_some h
    obtain ⟨h1, h2⟩ := oraK_some (ora_orD hd g1) g2
    rw [h1]
    exact ⟨_, _, rfl, h2⟩
  rename_i hd
  split at h
  · rename_i p hp
    obtain ⟨h1, h2⟩ := oraK_some (ora_of hd hp) h
    rw [h1]
    exact ⟨_, _, rfl, h2⟩
  · rename_i hn
    have : callO E.env f args H = none := by
      unfold callO
      rw [ora_none hd hn]
    rw [this]
    obtain ⟨p, H', h1, h2⟩ := callIK_some hr h
    simp only [h1]
    show ∃ q H2, (if E.keep f = true then some (p, H') else some (settle H.length p H')) = some (q, H2) ∧ _
    cases hk : E.keep f with
    | true => rw [hk] at h2; exact ⟨_, _, rfl, h2⟩
    | false =>
      rw [hk, cond_false] at h2
      obtain ⟨g1, g2⟩ := need_some (frzK_some h2)
      refine ⟨_, _, by rw [if_neg (by simp)]; simp only [settle]; rw [if_pos g1], g2⟩
theorem callEK_some {P : Program} {E : EnvK} {exK : ExK α} {ex : Ex} (hr : Ref exK ex) {f : FuncId} {args : List PV} {H : List Row} {k : PV → Option α} {r : α} (h : callEK P E exK f args H k = some r) :
    ∃ p, callE P E.env ex f args H = some p ∧ k p = some r := by
  obtain ⟨h0, h⟩ := need_some h
  replace h := frzsK_some h
  unfold callE
  rw [if_pos h0]
  split at h
  · rename_i d hd
    obtain ⟨p, g1, g2⟩ := DT.go_some h
    obtain ⟨h1, h2⟩ := oraK_some (ora_orD hd g1) g2
    rw [h1]
    exact ⟨_, rfl, h2⟩
  rename_i hd
  split at h
  · rename_i p hp
    obtain ⟨h1, h2⟩ := oraK_some (ora_of hd hp) h
    rw [h1]
    exact ⟨_, rfl, h2⟩
  · rename_i hn
    have : callO E.env f args H = none := by
      unfold callO
      rw [ora_none hd hn]
    rw [this]
    obtain ⟨p, H', h1, h2⟩ := callIK_some hr h
    obtain ⟨g1, g2⟩ := need_some (frzK_some h2)
    simp only [h1]
    exact ⟨_, by rw [if_pos g1], g2⟩

def yieldK (ex : ExK α) (ro i : Nat) (args : List PV) (H : List Row) (k : PV → List Row → Option α) : Option α :=
  match loopAt H i with
  | some ⟨kk, .ready⟩ =>
    need (decide (ro ≤ i) && args.length == kk.ps.size)
      (ex ro kk.f kk.asg (setPs kk.S0 kk.ps.toList args) H fun x S1 H1 =>
        match x with
        | .normal =>
          match loopAt H1 i, setSt H1 i .busy with
          | some ⟨_, .ready⟩, some H2 =>
            ex ro kk.f kk.body S1 H2 fun x _ H3 =>
              match x with
              | .normal => dflt (setSt H3 i .ready) fun H4 => k (.val (.bool true)) H4
              | .exit id => dflt (setSt H3 i (.done (.exit id))) fun H4 => k (.val (.bool false)) H4
              | .ret => dflt (setSt H3 i (.done .ret)) fun H4 => k (.val (.bool false)) H4
          | _, _ => none
        | _ => none)
  | _ => none
theorem yieldK_some {exK : ExK α} {ex : Ex} (hr : Ref exK ex) {ro i : Nat} {args : List PV} {H : List Row} {k : PV → List Row → Option α} {r : α} (h : yieldK exK ro i args H k = some r) :
    ∃ b H', yieldQ ex ro i args H = some (b, H') ∧ k (.val (.bool b)) H' = some r := by
  unfold yieldK at h
  unfold yieldQ
  split at h
  · rename_i kk hk
    rw [hk]
    obtain ⟨h1, h2⟩ := need_some h
    dsimp only
    rw [if_pos h1]
    obtain ⟨x, S1, H1, h3, h4⟩ := hr _ _ _ _ _ _ _ h2
    rw [h3]
    split at h4
    · dsimp only
      split at h4
      · rename_i H2 hl hs
        rw [hl, hs]
        obtain ⟨x, S3, H3, h5, h6⟩ := hr _ _ _ _ _ _ _ h4
        dsimp only
        rw [h5]
        cases x with
        | normal =>
          obtain ⟨H4, h7, h8⟩ := dflt_some h6
          simp only [jumpOf, h7, Option.map_some]
          exact ⟨_, _, rfl, h8⟩
        | exit id =>
          obtain ⟨H4, h7, h8⟩ := dflt_some h6
          simp only [jumpOf, h7, Option.map_some]
          exact ⟨_, _, rfl, h8⟩
        | ret =>
          obtain ⟨H4, h7, h8⟩ := dflt_some h6
          simp only [jumpOf, h7, Option.map_some]
          exact ⟨_, _, rfl, h8⟩
      · cases h4
    · cases h4
  · cases h
def overK (S : List PV) (i : Nat) (H : List Row) (k : PX → List PV → List Row → Option α) : Option α :=
  match loopAt H i, setSt H i .over with
  | some ⟨_, .ready⟩, some H' => k .normal S H'
  | some ⟨_, .done .ret⟩, some H' => k .ret S H'
  | some ⟨_, .done (.exit id)⟩, some H' => k (.exit id) S H'
  | _, _ => none
theorem overK_some {S : List PV} {i : Nat} {H : List Row} {k : PX → List PV → List Row → Option α} {r : α} (h : overK S i H k = some r) : ∃ x S' H', overQ S i H = some (x, S', H') ∧ k x S' H' = some r := by
  unfold overK at h
  unfold overQ
  split at h
  · rename_i h1 h2; rw [h1, h2]; exact ⟨_, _, _, rfl, h⟩
  · rename_i h1 h2; rw [h1, h2]; exact ⟨_, _, _, rfl, h⟩
  · rename_i h1 h2; rw [h1, h2]; exact ⟨_, _, _, rfl, h⟩
  · cases h

def stepK (P : Program) (E : EnvK) (ex : ExK α) (ro : Nat) (S : List PV) (H : List Row) (o : Oper) (k : PV → List Row → Option α) : Option α :=
  popK P H (ev S) o.op (fun p => k p H) (newK P H (ev S) o.op (fun p r => k p (H ++ [r]))
    (match o.op with
      | .store T a x => storeK P ro H T (ev S a) (ev S x) fun H' => k (.val undef) H'
      | .call c =>
        match c.callee with
        | .builtin .append => match c.args.toList with | [x, y] => appendK P ro H c (ev S x) (ev S y) k | _ => none
        | .value g => match ev S g with | .fn (.func f) first cap => callGK P E ex ro f (first ++ c.args.toList.map (ev S) ++ cap) H k | .yld i => yieldK ex ro i (c.args.toList.map (ev S)) H k | _ => none
        | _ => none
      | _ => none))
theorem stepK_some {P : Program} {E : EnvK} {exK : ExK α} {ex : Ex} (hr : Ref exK ex) {ro : Nat} {S : List PV} {H : List Row} {o : Oper} {k : PV → List Row → Option α} {r : α} (h : stepK P E exK ro S H o k = some r) :
    ∃ p H', stepS P E.env ex ro S H o = some (p, H') ∧ k p H' = some r := by
  unfold stepK at h
  unfold stepS
  rcases popK_some h with ⟨p, h1, h2⟩ | ⟨h1, h⟩
  · exact ⟨p, H, by rw [h1], h2⟩
  · rw [h1]
    rcases newK_some h with ⟨p, rw', h3, h4⟩ | ⟨h3, h⟩
    · exact ⟨p, _, by rw [h3], h4⟩
    · rw [h3]
      dsimp only
      split at h
      · rename_i hop
        simp only [hop]
        obtain ⟨H', h5, h6⟩ := storeK_some h
        exact ⟨_, _, by rw [h5]; rfl, h6⟩
      · rename_i c hop
        simp only [hop]
        split at h
        · rename_i hc
          simp only [hc]
          split at h
          · rename_i x y ha
            simp only [ha]
            exact appendK_some h
          · cases h
        · rename_i g hc
          simp only [hc]
          split at h
          · rename_i f first cap hg
            simp only [hg]
            exact callGK_some hr h
          · rename_i i hg
            simp only [hg]
            obtain ⟨b, H', h5, h6⟩ := yieldK_some hr h
            exact ⟨_, _, by rw [h5]; rfl, h6⟩
          · cases h
        · cases h
      · cases h

def stepEK (P : Program) (E : EnvK) (ex : ExK α) (S : List PV) (H : List Row) (o : Oper) (k : PV → List Row → Option α) : Option α :=
  popK P H (ev S) o.op (fun p => k p H) (newK P H (ev S) o.op (fun p r => k p (H ++ [r]))
    (match o.op with
      | .call c =>
        match c.callee with
        | .value g => match ev S g with | .fn (.func f) first cap => callEK P E ex f (first ++ c.args.toList.map (ev S) ++ cap) H fun p => k p H | _ => none
        | _ => none
      | _ => none))
theorem stepEK_some {P : Program} {E : EnvK} {exK : ExK α} {ex : Ex} (hr : Ref exK ex) {S : List PV} {H : List Row} {o : Oper} {k : PV → List Row → Option α} {r : α} (h : stepEK P E exK S H o k = some r) :
    ∃ p H', stepE P E.env ex S H o = some (p, H') ∧ k p H' = some r := by
  unfold stepEK at h
  unfold stepE
  rcases popK_some h with ⟨p, h1, h2⟩ | ⟨h1, h⟩
  · exact ⟨p, H, by rw [h1], h2⟩
  · rw [h1]
    rcases newK_some h with ⟨p, rw', h3, h4⟩ | ⟨h3, h⟩
    · exact ⟨p, _, by rw [h3], h4⟩
    · rw [h3]
      dsimp only
      split at h
      · rename_i c hop
        simp only [hop]
        split at h
        · rename_i g hc
          simp only [hc]
          split at h
          · rename_i f first cap hg
            simp only [hg]
            obtain ⟨p, h5, h6⟩ := callEK_some hr h
            exact ⟨p, H, by rw [h5]; rfl, h6⟩
          · cases h
        · cases h
      · cases h

def guardK (ops : Array Oper) (S : List PV) (o : Oper) (k : Bool → List PV → Option α) : Option α :=
  match o.guard with
  | none => k true S
  | some (j, want) =>
    match (ops[j]?).bind (·.dst) with
    | none => k false S
    | some d =>
      match S[d]? with
      | none => k false S
      | some (.val (.bool t)) => bif t then k want (S.set d (.val (.bool true))) else k (!want) (S.set d (.val (.bool false)))
      | some (.val _) => k false S
      | some _ => none
theorem guardK_some {ops : Array Oper} {S : List PV} {o : Oper} {k : Bool → List PV → Option α} {r : α} (h : guardK ops S o k = some r) : ∃ b S1, guardQ ops S o = some (b, S1) ∧ k b S1 = some r := by
  unfold guardK at h
  unfold guardQ
  split at h
  · rename_i hg; rw [hg]; exact ⟨_, _, rfl, h⟩
  · rename_i j want hg
    rw [hg]
    dsimp only
    split at h
    · rename_i hd; rw [hd]; exact ⟨_, _, rfl, h⟩
    · rename_i d hd
      rw [hd]
      dsimp only
      split at h
      · rename_i hs; rw [hs]; exact ⟨_, _, rfl, h⟩
      · rename_i t hs
        rw [hs]
        cases t
        · exact ⟨_, _, rfl, h⟩
        · exact ⟨_, _, rfl, h⟩
      · rename_i v hv hs
        rw [hs]
        refine ⟨false, S, ?_, h⟩
        cases v <;> first | rfl | exact absurd rfl (hv _)
      · cases h

def opsK (step : List PV → List Row → Oper → (PV → List Row → Option α) → Option α) (ops : Array Oper) : List Oper → List PV → List Row → (List PV → List Row → Option α) → Option α
  | [], S, H, k => k S H
  | o :: os, S, H, k => guardK ops S o fun w S1 =>
    match w with
    | true => step S1 H o fun p H1 => opsK step ops os (putS S1 o.dst p) H1 k
    | false => opsK step ops os (putS S1 o.dst (.val undef)) H k
theorem opsK_some {stK : List PV → List Row → Oper → (PV → List Row → Option α) → Option α} {st : List PV → List Row → Oper → Option (PV × List Row)}
    (hst : ∀ S H o k r, stK S H o k = some r → ∃ p H', st S H o = some (p, H') ∧ k p H' = some r) {ops : Array Oper} :
    ∀ {os : List Oper} {S : List PV} {H : List Row} {k : List PV → List Row → Option α} {r : α}, opsK stK ops os S H k = some r → ∃ S' H', opsQ st ops os S H = some (S', H') ∧ k S' H' = some r
  | [], S, H, k, r, h => ⟨S, H, rfl, h⟩
  | o :: os, S, H, k, r, h => by
    obtain ⟨w, S1, h1, h2⟩ := guardK_some h
    simp only [opsQ, h1]
    cases w with
    | true =>
      obtain ⟨p, H1, h3, h4⟩ := hst _ _ _ _ _ h2
      simp only [h3]
      exact opsK_some hst (os := os) h4
    | false => exact opsK_some hst (os := os) h2

def stepXK (P : Program) (E : EnvK) (ex : ExK α) (K : List Nat) (S : List PV) (H : List Row) (o : Oper) (k : PV → List Row → Option α) : Option α :=
  match K with
  | [] => stepEK P E ex S H o k
  | x :: K => popK P (kill (x :: K) H) (ev S) o.op (fun p => k p H) (newK P H (ev S) o.op (fun p r => k p (H ++ [r])) none)
theorem stepXK_some {P : Program} {E : EnvK} {exK : ExK α} {ex : Ex} (hr : Ref exK ex) {K : List Nat} {S : List PV} {H : List Row} {o : Oper} {k : PV → List Row → Option α} {r : α} (h : stepXK P E exK K S H o k = some r) :
    ∃ p H', stepX P E.env ex K S H o = some (p, H') ∧ k p H' = some r := by
  cases K with
  | nil => exact stepEK_some hr h
  | cons x K =>
    unfold stepXK at h
    unfold stepX
    rcases popK_some h with ⟨p, h1, h2⟩ | ⟨h1, h⟩
    · exact ⟨p, H, by simp only [h1], h2⟩
    · rcases newK_some h with ⟨p, rw', h3, h4⟩ | ⟨h3, h⟩
      · exact ⟨p, _, by simp only [h1, h3]; rfl, h4⟩
      · cases h
def stepMEK (P : Program) (E : EnvK) (ex : ExK α) (W R K : List Nat) (S : List PV) (H : List Row) (o : Oper) (k : PV → List Row → Option α) : Option α :=
  stepXK P E ex K S (poison R H) o fun p H1 =>
    match H1.drop H.length with
    | [] => k p H
    | [r] => need (W.contains H.length && !R.contains H.length) (k p (H ++ [r]))
    | _ => none
theorem stepMEK_some {P : Program} {E : EnvK} {exK : ExK α} {ex : Ex} (hr : Ref exK ex) {W R K : List Nat} {S : List PV} {H : List Row} {o : Oper} {k : PV → List Row → Option α} {r : α} (h : stepMEK P E exK W R K S H o k = some r) :
    ∃ p H', stepME P E.env ex W R K S H o = some (p, H') ∧ k p H' = some r := by
  obtain ⟨p, H1, h1, h2⟩ := stepXK_some hr h
  unfold stepME
  rw [h1]
  dsimp only
  split at h2
  · rename_i hd; rw [hd]; exact ⟨_, _, rfl, h2⟩
  · rename_i hd
    rw [hd]
    obtain ⟨h3, h4⟩ := need_some h2
    dsimp only
    rw [if_pos h3]
    exact ⟨_, _, rfl, h4⟩
  · cases h2
def stepMK (P : Program) (E : EnvK) (ex : ExK α) (ro : Nat) (W R K G : List Nat) (S : List PV) (H : List Row) (o : Oper) (k : PV → List Row → Option α) : Option α :=
  match o.op with
  | .store T a x =>
    match ev S a with
    | .ptr i n q j => need (W.contains i && !R.contains i) (storeK P ro H T (.ptr i n q j) (ev S x) fun H' => k (.val undef) H')
    | _ => none
  | _ =>
    match wcallQ S o.op with
    | some (f, args) =>
      match wRows E.pure f args with
      | [] => stepMEK P E ex W R K S H o k
      | K =>
        need (K.all (fun x => W.contains x && !R.contains x) && args.all (argOk H.length) && decide (ro ≤ H.length) && rowsOk 0 (maskH K H))
          (callIK P E ex ro f args (maskH K H) fun p H' => need (plain p && rowsOk 0 (maskH K (H'.take H.length)) && shpsB K H H') (k p (backH K H H')))
    | none =>
      match growQ S o.op with
      | some (c, i, x, y) => need (W.contains i && !R.contains i && G.contains i && srcFree R y) (appendK P ro H c x y k)
      | none => stepMEK P E ex W R K S H o k
theorem stepMK_some {P : Program} {E : EnvK} {exK : ExK α} {ex : Ex} (hr : Ref exK ex) {ro : Nat} {W R K G : List Nat} {S : List PV} {H : List Row} {o : Oper} {k : PV → List Row → Option α} {r : α} (h : stepMK P E exK ro W R K G S H o k = some r) :
    ∃ p H', stepM P E.env ex ro W R K G S H o = some (p, H') ∧ k p H' = some r := by
  unfold stepMK at h
  unfold stepM
  split at h
  · rename_i hop
    simp only [hop]
    split at h
    · rename_i ha
      simp only [ha]
      obtain ⟨h1, h2⟩ := need_some h
      rw [if_pos h1]
      obtain ⟨H', h3, h4⟩ := storeK_some h2
      exact ⟨_, _, by rw [h3]; rfl, h4⟩
    · cases h
  · rename_i hno
    have key : (∃ p H', (match wcallQ S o.op with
        | some (f, args) =>
          match wRows E.pure f args with
          | [] => stepME P E.env ex W R K S H o
          | K =>
            if K.all (fun x => W.contains x && !R.contains x) && args.all (argOk H.length) && decide (ro ≤ H.length) && rowsOk 0 (maskH K H) then
              match callI P E.env ex ro f args (maskH K H) with
              | some (p, H') => if plain p && rowsOk 0 (maskH K (H'.take H.length)) && shpsB K H H' then some (p, backH K H H') else none
              | none => none
            else none
        | none =>
          match growQ S o.op with
          | some (c, i, x, y) => if W.contains i && !R.contains i && G.contains i && srcFree R y then appendQ P ro H c x y else none
          | none => stepME P E.env ex W R K S H o) = some (p, H') ∧ k p H' = some r) := by
      split at h
      · rename_i f args hw
        try rw [hw]
        try dsimp only
        split at h
        · rename_i hp
          try rw [hp]
          exact stepMEK_some hr h
        · rename_i hne
          obtain ⟨h1, h2⟩ := need_some h
          obtain ⟨p, H', h3, h4⟩ := callIK_some hr h2
          obtain ⟨h5, h6⟩ := need_some h4
          rw [if_pos h1, h3]
          dsimp only
          rw [if_pos h5]
          exact ⟨_, _, rfl, h6⟩
      · rename_i hw
        try rw [hw]
        try dsimp only
        split at h
        · rename_i hg
          try rw [hg]
          try dsimp only
          obtain ⟨h1, h2⟩ := need_some h
          rw [if_pos h1]
          exact appendK_some h2
        · rename_i hg
          try rw [hg]
          exact stepMEK_some hr h
    obtain ⟨p, H', h1, h2⟩ := key
    refine ⟨p, H', ?_, h2⟩
    split
    · rename_i hop; exact absurd hop (hno _ _ _)
    · exact h1
def stepsMK (P : Program) (E : EnvK) (ex : ExK α) (ro : Nat) (W G : List (List Nat)) (m : List Nat) (n j : Nat) : List PV → List Row → Oper → (PV → List Row → Option α) → Option α :=
  stepMK P E ex ro (W.getD j []) (confl W m n j) (confl G m n j) (G.getD j [])
def stepPK (P : Program) (E : EnvK) (ex : ExK α) (S : List PV) (H : List Row) (o : Oper) (k : PV → List Row → Option α) : Option α :=
  stepEK P E ex S H o fun p H1 => match Nat.beq H1.length H.length with | true => k p H | false => none
theorem stepPK_some {P : Program} {E : EnvK} {exK : ExK α} {ex : Ex} (hr : Ref exK ex) {S : List PV} {H : List Row} {o : Oper} {k : PV → List Row → Option α} {r : α} (h : stepPK P E exK S H o k = some r) :
    ∃ p H', stepP P E.env ex S H o = some (p, H') ∧ k p H' = some r := by
  obtain ⟨p, H1, h1, h2⟩ := stepEK_some hr h
  unfold stepP
  rw [h1]
  dsimp only
  split at h2
  · rename_i hb
    rw [if_pos (Nat.eq_of_beq_eq_true hb)]
    exact ⟨_, _, rfl, h2⟩
  · cases h2
def stepsPK (P : Program) (E : EnvK) (ex : ExK α) (ro pv j : Nat) (S : List PV) (H : List Row) (o : Oper) (k : PV → List Row → Option α) : Option α :=
  match Nat.beq j pv with
  | true => stepK P E ex ro S H o k
  | false => stepPK P E ex S H o k
theorem stepsPK_some {P : Program} {E : EnvK} {exK : ExK α} {ex : Ex} (hr : Ref exK ex) {ro pv j : Nat} {S : List PV} {H : List Row} {o : Oper} {k : PV → List Row → Option α} {r : α} (h : stepsPK P E exK ro pv j S H o k = some r) :
    ∃ p H', stepsP P E.env ex ro pv j S H o = some (p, H') ∧ k p H' = some r := by
  unfold stepsPK at h
  unfold stepsP
  split at h
  · rename_i hb
    rw [if_pos (Nat.eq_of_beq_eq_true hb)]
    exact stepK_some hr h
  · rename_i hb
    rw [if_neg (Nat.ne_of_beq_eq_false hb)]
    exact stepPK_some hr h
def opsJK (step : Nat → List PV → List Row → Oper → (PV → List Row → Option α) → Option α) (ops : Array Oper) : Nat → List Oper → List PV → List Row → (List PV → List Row → Option α) → Option α
  | _, [], S, H, k => k S H
  | j, o :: os, S, H, k => guardK ops S o fun w S1 =>
    match w with
    | true => step j S1 H o fun p H1 => opsJK step ops (j + 1) os (putS S1 o.dst p) H1 k
    | false => opsJK step ops (j + 1) os (putS S1 o.dst (.val undef)) H k
theorem opsJK_some {stK : Nat → List PV → List Row → Oper → (PV → List Row → Option α) → Option α} {st : Nat → List PV → List Row → Oper → Option (PV × List Row)}
    (hst : ∀ j S H o k r, stK j S H o k = some r → ∃ p H', st j S H o = some (p, H') ∧ k p H' = some r) {ops : Array Oper} :
    ∀ {os : List Oper} {j : Nat} {S : List PV} {H : List Row} {k : List PV → List Row → Option α} {r : α}, opsJK stK ops j os S H k = some r → ∃ S' H', opsJ st ops j os S H = some (S', H') ∧ k S' H' = some r
  | [], j, S, H, k, r, h => ⟨S, H, rfl, h⟩
  | o :: os, j, S, H, k, r, h => by
    obtain ⟨w, S1, h1, h2⟩ := guardK_some h
    simp only [opsJ, h1]
    cases w with
    | true =>
      obtain ⟨p, H1, h3, h4⟩ := hst _ _ _ _ _ _ h2
      simp only [h3]
      exact opsJK_some hst (os := os) h4
    | false => exact opsJK_some hst (os := os) h2

def iterK (body : List PV → List Row → (PX → List PV → List Row → Option α) → Option α) (live : Option (List Tmp)) (ro : Nat) : Nat → List PV → List Row → (PX → List PV → List Row → Option α) → Option α
  | 0, _, _, _ => none
  | m + 1, S, H, k =>
    body (keepS live S) H fun x S1 H1 =>
      match x with
      | .normal => bif mlts H.length (keepS live S1) && decide (H.length ≤ H1.length) && rowsOk H.length (H1.take H.length) && decide (ro ≤ H.length) then iterK body live ro m (trimS H.length (keepS live S1)) (H1.take H.length) k
        else iterK body live ro m (keepS live S1) H1 k
      | .exit i => k (.exit i) S1 H1
      | .ret => k .ret S1 H1
theorem iterK_some {bK : List PV → List Row → (PX → List PV → List Row → Option α) → Option α} {b : List PV → List Row → Option (PX × List PV × List Row)}
    (hb : ∀ S H k r, bK S H k = some r → ∃ x S' H', b S H = some (x, S', H') ∧ k x S' H' = some r) {live : Option (List Tmp)} {ro : Nat} :
    ∀ {m : Nat} {S : List PV} {H : List Row} {k : PX → List PV → List Row → Option α} {r : α}, iterK bK live ro m S H k = some r → ∃ x S' H', iterQ b live ro m S H = some (x, S', H') ∧ k x S' H' = some r
  | 0, _, _, _, _, h => by cases h
  | m + 1, S, H, k, r, h => by
    obtain ⟨x, S1, H1, h1, h2⟩ := hb _ _ _ _ h
    simp only [iterQ, h1]
    cases x with
    | normal =>
      dsimp only at h2 ⊢
      split
      · rename_i g1
        rw [g1] at h2
        exact iterK_some hb (m := m) h2
      · rename_i g1
        rw [Bool.not_eq_true] at g1
        rw [g1] at h2
        exact iterK_some hb (m := m) h2
    | exit i => exact ⟨_, _, _, rfl, h2⟩
    | ret => exact ⟨_, _, _, rfl, h2⟩

/-- What was asked is known from there on. -/
def setC (S : List PV) (c : Operand) (b : Bool) : List PV := match c with | .tmp d => S.set d (.val (.bool b)) | _ => S
theorem setC_same {S : List PV} {c : Operand} {b : Bool} (h : ev S c = .val (.bool b)) : setC S c b = S := by
  cases c with
  | tmp d =>
    show S.set d (.val (.bool b)) = S
    have h' : S.getD d (.val undef) = .val (.bool b) := h
    apply List.ext_getElem?
    intro i
    rw [List.getElem?_set]
    split
    · rename_i e; subst e
      split
      · rename_i hl
        rw [← h']
        simp [List.getD, List.getElem?_eq_getElem hl]
      · rename_i hl; exact (List.getElem?_eq_none (by omega)).symm
    · rfl
  | _ => rfl

def execK (P : Program) (E : EnvK) : Nat → ExK α
  | 0 => fun _ _ _ _ _ _ => none
  | n + 1 => fun ro f c S H k =>
    match c with
    | .skip => k .normal S H
    | .label _ => k .normal S H
    | .region _ ops draw =>
      match draw with
      | true =>
        match drawOk P ops.toList with
        | true =>
          match pivot ops.toList S with
          | some pv =>
            match pivotOk (masks ops.toList []) ops.size pv with
            | true => opsJK (stepsPK P E (execK P E n) ro pv) ops 0 ops.toList S H fun S' H' => k .normal S' H'
            | false => none
          | none =>
            match mixed (guessW E.pure S ops.toList H.length) with
            | true => opsJK (stepsMK P E (execK P E n) ro ((guessW E.pure S ops.toList H.length).map fun x => x.2.1) ((guessW E.pure S ops.toList H.length).map fun x => x.2.2) (masks ops.toList []) ops.size) ops 0 ops.toList S H fun S' H' => k .normal S' H'
            | false => opsK (stepEK P E (execK P E n)) ops ops.toList S H fun S' H' => k .normal S' H'
        | false => none
      | false => opsK (stepK P E (execK P E n) ro) ops ops.toList S H fun S' H' => k .normal S' H'
    | .seq a b => execK P E n ro f a S H fun x S1 H1 =>
      match x with
      | .normal => execK P E n ro f b S1 H1 k
      | .exit i => k (.exit i) S1 H1
      | .ret => k .ret S1 H1
    | .cond c x y =>
      match ev S c with
      | .val (.bool t) => bif t then execK P E n ro f x (setC S c true) H k else execK P E n ro f y (setC S c false) H k
      | _ => none
    | .block id b => execK P E n ro f b S H fun x S1 H1 =>
      match x with
      | .exit i => bif decide (i = id) then k .normal S1 H1 else k (.exit i) S1 H1
      | .normal => k .normal S1 H1
      | .ret => k .ret S1 H1
    | .loop b =>
      match nilsQ (E.nils f (rid b)) S H with
      | (S0, H0) =>
        match E.lo f ro (rid b) (keepS (E.live f (rid b)) S0) H0 with
        | some d => d.go fun r => k r.1 r.2.1 r.2.2
        | none => iterK (execK P E n ro f b) (E.live f (rid b)) ro n S0 H0 k
    | .scope b => execK P E n ro f b S H k
    | .exit id => k (.exit id) S H
    | .ret => k .ret S H
    | .rangeFunc g ps asg body =>
      match keepS (E.live f (rid asg)) S with
      | S0 =>
        match ev S0 g with
        | .fn (.func kf) first cap => callIK P E (execK P E n) ro kf (first ++ [.yld H.length] ++ cap) (H ++ [loopRow f S0 ps asg body]) fun _ H2 => overK S0 H.length H2 k
        | _ => none
    | _ => none

theorem execK_ref {P : Program} {E : EnvK} : ∀ n, Ref (α := α) (execK P E n) (exec P E.env n)
  | 0 => fun _ _ _ _ _ _ _ h => by cases h
  | n + 1 => fun ro f c S H k r h => by
    have ih := execK_ref (P := P) (E := E) n
    cases c <;> simp only [execK, reduceCtorEq] at h
    case skip => exact ⟨_, _, _, rfl, h⟩
    case label => exact ⟨_, _, _, rfl, h⟩
    case region id ops draw =>
      split at h
      · rename_i hdr
        split at h
        · rename_i hok
          split at h
          · rename_i pv hpn
            split at h
            · rename_i hpo
              obtain ⟨S', H', h1, h2⟩ := opsJK_some (stK := stepsPK P E (execK P E n) ro pv) (st := stepsP P E.env (exec P E.env n) ro pv) (fun j S1 H1 o k r h => stepsPK_some ih h) h
              exact ⟨_, _, _, by simp only [exec]; rw [if_pos trivial, if_pos hok]; simp only [hpn]; rw [if_pos hpo, h1]; rfl, h2⟩
            · cases h
          · rename_i hpn
            split at h
            · rename_i hm
              obtain ⟨S', H', h1, h2⟩ := opsJK_some (stK := stepsMK P E (execK P E n) ro ((guessW E.pure S ops.toList H.length).map (fun x : Bool × List Nat × List Nat => x.2.1)) ((guessW E.pure S ops.toList H.length).map (fun x : Bool × List Nat × List Nat => x.2.2)) (masks ops.toList []) ops.size) (st := stepsM P E.env (exec P E.env n) ro ((guessW E.env.pure S ops.toList H.length).map (fun x : Bool × List Nat × List Nat => x.2.1)) ((guessW E.env.pure S ops.toList H.length).map (fun x : Bool × List Nat × List Nat => x.2.2)) (masks ops.toList []) ops.size) (fun j S1 H1 o k r (h : stepMK P E (execK P E n) ro _ _ _ _ S1 H1 o k = some r) => stepMK_some ih h) h
              exact ⟨_, _, _, by simp only [exec]; rw [if_pos trivial, if_pos hok]; simp only [hpn]; rw [if_pos (show mixed (guessW E.env.pure S ops.toList H.length) = true from hm), h1]; rfl, h2⟩
            · rename_i hm
              obtain ⟨S', H', h1, h2⟩ := opsK_some (st := stepE P E.env (exec P E.env n)) (fun S H o k r h => stepEK_some ih h) h
              exact ⟨_, _, _, by simp only [exec]; rw [if_pos trivial, if_pos hok]; simp only [hpn]; rw [if_neg (show ¬ mixed (guessW E.env.pure S ops.toList H.length) = true from by rw [show mixed (guessW E.env.pure S ops.toList H.length) = false from hm]; simp), h1]; rfl, h2⟩
        · cases h
      · rename_i hdr
        obtain ⟨S', H', h1, h2⟩ := opsK_some (st := stepS P E.env (exec P E.env n) ro) (fun S H o k r h => stepK_some ih h) h
        exact ⟨_, _, _, by simp only [exec]; rw [if_neg (by simp), h1]; rfl, h2⟩
    case seq a b =>
      obtain ⟨x, S1, H1, h1, h2⟩ := ih _ _ _ _ _ _ _ h
      simp only [exec, h1]
      cases x with
      | normal => exact ih _ _ _ _ _ _ _ h2
      | exit i => exact ⟨_, _, _, rfl, h2⟩
      | ret => exact ⟨_, _, _, rfl, h2⟩
    case cond c x y =>
      split at h
      · rename_i t ht
        simp only [exec, ht]
        cases t
        · simp only [cond_false, setC_same ht] at h; exact ih _ _ _ _ _ _ _ h
        · simp only [cond_true, setC_same ht] at h; exact ih _ _ _ _ _ _ _ h
      · cases h
    case block id b =>
      obtain ⟨x, S1, H1, h1, h2⟩ := ih _ _ _ _ _ _ _ h
      simp only [exec, h1]
      cases x with
      | normal => exact ⟨_, _, _, rfl, h2⟩
      | ret => exact ⟨_, _, _, rfl, h2⟩
      | exit i =>
        dsimp only at h2 ⊢
        by_cases hi : i = id
        · rw [if_pos hi]; simp only [hi, decide_true, cond_true] at h2; exact ⟨_, _, _, rfl, h2⟩
        · rw [if_neg hi]; simp only [hi, decide_false, cond_false] at h2; exact ⟨_, _, _, rfl, h2⟩
    case loop b =>
      simp only [exec]
      show ∃ x S' H', (match (E.lo f ro (rid b) (keepS (E.live f (rid b)) (nilsQ (E.nils f (rid b)) S H).1) (nilsQ (E.nils f (rid b)) S H).2).bind DT.run with | some r => some r | none => iterQ (exec P E.env n ro f b) (E.live f (rid b)) ro n (nilsQ (E.nils f (rid b)) S H).1 (nilsQ (E.nils f (rid b)) S H).2) = some (x, S', H') ∧ _
      generalize nilsQ (E.nils f (rid b)) S H = SH at h ⊢
      obtain ⟨S0, H0⟩ := SH
      dsimp only at h ⊢
      split at h
      · rename_i d hd
        obtain ⟨a, h1, h2⟩ := DT.go_some h
        rw [hd]
        simp only [Option.bind_some, h1]
        exact ⟨_, _, _, rfl, h2⟩
      · rename_i hd
        rw [hd]
        exact iterK_some (fun S H k r h => ih _ _ _ _ _ _ _ h) h
    case scope b => exact ih _ _ _ _ _ _ _ h
    case exit id => exact ⟨_, _, _, rfl, h⟩
    case ret => exact ⟨_, _, _, rfl, h⟩
    case rangeFunc g ps asg body =>
      split at h
      · rename_i kf first cap hg
        simp only [exec]
        rw [show E.env.live = E.live from rfl, hg]
        obtain ⟨p, H2, h1, h2⟩ := callIK_some ih h
        simp only [h1]
        exact overK_some h2
      · cases h
end

/-- What a call by value comes to. -/
def runP (P : Program) (E : EnvK) (n : Nat) (f : FuncId) (args : List PV) : Option PV :=
  need (mlts 0 args) (callXK P (execK P E n) 0 f args [] fun p H' => frzK H' 0 p fun q => need (mlt 0 q) (some q))
/-- What a call comes to, on rows. -/
def runR (P : Program) (E : EnvK) (n : Nat) (ro : Nat) (f : FuncId) (args : List PV) (H : List Row) : Option (PV × List Row) :=
  callXK P (execK P E n) ro f args H fun p H' => some (p, H')
/-- What code comes to. -/
def runC (P : Program) (E : EnvK) (n : Nat) (ro : Nat) (f : FuncId) (c : Code) (S : List PV) (H : List Row) : Option (PX × List PV × List Row) :=
  execK P E n ro f c S H fun x S' H' => some (x, S', H')

theorem runC_sound {P : Program} {E : EnvK} (hE : EnvOK P E.env) {n ro : Nat} {f : FuncId} {c : Code} {S S' : List PV} {H H' : List Row} {x : PX} (h : runC P E n ro f c S H = some (x, S', H')) (hl : SubCode P f c) : WpTo P c ro S H x S' H' := by
  obtain ⟨x1, S1, H1, h1, h2⟩ := execK_ref n _ _ _ _ _ _ _ h
  cases h2
  exact exec_ok hE n _ _ _ _ _ _ _ _ h1 hl
theorem runR_sound {P : Program} {E : EnvK} (hE : EnvOK P E.env) {n ro : Nat} {f : FuncId} {args : List PV} {H H' : List Row} {p : PV} (h : runR P E n ro f args H = some (p, H')) : Enters P f ∧ RCall P ro f args H p H' := by
  obtain ⟨q, H1, h1, h2⟩ := callXK_some (execK_ref n) h
  cases h2
  refine ⟨?_, fun C hH hro hR Vs hv => ?_⟩
  · intro Vs w
    unfold callX at h1
    split at h1
    · rename_i fn hfn
      split at h1
      · rename_i b hb
        split at h1
        · cases h1
        · rename_i hn; simp [callFunc, hfn, hb]; simpa using hn
      · cases h1
    · cases h1
  · subst hH
    exact (callX_sound hE (exec_ok hE n) hR hro hv h1).2
theorem callX_enters {P : Program} {ex : Ex} {ro : Nat} {f : FuncId} {args : List PV} {H H' : List Row} {p : PV} (h1 : callX P ex ro f args H = some (p, H')) : Enters P f := by
  intro Vs w
  unfold callX at h1
  split at h1
  · rename_i fn hfn
    split at h1
    · rename_i b hb
      split at h1
      · cases h1
      · rename_i hn; simp [callFunc, hfn, hb]; simpa using hn
    · cases h1
  · cases h1
theorem runP_sound {P : Program} {E : EnvK} (hE : EnvOK P E.env) {n : Nat} {f : FuncId} {args : List PV} {p : PV} (h : runP P E n f args = some p) : Enters P f ∧ PCall P f args p := by
  obtain ⟨hm, h⟩ := need_some h
  obtain ⟨q, H2, hI, h2⟩ := callXK_some (execK_ref n) h
  obtain ⟨hq, h2⟩ := need_some (frzK_some h2)
  cases h2
  refine ⟨callX_enters hI, fun C hR Vs hv => ?_⟩
  have hRc : RH P (C.cut 0 True 0) := hR.cut (Nat.zero_le _) (Nat.le_refl _) (by simp [rowsOk])
  have hvc : Cs P (C.cut 0 True 0) args Vs := ⟨hv.1, fun j c v h1 h2 => (hv.2 j c v h1 h2).cut (Nat.zero_le _) (mlts_get hm h1)⟩
  have g2 := (callX_sound hE (exec_ok hE n) (C := C.cut 0 True 0) hRc rfl hvc hI).2
  refine g2.mono ?_
  rintro e w' ⟨V, C', rfl, rfl, hc⟩
  refine ⟨V, rfl, back_same hc.ext, ?_⟩
  have hH2 := hc.H
  subst hH2
  have h1 := hc.rv.frz (ro := C'.ro) hc.rh (Nat.zero_le _) hq
  have hx2 : Ext (C.cut 0 True 0) (C'.cut 0 False C'.ro) := hc.ext.cut (Nat.zero_le _) (Nat.zero_le _) (Nat.zero_le _)
  exact RV.back (Ci := C'.cut 0 False C'.ro) (Nat.zero_le _) hx2 h1 hq

/-! Environments, grown. -/
def nrm : PV → PV
  | .val (.agg a) => .agg (a.toList.map .val)
  | p => p
theorem RV.nrm {P : Program} {C : Ctx} {p : PV} {V : Value} (h : RV P C p V) : RV P C (nrm p) V := by
  unfold Hx.nrm
  split
  · cases h
    refine .agg (by simp) fun j c v h1 h2 => ?_
    simp only [List.getElem?_map, Option.map_eq_some_iff] at h1
    obtain ⟨x, hx, rfl⟩ := h1
    have : x = v := Option.some.inj (hx.symm.trans (by rw [Array.getElem?_toList]; exact h2))
    subst this
    exact .val
  · exact h
theorem Cs.nrm {P : Program} {C : Ctx} {ps : List PV} {Vs : Array Value} (h : Cs P C ps Vs) : Cs P C (ps.map Hx.nrm) Vs := by
  refine ⟨by simpa using h.1, fun j c v h1 h2 => ?_⟩
  simp only [List.getElem?_map, Option.map_eq_some_iff] at h1
  obtain ⟨x, hx, rfl⟩ := h1
  exact (h.2 j x v hx h2).nrm

def EnvK.addO (E : EnvK) (k : FuncId) (c : List PV → Option PV) : EnvK := { E with ora := fun f a => if f = k then c (a.map nrm) else E.ora f a }
def EnvK.addC (E : EnvK) (k : FuncId) (c : Nat → List PV → List Row → Option (DT (PV × List Row))) : EnvK := { E with cal := fun ro f a H => if f = k then c ro a H else E.cal ro f a H }
def EnvK.addL (E : EnvK) (k : FuncId) (i : Nat) (l : List Tmp) (c : Nat → List PV → List Row → Option (DT (PX × List PV × List Row))) : EnvK :=
  { E with live := fun f j => if f = k then (if j = i then some l else E.live f j) else E.live f j
           lo := fun f ro j S H => if f = k then (if j = i then c ro S H else E.lo f ro j S H) else E.lo f ro j S H }
def EnvK.addN (E : EnvK) (k : FuncId) (i : Nat) (l : List (Tmp × TypeId × Nat)) : EnvK := { E with nils := fun f j => if f = k then (if j = i then l else E.nils f j) else E.nils f j }
/-- These functions only read what they are given (a hint: nothing rests on it). -/
def EnvK.addQ (E : EnvK) (k : FuncId) : EnvK := { E with pure := fun f => if f = k then true else E.pure f }
def EnvK.addK (E : EnvK) (k : FuncId) : EnvK := { E with keep := fun f => if f = k then true else E.keep f }

theorem LoH.mono {P : Program} {E E' : Env} {f : FuncId} (h : ∀ ro i S H x S' H', E'.lo f ro i S H = some (x, S', H') → E.lo f ro i S H = some (x, S', H')) : ∀ {c : Code}, LoH P E f c → LoH P E' f c
  | .seq a b, hc => ⟨LoH.mono h (c := a) hc.1, LoH.mono h (c := b) hc.2⟩
  | .cond _ x y, hc => ⟨LoH.mono h (c := x) hc.1, LoH.mono h (c := y) hc.2⟩
  | .block _ b, hc => LoH.mono h (c := b) hc
  | .scope b, hc => LoH.mono h (c := b) hc
  | .loop b, hc => ⟨fun ro S H x S' H' g => hc.1 ro S H x S' H' (h _ _ _ _ _ _ _ g), LoH.mono h (c := b) hc.2⟩
  | .rangeFunc _ _ a b, hc => ⟨LoH.mono h (c := a) hc.1, LoH.mono h (c := b) hc.2⟩
  | .skip, _ | .label _, _ | .region _ _ _, _ | .exit _, _ | .ret, _ | .goto _, _ | .refuse _, _ => trivial

theorem envOK_zero {P : Program} : EnvOK P ({} : EnvK).env where
  ent := fun _ _ _ h => by cases h
  cal := fun _ _ _ _ _ _ h => by cases h
  ora := fun _ _ _ h => by cases h
  lo := fun k fn b _ _ => by
    have : ∀ c : Code, LoH P ({} : EnvK).env k c := by
      intro c
      induction c with
      | seq a b iha ihb => exact ⟨iha, ihb⟩
      | cond c x y ihx ihy => exact ⟨ihx, ihy⟩
      | block i b ih => exact ih
      | scope b ih => exact ih
      | loop b ih => exact ⟨fun _ _ _ _ _ _ h => (by cases h), ih⟩
      | rangeFunc g ps a b iha ihb => exact ⟨iha, ihb⟩
      | _ => trivial
    exact this b
theorem ora_addO {E : EnvK} {k : FuncId} {c : List PV → Option PV} {f : FuncId} {a : List PV} {r : PV} (h : (E.addO k c).env.ora f a = some r) : (f = k ∧ c (a.map nrm) = some r) ∨ E.env.ora f a = some r := by
  change (match E.orD f a with | some d => d.run | none => if f = k then c (a.map nrm) else E.ora f a) = some r at h
  split at h
  · rename_i d hd; exact .inr (ora_orD hd h)
  · rename_i hd
    split at h
    · rename_i e; exact .inl ⟨e, h⟩
    · exact .inr (ora_of hd h)
theorem EnvOK.addO {P : Program} {E : EnvK} (hE : EnvOK P E.env) {k : FuncId} {c : List PV → Option PV} (hc : ∀ args r, c args = some r → Enters P k ∧ PCall P k args r) : EnvOK P (E.addO k c).env where
  ent := fun f a r h => by
    rcases ora_addO h with ⟨e, g⟩ | h
    · subst e; exact (hc _ _ g).1
    · exact hE.ent f a r h
  cal := hE.cal
  ora := fun f a r h => by
    rcases ora_addO h with ⟨e, g⟩ | h
    · subst e
      exact fun C hR Vs hv => (hc _ _ g).2 C hR Vs hv.nrm
    · exact hE.ora f a r h
  lo := fun f fn b h1 h2 => LoH.mono (E := E.env) (E' := (E.addO k c).env) (fun _ _ _ _ _ _ _ h => h) (hE.lo f fn b h1 h2)
/-- Contracts by value, with conditions; slices that the caller owns are lists for them. -/
def EnvK.addF (E : EnvK) (k : FuncId) (c : List PV → Option (DT PV)) : EnvK := { E with orD := fun f a => if f = k then (match c (a.map nrm) with | some d => some d | none => E.orD f a) else E.orD f a }
theorem ora_addF {E : EnvK} {k : FuncId} {c : List PV → Option (DT PV)} {f : FuncId} {a : List PV} {r : PV} (h : (E.addF k c).env.ora f a = some r) : (f = k ∧ ∃ d, c (a.map nrm) = some d ∧ d.run = some r) ∨ E.env.ora f a = some r := by
  change (match (if f = k then (match c (a.map nrm) with | some d => some d | none => E.orD f a) else E.orD f a) with | some d => d.run | none => E.ora f a) = some r at h
  by_cases e : f = k
  · rw [if_pos e] at h
    cases hc : c (a.map nrm) with
    | some d => rw [hc] at h; exact .inl ⟨e, d, rfl, h⟩
    | none => rw [hc] at h; exact .inr h
  · rw [if_neg e] at h; exact .inr h
theorem EnvOK.addF {P : Program} {E : EnvK} (hE : EnvOK P E.env) {k : FuncId} {c : List PV → Option (DT PV)} (hent : Enters P k) (hc : ∀ args d r, c args = some d → d.run = some r → PCall P k args r) : EnvOK P (E.addF k c).env where
  ent := fun f a r h => by
    rcases ora_addF h with ⟨e, _⟩ | h
    · subst e; exact hent
    · exact hE.ent f a r h
  cal := hE.cal
  ora := fun f a r h => by
    rcases ora_addF h with ⟨e, d, h1, h2⟩ | h
    · subst e
      exact fun C hR Vs hv => hc _ _ _ h1 h2 C hR Vs hv.nrm
    · exact hE.ora f a r h
  lo := fun f fn b h1 h2 => LoH.mono (E := E.env) (E' := (E.addF k c).env) (fun _ _ _ _ _ _ _ h => h) (hE.lo f fn b h1 h2)
theorem EnvOK.addC {P : Program} {E : EnvK} (hE : EnvOK P E.env) {k : FuncId} {c : Nat → List PV → List Row → Option (DT (PV × List Row))} (hent : Enters P k)
    (hc : ∀ ro args H d p H', c ro args H = some d → d.run = some (p, H') → RCall P ro k args H p H') : EnvOK P (E.addC k c).env where
  ent := hE.ent
  cal := fun ro f a H p H' h => by
    change (if f = k then c ro a H else E.cal ro f a H).bind DT.run = some (p, H') at h
    split at h
    · rename_i e; subst e
      obtain ⟨d, h1, h2⟩ := Option.bind_eq_some_iff.1 h
      exact ⟨hent, hc _ _ _ _ _ _ h1 h2⟩
    · exact hE.cal ro f a H p H' h
  ora := hE.ora
  lo := fun f fn b h1 h2 => LoH.mono (E := E.env) (E' := (E.addC k c).env) (fun _ _ _ _ _ _ _ h => h) (hE.lo f fn b h1 h2)
/-- The loops of some code. -/
def loops : Code → List Code
  | .seq a b => loops a ++ loops b
  | .cond _ x y => loops x ++ loops y
  | .block _ b => loops b
  | .scope b => loops b
  | .loop b => b :: loops b
  | .rangeFunc _ _ a b => loops a ++ loops b
  | _ => []
theorem LoH.of {P : Program} {E : Env} {f : FuncId} : ∀ {c : Code}, (∀ b, b ∈ loops c → SubC (.loop b) c → ∀ ro S H x S' H', E.lo f ro (rid b) S H = some (x, S', H') → WpTo P (.loop b) ro S H x S' H') → LoH P E f c
  | .seq a b, h => ⟨LoH.of (c := a) fun b hb hs => h b (by simp [loops, hb]) (.seq1 hs), LoH.of (c := b) fun b hb hs => h b (by simp [loops, hb]) (.seq2 hs)⟩
  | .cond _ a b, h => ⟨LoH.of (c := a) fun b hb hs => h b (by simp [loops, hb]) (.cond1 hs), LoH.of (c := b) fun b hb hs => h b (by simp [loops, hb]) (.cond2 hs)⟩
  | .block _ b, h => LoH.of (c := b) fun b hb hs => h b (by simpa [loops] using hb) (.block hs)
  | .scope b, h => LoH.of (c := b) fun b hb hs => h b (by simpa [loops] using hb) (.scope hs)
  | .loop b, h => ⟨h b (by simp [loops]) .here, LoH.of (c := b) fun b hb hs => h b (by simp [loops, hb]) (.loop hs)⟩
  | .rangeFunc _ _ a b, h => ⟨LoH.of (c := a) fun b hb hs => h b (by simp [loops, hb]) (.range1 hs), LoH.of (c := b) fun b hb hs => h b (by simp [loops, hb]) (.range2 hs)⟩
  | .skip, _ | .label _, _ | .region _ _ _, _ | .exit _, _ | .ret, _ | .goto _, _ | .refuse _, _ => trivial
/-- What a loop comes to. -/
theorem EnvOK.addL {P : Program} {E : EnvK} (hE : EnvOK P E.env) {k i : Nat} {l : List Tmp} {c : Nat → List PV → List Row → Option (DT (PX × List PV × List Row))} {fn : Func} {body b0 : Code} (hf : P.funcs[k]? = some fn) (hb : fn.body = some body)
    (h0 : (loops body).filter (fun b => rid b == i) = [b0]) (hc : SubCode P k (.loop b0) → ∀ ro S H d x S' H', c ro S H = some d → d.run = some (x, S', H') → WpTo P (.loop b0) ro S H x S' H') : EnvOK P (E.addL k i l c).env where
  ent := hE.ent
  cal := hE.cal
  ora := hE.ora
  lo := fun f fn' b' h1 h2 => by
    refine LoH.of fun b hm hs ro S H x S' H' g => ?_
    change ((if f = k then (if rid b = i then c ro S H else E.lo f ro (rid b) S H) else E.lo f ro (rid b) S H)).bind DT.run = some (x, S', H') at g
    have old : (E.lo f ro (rid b) S H).bind DT.run = some (x, S', H') → WpTo P (.loop b) ro S H x S' H' := fun g => (LoH.sub (P := P) (E := E.env) hs (hE.lo f fn' b' h1 h2)).1 ro S H x S' H' g
    split at g
    · rename_i e
      subst e
      split at g
      · rename_i e2
        rw [hf] at h1; cases h1
        rw [hb] at h2; cases h2
        have hb0 : b = b0 := by
          have : b ∈ (loops body).filter (fun b => rid b == i) := List.mem_filter.2 ⟨hm, by simp [e2]⟩
          rw [h0] at this
          simpa using this
        subst hb0
        obtain ⟨d, g1, g2⟩ := Option.bind_eq_some_iff.1 g
        exact hc ⟨fn, body, hf, hb, hs⟩ ro S H d x S' H' g1 g2
      · exact old g
    · exact old g
theorem EnvOK.addN {P : Program} {E : EnvK} (hE : EnvOK P E.env) (k : FuncId) (i : Nat) (l : List (Tmp × TypeId × Nat)) : EnvOK P (E.addN k i l).env where
  ent := hE.ent
  cal := hE.cal
  ora := hE.ora
  lo := fun f fn b h1 h2 => LoH.mono (E := E.env) (E' := (E.addN k i l).env) (fun _ _ _ _ _ _ _ h => h) (hE.lo f fn b h1 h2)
theorem EnvOK.addQ {P : Program} {E : EnvK} (hE : EnvOK P E.env) (k : FuncId) : EnvOK P (E.addQ k).env where
  ent := hE.ent
  cal := hE.cal
  ora := hE.ora
  lo := fun f fn b h1 h2 => LoH.mono (E := E.env) (E' := (E.addQ k).env) (fun _ _ _ _ _ _ _ h => h) (hE.lo f fn b h1 h2)
theorem EnvOK.addK {P : Program} {E : EnvK} (hE : EnvOK P E.env) (k : FuncId) : EnvOK P (E.addK k).env where
  ent := hE.ent
  cal := hE.cal
  ora := hE.ora
  lo := fun f fn b h1 h2 => LoH.mono (E := E.env) (E' := (E.addK k).env) (fun _ _ _ _ _ _ _ h => h) (hE.lo f fn b h1 h2)
end Go.Hx
