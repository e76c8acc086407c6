/- Hx: a region that draws its order comes to what the order of the text comes to. -/
import Derived.Test.YtadcoepikgjgmaaHxRegion
namespace Go.Hx

/-- What one operation of the text's order does. -/
def OneE (P : Program) (E : Env) (ex : Ex) (ops : Array Oper) (S : List PV) (H : List Row) (o : Oper) (p : PV) (S' : List PV) (H' : List Row) : Prop :=
  S' = putS S o.dst p ∧ ((guardQ ops S o = some (false, S) ∧ p = .val undef ∧ H' = H) ∨ (guardQ ops S o = some (true, S) ∧ stepE P E ex S H o = some (p, H')))

theorem guardQ_same {ops : Array Oper} {S S1 : List PV} {o : Oper} {b : Bool} (h : guardQ ops S o = some (b, S1)) : S1 = S := by
  unfold guardQ at h
  split at h
  · cases h; rfl
  · split at h
    · cases h; rfl
    · rename_i d hd
      split at h
      · cases h; rfl
      · rename_i t hS
        obtain ⟨hlt, hv⟩ := List.getElem?_eq_some_iff.1 hS
        cases t <;> (simp only at h; cases h; rw [← hv]; exact List.set_getElem_self hlt)
      · cases h; rfl
      · cases h

theorem trace {P : Program} {E : Env} {ex : Ex} {ops : Array Oper} : ∀ (l : List Oper) {S S' : List PV} {H H' : List Row}, opsQ (stepE P E ex) ops l S H = some (S', H') →
    ∃ (Sf : Nat → List PV) (Hf : Nat → List Row) (pf : Nat → PV), Sf 0 = S ∧ Hf 0 = H ∧ Sf l.length = S' ∧ Hf l.length = H' ∧ ∀ (j : Nat) o, l[j]? = some o → OneE P E ex ops (Sf j) (Hf j) o (pf j) (Sf (j + 1)) (Hf (j + 1))
  | [], S, S', H, H', h => by
    simp only [opsQ] at h
    cases h
    exact ⟨fun _ => S, fun _ => H, fun _ => .any, rfl, rfl, rfl, rfl, fun j o hj => by simp at hj⟩
  | o :: os, S, S', H, H', h => by
    simp only [opsQ] at h
    have glue : ∀ (p : PV) (H1 : List Row), OneE P E ex ops S H o p (putS S o.dst p) H1 → opsQ (stepE P E ex) ops os (putS S o.dst p) H1 = some (S', H') →
        ∃ (Sf : Nat → List PV) (Hf : Nat → List Row) (pf : Nat → PV), Sf 0 = S ∧ Hf 0 = H ∧ Sf (o :: os).length = S' ∧ Hf (o :: os).length = H' ∧ ∀ (j : Nat) o', (o :: os)[j]? = some o' → OneE P E ex ops (Sf j) (Hf j) o' (pf j) (Sf (j + 1)) (Hf (j + 1)) := by
      intro p H1 h1 h2
      obtain ⟨Sf, Hf, pf, a1, a2, a3, a4, a5⟩ := trace os h2
      refine ⟨fun j => match j with | 0 => S | j + 1 => Sf j, fun j => match j with | 0 => H | j + 1 => Hf j, fun j => match j with | 0 => p | j + 1 => pf j, rfl, rfl, a3, a4, fun j o' hj => ?_⟩
      match j with
      | 0 =>
        simp at hj
        subst hj
        show OneE P E ex ops S H o p (Sf 0) (Hf 0)
        rw [a1, a2]
        exact h1
      | j + 1 => exact a5 j o' (by simpa using hj)
    split at h
    · rename_i S1 hg
      have := guardQ_same hg
      subst this
      split at h
      · rename_i p H1 hs
        exact glue p H1 ⟨rfl, .inr ⟨hg, hs⟩⟩ h
      · cases h
    · rename_i S1 hg
      have := guardQ_same hg
      subst this
      exact glue (.val undef) H ⟨rfl, .inl ⟨hg, rfl, rfl⟩⟩ h
    · cases h

theorem stepE_rows {P : Program} {E : Env} {ex : Ex} {S : List PV} {H H' : List Row} {o : Oper} {p : PV} (h : stepE P E ex S H o = some (p, H')) : H' = H ∨ ∃ r, H' = H ++ [r] := by
  unfold stepE at h
  split at h
  · cases h; exact .inl rfl
  · split at h
    · cases h; exact .inr ⟨_, rfl⟩
    · split at h
      · split at h
        · split at h
          · obtain ⟨q, _, he⟩ := Option.map_eq_some_iff.1 h
            cases he
            exact .inl rfl
          · cases h
        · cases h
      · cases h

/-- i comes before j by the edges. -/
inductive Reach (L : List Oper) : Nat → Nat → Prop
  | one {j : Nat} {o : Oper} {e : Edge} (ho : L[j]? = some o) (he : e ∈ o.after) (hb : Region.binds .any e = true) : Reach L j e.on
  | more {j i : Nat} {o : Oper} {e : Edge} (ho : L[j]? = some o) (he : e ∈ o.after) (hb : Region.binds .any e = true) (h : Reach L e.on i) : Reach L j i

theorem foldl_mask {acc : List Nat} {i : Nat} : ∀ (l : List Edge) (s : Nat), (l.foldl (fun s e => if Region.binds .any e then s ||| 2 ^ e.on ||| acc.getD e.on 0 else s) s).testBit i = true →
    s.testBit i = true ∨ ∃ e, e ∈ l ∧ Region.binds .any e = true ∧ (e.on = i ∨ (acc.getD e.on 0).testBit i = true)
  | [], s, h => .inl h
  | e :: l, s, h => by
    simp only [List.foldl_cons] at h
    rcases foldl_mask l _ h with h1 | ⟨e', h1, h2, h3⟩
    · split at h1
      · rename_i hb
        rw [Nat.testBit_or, Nat.testBit_or] at h1
        simp only [Bool.or_eq_true] at h1
        rcases h1 with (h1 | h1) | h1
        · exact .inl h1
        · refine .inr ⟨e, by simp, hb, .inl ?_⟩
          rw [Nat.testBit_two_pow] at h1
          simpa using h1
        · exact .inr ⟨e, by simp, hb, .inr h1⟩
      · exact .inl h1
    · exact .inr ⟨e', by simp [h1], h2, h3⟩

theorem masks_reach {L : List Oper} : ∀ (os : List Oper) (acc : List Nat), os = L.drop acc.length → (∀ j i, (acc.getD j 0).testBit i = true → Reach L j i) → ∀ j i, ((masks os acc).getD j 0).testBit i = true → Reach L j i
  | [], acc, _, h, j, i, hj => h j i hj
  | o :: os, acc, hd, h, j, i, hj => by
    have ho : L[acc.length]? = some o := by
      have : (L.drop acc.length)[0]? = some o := by rw [← hd]; rfl
      rwa [List.getElem?_drop, Nat.add_zero] at this
    refine masks_reach os (acc ++ [maskOf acc o]) ?_ (fun j i hb => ?_) j i hj
    · rw [List.length_append, List.length_singleton, ← List.drop_drop, ← hd]; rfl
    · rw [List.getD_eq_getElem?_getD, List.getElem?_append] at hb
      split at hb
      · exact h j i (by rw [List.getD_eq_getElem?_getD]; exact hb)
      · rename_i hjl
        by_cases hje : j = acc.length
        · subst hje
          simp only [Nat.sub_self, List.getElem?_cons_zero, Option.getD_some] at hb
          rcases foldl_mask _ _ hb with h0 | ⟨e, h1, h2, h3⟩
          · simp at h0
          · rcases h3 with rfl | h3
            · exact .one ho (by simpa using h1) h2
            · exact .more ho (by simpa using h1) h2 (h _ _ h3)
        · rw [show j - acc.length = (j - acc.length - 1) + 1 by omega] at hb
          simp at hb

/-- What a set of operations that is closed under what comes before holds. -/
theorem Reach.closed {L : List Oper} {D : Nat → Prop} (hD : ∀ j o e, L[j]? = some o → D j → e ∈ o.after → Region.binds .any e = true → D e.on) {j i : Nat} (h : Reach L j i) : D j → D i := by
  induction h with
  | one ho he hb => intro hj; exact hD _ _ _ ho hj he hb
  | more ho he hb _ ih => intro hj; exact ih (hD _ _ _ ho hj he hb)
theorem Reach.ready {L : List Oper} {D : Nat → Prop} (hD : ∀ j o e, L[j]? = some o → D j → e ∈ o.after → Region.binds .any e = true → D e.on) {j i : Nat} (h : Reach L j i) (hr : ∀ o e, L[j]? = some o → e ∈ o.after → Region.binds .any e = true → D e.on) : D i := by
  cases h with
  | one ho he hb => exact hr _ _ ho he hb
  | more ho he hb h => exact h.closed hD (hr _ _ ho he hb)

/-- The slot t, once the operations D are carried out (of the first n). -/
noncomputable def slotAt (L : List Oper) (S : List PV) (pf : Nat → PV) (D : Nat → Prop) : Nat → Nat → Option PV
  | 0, t => S[t]?
  | j + 1, t => open Classical in if D j ∧ ((L[j]?).bind (·.dst)) = some t ∧ t < S.length then some (pf j) else slotAt L S pf D j t

theorem guard_wanted {P : Program} {C : Ctx} {ops : Array Oper} {S S1 : List PV} {o : Oper} {b : Bool} {a : Act} (hsz : a.tmps.size = S.length)
    (hs : ∀ t ∈ o.looksAt ops, ∀ p v, S[t]? = some p → a.tmps[t]? = some v → RV P C p v) (h : guardQ ops S o = some (b, S1)) : Region.wanted o (yielded ops a.tmps) = b := by
  unfold guardQ at h
  unfold Region.wanted
  split at h
  · rename_i hg; cases h; rw [hg]
  · rename_i j want hg
    rw [hg]
    simp only
    split at h
    · rename_i hd
      cases h
      simp [yielded, hd]
    · rename_i d hd
      have hy : yielded ops a.tmps j = match a.tmps[d]? with | some (.bool b) => some b | _ => none := by simp [yielded, hd]; rfl
      have hlook : d ∈ o.looksAt ops := by simp [Oper.looksAt, hg, hd]
      split at h
      · rename_i hS
        cases h
        have hlt : S.length ≤ d := by
          rcases Nat.lt_or_ge d S.length with h1 | h1
          · rw [List.getElem?_eq_getElem h1] at hS; cases hS
          · exact h1
        have : a.tmps[d]? = none := Array.getElem?_eq_none (by rw [hsz]; exact hlt)
        rw [hy, this]
        rfl
      · rename_i t hS
        have hlt : d < a.tmps.size := by rw [hsz]; exact (List.getElem?_eq_some_iff.1 hS).1
        have h2 : a.tmps[d]? = some a.tmps[d] := Array.getElem?_eq_getElem hlt
        have hv := hs d hlook _ _ hS h2
        generalize a.tmps[d] = V at h2 hv
        cases hv
        cases t with
        | true => simp only at h; cases h; rw [hy, h2]; cases b <;> rfl
        | false => simp only at h; cases h; rw [hy, h2]; cases want <;> rfl
      · rename_i v hnb hS
        cases h
        have hlt : d < a.tmps.size := by rw [hsz]; exact (List.getElem?_eq_some_iff.1 hS).1
        have h2 : a.tmps[d]? = some a.tmps[d] := Array.getElem?_eq_getElem hlt
        have hv := hs d hlook _ _ hS h2
        generalize a.tmps[d] = V at h2 hv
        cases hv
        rw [hy, h2]
        split
        · rename_i b' e; cases e; exact absurd rfl (hnb b')
        · rfl
      · cases h

/-- One operation that only makes new rows, over the rows at the end. -/
theorem stepE_sound {r : Option Nat} {P : Program} {E : Env} (hE : EnvOK P E) {ex : Ex} (hX : ExSound P E ex) {S : List PV} {H H1 : List Row} {o : Oper} {p : PV} {C : Ctx} {a : Act} (hR : RH P C) (hro : C.ro ≤ H.length) (hHC : C.H.take H.length = H) (hH1 : C.H.take H1.length = H1)
    (hfresh : ∀ x, H.length ≤ x → x < H1.length → C.ρ x = none) (hs : ∀ x ∈ o.op.operands, RV P C (ev S x) (a.eval x))
    (h : stepE P E ex S H o = some (p, H1)) {next : Act → World → Prop} {Q : Exit → Act → World → Prop}
    (hn : ∀ v C', C'.H = C.H → Ext C C' → RH P C' → RV P C' p v → (∀ x, (x < H.length ∨ H1.length ≤ x) → C'.ρ x = C.ρ x) → (∀ b, b < C.w.heap.size → C'.w.heap[b]? = C.w.heap[b]?) → next (a.put o.dst v) C'.w) : o.wpIn (Fr r) 0 P a C.w next Q := by
  have hle : H.length ≤ C.H.length := by
    have := congrArg List.length hHC
    simp only [List.length_take] at this
    omega
  have hSub : Sub H C := by
    intro i r hr
    have hi := rowAt_lt hr
    show rowAt C.H i = some r
    rw [← hHC] at hr
    unfold rowAt at hr ⊢
    rw [List.getElem?_take, if_pos hi] at hr
    exact hr
  unfold stepE at h
  split at h
  · rename_i q hq
    cases h
    obtain ⟨v, g1, g2⟩ := popQ_sound hR hSub hs hq
    exact wp_value g1 (hn v C rfl (.refl C) hR g2 (fun _ _ => rfl) fun _ _ => rfl)
  · split at h
    · rename_i q r hq
      cases h
      have hlen1 : (H ++ [r]).length = H.length + 1 := by simp
      have hlt : H.length < C.H.length := by
        have := congrArg List.length hH1
        simp only [List.length_take, hlen1] at this
        omega
      have hrow : C.row? H.length = some r := by
        show rowAt C.H H.length = some r
        have h2 : (C.H.take (H ++ [r]).length)[H.length]? = some r := by rw [hH1]; simp
        rw [List.getElem?_take, if_pos (by rw [hlen1]; omega)] at h2
        unfold rowAt
        rw [h2]
        simp [newQ_live hq]
      obtain ⟨v, C', g1, g2⟩ := newQ_sound (C := C) (H := H) (f := ev S) (g := a.eval) hR hlt (hfresh _ (Nat.le_refl _) (by rw [hlen1]; omega)) hro hrow hs hq
      exact wp_value g1 (hn v C' g2.H g2.ext g2.rh g2.rv (fun x hx => g2.ρ x (by rw [hlen1] at hx; omega)) g2.old)
    · split at h
      · rename_i c ho
        split at h
        · rename_i g hc
          split at h
          · rename_i k first cap hg
            obtain ⟨q, hq, he⟩ := Option.map_eq_some_iff.1 h
            cases he
            rw [ho] at hs
            have hgm : g ∈ (Op.call c).operands := by simp [Op.operands, Call.operands, hc]
            have hgv := hs g hgm
            rw [hg] at hgv
            generalize hG : a.eval g = G at hgv
            cases hgv with
            | fn q1 q2 q3 q4 =>
              have hargs := args_rv (a := a) (S := S) (xs := c.args) ⟨q1, q3⟩ ⟨q2, q4⟩ (fun x hx => hs x (by simp [Op.operands, Call.operands, hc, hx]))
              obtain ⟨e1, e2⟩ := callE_sound hE hX hR hHC hargs hq
              exact wp_call ho hc hG e1 e2 fun e w' ⟨V, he, hsame, hrv⟩ => ⟨V, he, hn V (C.at w') rfl hsame.ext (hsame.rh hR) hrv (fun _ _ => rfl) hsame.block⟩
          · cases h
        · cases h
      · cases h

theorem kill_get (K : List Nat) (H : List Row) (i : Nat) : (kill K H)[i]? = H[i]?.map fun r => if K.contains i then deadRow r else r := by
  simp only [kill, List.getElem?_map, List.getElem?_zipIdx, Nat.zero_add, Option.map_map]
  congr 1
  funext r
  simp only [Function.comp]
  cases K.contains i <;> rfl
theorem kill_sub {K : List Nat} {H : List Row} {C : Ctx} (hag : ∀ x, x < H.length → x ∉ K → C.H[x]? = H[x]?) : Sub (kill K H) C := by
  intro i r hr
  unfold rowAt at hr
  rw [kill_get] at hr
  show rowAt C.H i = some r
  cases hh : H[i]? with
  | none => rw [hh] at hr; cases hr
  | some q =>
    rw [hh] at hr
    simp only [Option.map_some] at hr
    cases hk : K.contains i with
    | true => rw [hk] at hr; cases hr
    | false =>
      rw [hk] at hr
      unfold rowAt
      rw [hag i (List.getElem?_eq_some_iff.1 hh).1 (by simpa using hk), hh]
      exact hr
theorem stepX_rows {P : Program} {E : Env} {ex : Ex} {K : List Nat} {S : List PV} {H H' : List Row} {o : Oper} {p : PV} (h : stepX P E ex K S H o = some (p, H')) : H' = H ∨ ∃ r, H' = H ++ [r] := by
  unfold stepX at h
  split at h
  · exact stepE_rows h
  · split at h
    · cases h; exact .inl rfl
    · obtain ⟨x, _, he⟩ := Option.map_eq_some_iff.1 h
      cases he
      exact .inr ⟨_, rfl⟩
theorem stepX_sound {r : Option Nat} {P : Program} {E : Env} (hE : EnvOK P E) {ex : Ex} (hX : ExSound P E ex) {K : List Nat} {S : List PV} {H H1 : List Row} {o : Oper} {p : PV} {C : Ctx} {a : Act} (hR : RH P C) (hro : C.ro ≤ H.length)
    (hle1 : H1.length ≤ C.H.length) (hag : ∀ x, x < H.length → x ∉ K → C.H[x]? = H[x]?) (hnew : ∀ r, H1 = H ++ [r] → C.H[H.length]? = some r)
    (hfresh : ∀ x, H.length ≤ x → x < H1.length → C.ρ x = none) (hs : ∀ x ∈ o.op.operands, RV P C (ev S x) (a.eval x))
    (h : stepX P E ex K S H o = some (p, H1)) {next : Act → World → Prop} {Q : Exit → Act → World → Prop}
    (hn : ∀ v C', C'.H = C.H → Ext C C' → RH P C' → RV P C' p v → (∀ x, (x < H.length ∨ H1.length ≤ x) → C'.ρ x = C.ρ x) → (∀ b, b < C.w.heap.size → C'.w.heap[b]? = C.w.heap[b]?) → next (a.put o.dst v) C'.w) : o.wpIn (Fr r) 0 P a C.w next Q := by
  have hrows := stepX_rows h
  unfold stepX at h
  split at h
  · have hle : H.length ≤ C.H.length := by
      rcases hrows with rfl | ⟨q, rfl⟩
      · exact hle1
      · simp at hle1; omega
    have hHC : C.H.take H.length = H := by
      apply List.ext_getElem?
      intro x
      rw [List.getElem?_take]
      split
      · rename_i hx; exact hag x hx (by simp)
      · rename_i hx; exact (List.getElem?_eq_none (by omega)).symm
    have hH1 : C.H.take H1.length = H1 := by
      rcases hrows with rfl | ⟨q, rfl⟩
      · exact hHC
      · apply List.ext_getElem?
        intro x
        rw [List.getElem?_take]
        simp only [List.length_append, List.length_singleton]
        split
        · rename_i hx
          by_cases hx2 : x < H.length
          · rw [List.getElem?_append_left hx2]; exact hag x hx2 (by simp)
          · obtain rfl : x = H.length := by omega
            rw [hnew q rfl]; simp
        · rename_i hx; exact (List.getElem?_eq_none (by simp; omega)).symm
    exact stepE_sound hE hX hR hro hHC hH1 hfresh hs h hn
  · split at h
    · rename_i q hq
      cases h
      obtain ⟨v, g1, g2⟩ := popQ_sound hR (kill_sub hag) hs hq
      exact wp_value g1 (hn v C rfl (.refl C) hR g2 (fun _ _ => rfl) fun _ _ => rfl)
    · obtain ⟨⟨q, rr⟩, hq, he⟩ := Option.map_eq_some_iff.1 h
      cases he
      have hlen1 : (H ++ [rr]).length = H.length + 1 := by simp
      have hlt : H.length < C.H.length := by rw [hlen1] at hle1; omega
      have hrow : C.row? H.length = some rr := by
        show rowAt C.H H.length = some rr
        unfold rowAt
        rw [hnew rr rfl]
        simp [newQ_live hq]
      obtain ⟨v, C', g1, g2⟩ := newQ_sound (C := C) (H := H) (f := ev S) (g := a.eval) hR hlt (hfresh _ (Nat.le_refl _) (by rw [hlen1]; omega)) hro hrow hs hq
      exact wp_value g1 (hn v C' g2.H g2.ext g2.rh g2.rv (fun x hx => g2.ρ x (by rw [hlen1] at hx; omega)) g2.old)

theorem mores_ext {P : Program} {C : Ctx} (hR : RH P C) (rs : List Row) : Ext C { C with H := C.H ++ rs } :=
  ⟨rfl, rfl, rfl, Nat.le_refl _, fun _ _ _ => rfl, fun _ c _ _ h => ⟨c, h, rfl⟩, by simp, fun x r' hx h => ⟨r', by
    have h1 : rowAt (C.H ++ rs) x = some r' := h
    show rowAt C.H x = some r'
    unfold rowAt at h1 ⊢
    rwa [List.getElem?_append_left hx] at h1, rfl, rfl, Nat.le_refl _, fun _ => ⟨rfl, fun _ h => h⟩⟩, fun _ h => .inl h, fun _ h => .inl h, rfl, rfl, fun x hx => ⟨List.getElem?_append_left (by have := hR.ro; omega), rfl⟩,
    fun x r' info h1 h2 h3 => ⟨⟨r', info.st, by rw [← h1]; exact List.getElem?_append_left (List.getElem?_eq_some_iff.1 h1).1, h2, h3⟩, fun _ h => h⟩, fun _ rec h => ⟨rec, h⟩⟩
theorem mores_rh {P : Program} {C : Ctx} (h : RH P C) (rs : List Row) : RH P { C with H := C.H ++ rs } := by
  have keep : ∀ i, i < C.H.length → rowAt (C.H ++ rs) i = rowAt C.H i := fun i hi => by unfold rowAt; rw [List.getElem?_append_left hi]
  refine ⟨h.inj, fun i b hi => ?_, fun i b r' h1 h2 => ?_, by have := h.ro; simp; omega, h.nfo, h.fol, fun i b r' info h1 h2 h3 h4 => ?_⟩
  · rcases h.dom i b hi with ⟨q, hq⟩ | ⟨q, info, h1, h2, h3⟩
    · exact .inl ⟨q, by show rowAt (C.H ++ rs) i = _; rw [keep i (h.ρ_lt hi)]; exact hq⟩
    · exact .inr ⟨q, info, by rw [← h1]; exact List.getElem?_append_left (h.ρ_lt hi), h2, h3⟩
  · have h3 : rowAt (C.H ++ rs) i = some r' := h2
    rw [keep i (h.ρ_lt h1)] at h3
    exact (h.blk i b r' h1 h3).mono (mores_ext h rs) rfl
  · have h2' : (C.H ++ rs)[i]? = some r' := h2
    rw [List.getElem?_append_left (h.ρ_lt h1)] at h2'
    exact (h.lps i b r' info h1 h2' h3 h4).mono (mores_ext h rs) rfl

theorem slotAt_all {L : List Oper} {S : List PV} {pf : Nat → PV} {Sf : Nat → List PV} (h0 : Sf 0 = S) (hlen : ∀ j, j ≤ L.length → (Sf j).length = S.length) (hstep : ∀ (j : Nat) o, L[j]? = some o → Sf (j + 1) = putS (Sf j) o.dst (pf j)) :
    ∀ j, j ≤ L.length → ∀ t, slotAt L S pf (fun _ => True) j t = (Sf j)[t]?
  | 0, _, t => by simp [slotAt, h0]
  | j + 1, hj, t => by
    have ho : L[j]? = some (L[j]'(by omega)) := List.getElem?_eq_getElem _
    have ih := slotAt_all h0 hlen hstep j (by omega) t
    have hl := hlen j (by omega)
    rw [hstep j _ ho]
    simp only [slotAt, ho, Option.bind_some, true_and]
    generalize (L[j]'(by omega)).dst = d
    cases d with
    | none => simp [putS, ih]
    | some d =>
      simp only [putS, Option.some.injEq]
      rw [List.getElem?_set]
      by_cases hd : d = t
      · subst hd
        simp only [true_and, if_true, hl]
        split
        · rfl
        · rename_i hh; rw [ih]; exact List.getElem?_eq_none (by omega)
      · simp [hd, ih]

theorem slotAt_congr {L : List Oper} {S : List PV} {pf : Nat → PV} {D D' : Nat → Prop} {t : Nat} : ∀ n, (∀ j, j < n → ((L[j]?).bind (·.dst)) = some t → (D j ↔ D' j)) → slotAt L S pf D n t = slotAt L S pf D' n t
  | 0, _ => rfl
  | n + 1, h => by
    have ih := slotAt_congr (L := L) (S := S) (pf := pf) n fun j hj hd => h j (by omega) hd
    simp only [slotAt]
    by_cases hd : ((L[n]?).bind (·.dst)) = some t
    · rw [ih]
      have := h n (by omega) hd
      by_cases hDn : D n
      · simp [hDn, this.1 hDn]
      · have hDn' : ¬ D' n := fun h' => hDn (this.2 h')
        simp [hDn, hDn']
    · simp [hd, ih]

theorem slotAt_cut {L : List Oper} {S : List PV} {pf : Nat → PV} {D : Nat → Prop} {t : Nat} (i : Nat) : ∀ n, i ≤ n → (∀ j, i ≤ j → j < n → ((L[j]?).bind (·.dst)) = some t → ¬ D j) → slotAt L S pf D n t = slotAt L S pf D i t
  | 0, hi, _ => by have : i = 0 := by omega
                   subst this; rfl
  | n + 1, hi, h => by
    by_cases he : i = n + 1
    · subst he; rfl
    · rw [← slotAt_cut i n (by omega) fun j h1 h2 hd => h j h1 (by omega) hd]
      simp only [slotAt]
      rw [if_neg]
      rintro ⟨h1, h2, _⟩
      exact h n (by omega) (by omega) h2 h1

theorem countP_set {p q : Nat → Bool} {i : Nat} : ∀ {l : List Nat}, l.Nodup → i ∈ l → p i = true → q i = false → (∀ j, j ≠ i → q j = p j) → l.countP q + 1 = l.countP p
  | [], _, h, _, _, _ => by cases h
  | x :: l, hn, h, hp, hq, hne => by
    obtain ⟨hx, hl⟩ := List.nodup_cons.1 hn
    simp only [List.countP_cons]
    by_cases hxi : x = i
    · subst hxi
      have e : l.countP q = l.countP p := List.countP_congr fun j hj => by rw [hne j fun e => hx (by rw [← e]; exact hj)]
      rw [e]
      simp [hp, hq]
    · have := countP_set hl ((List.mem_cons.1 h).resolve_left fun e => hxi e.symm) hp hq hne
      rw [hne x hxi]
      omega

theorem draw_sound {P : Program} {E : Env} (hE : EnvOK P E) {ex : Ex} (hX : ExSound P E ex) {ro id : Nat} {ops : Array Oper} {S S' : List PV} {H H' : List Row} (hok : drawOk P ops.toList = true)
    (h : opsQ (stepE P E ex) ops ops.toList S H = some (S', H')) : WpTo P (.region id ops true) ro S H .normal S' H' := by
  obtain ⟨Sf, Hf, pf, e1, e2, e3, e4, hone⟩ := trace ops.toList h
  generalize hL : ops.toList = L at *
  have hget : ∀ j, ops[j]? = L[j]? := fun j => by rw [← hL, Array.getElem?_toList]
  have hsize : ops.size = L.length := by rw [← hL]; simp
  simp only [drawOk, Bool.and_eq_true] at hok
  obtain ⟨⟨hmix, _⟩, hall⟩ := hok
  -- the edges
  have hchk : ∀ (j : Nat) o, L[j]? = some o → (∀ e, e ∈ o.after → Region.binds .any e = true → e.on < j) ∧ ∀ (i : Nat) q, L[i]? = some q → i < j → q.apart ops o = true ∨ Reach L j i := by
    intro j o ho
    have h1 := List.all_eq_true.1 hall (o, j) (by rw [List.mem_zipIdx_iff_getElem?]; simpa using ho)
    simp only [Bool.and_eq_true] at h1
    refine ⟨fun e he hb => ?_, fun i q hq hij => ?_⟩
    · have := Array.all_eq_true_iff_forall_mem.1 h1.1 e he
      simpa [hb] using this
    · have h2 := List.all_eq_true.1 h1.2 (q, i) (by rw [List.mem_zipIdx_iff_getElem?]; simpa using hq)
      simp only [Bool.or_eq_true, Bool.not_eq_true', decide_eq_false_iff_not] at h2
      rcases h2 with (h2 | h2) | h2
      · exact absurd hij h2
      · refine .inl ?_
        have : L.toArray = ops := by rw [← hL]
        rwa [this] at h2
      · exact .inr (masks_reach L [] (by simp) (fun j i hb => by simp at hb) j i h2)
  -- the trace
  have hlen : ∀ j, j ≤ L.length → (Sf j).length = S.length := by
    intro j
    induction j with
    | zero => intro _; rw [e1]
    | succ j ih =>
      intro hj
      have ho : L[j]? = some (L[j]'(by omega)) := List.getElem?_eq_getElem _
      rw [(hone j _ ho).1]
      have := ih (by omega)
      cases (L[j]'(by omega)).dst <;> simp [putS, this]
  have hrows1 : ∀ (j : Nat) o, L[j]? = some o → Hf (j + 1) = Hf j ∨ ∃ r, Hf (j + 1) = Hf j ++ [r] := by
    intro j o ho
    rcases (hone j o ho).2 with ⟨_, _, h2⟩ | ⟨_, h2⟩
    · exact .inl h2
    · exact stepE_rows h2
  have hpre : ∀ d j, j + d ≤ L.length → ∃ rs, Hf (j + d) = Hf j ++ rs := by
    intro d
    induction d with
    | zero => intro j _; exact ⟨[], by simp⟩
    | succ d ih =>
      intro j hj
      obtain ⟨rs, hr⟩ := ih j (by omega)
      have ho : L[j + d]? = some (L[j + d]'(by omega)) := List.getElem?_eq_getElem _
      rcases hrows1 (j + d) _ ho with h2 | ⟨r, h2⟩
      · exact ⟨rs, by rw [← Nat.add_assoc, h2, hr]⟩
      · exact ⟨rs ++ [r], by rw [← Nat.add_assoc, h2, hr, List.append_assoc]⟩
  have htake : ∀ j, j ≤ L.length → H'.take (Hf j).length = Hf j := by
    intro j hj
    obtain ⟨rs, hr⟩ := hpre (L.length - j) j (by omega)
    rw [show j + (L.length - j) = L.length by omega, e4] at hr
    rw [hr, List.take_left]
  have hmono : ∀ j k, j ≤ k → k ≤ L.length → (Hf j).length ≤ (Hf k).length := by
    intro j k hjk hk
    obtain ⟨rs, hr⟩ := hpre (k - j) j (by omega)
    rw [show j + (k - j) = k by omega] at hr
    rw [hr]; simp
  have hslots := slotAt_all (L := L) (S := S) (pf := pf) e1 hlen fun j o ho => (hone j o ho).1
  -- the walk
  intro r C a hH hro hR hs _ Q hQ
  refine wpIn_region_any hmix ?_
  subst hH
  obtain ⟨rs, hrs⟩ := hpre L.length 0 (by omega)
  rw [Nat.zero_add, e4, e2] at hrs
  have hx0 := mores_ext hR rs
  have hR0 := mores_rh hR rs
  rw [← hrs] at hx0 hR0
  have hxd : Ext { C with H := H' } ({ C with H := H' } : Ctx).dr := dr_ext _
  -- the invariant
  let D : Array Bool → Nat → Prop := fun listed j => listed.getD j false = true
  let Inv : Array Bool → Act → World → Prop := fun listed a1 w => ∃ C1 : Ctx, C1.w = w ∧ C1.H = H' ∧ Ext C C1 ∧ RH P C1 ∧ a1.tmps.size = S.length ∧ a1.defers = a.defers ∧
    (∀ j, j < L.length → ¬ D listed j → ∀ x, (Hf j).length ≤ x → x < (Hf (j + 1)).length → C1.ρ x = none) ∧
    (∀ t p v, slotAt L S pf (D listed) L.length t = some p → a1.tmps[t]? = some v → RV P C1 p v)
  have final : ∀ listed a1 w, (∀ j, j < L.length → D listed j) → Inv listed a1 w → Q .normal a1 w := by
    rintro listed a1 w hd ⟨C1, rfl, h1, h2, h3, h4, h5, _, h7⟩
    refine hQ a1 C1 (.of_eq h5) h1 h2 h3 ⟨by rw [h4, ← e3, hlen _ (Nat.le_refl _)], fun t p v g1 g2 => h7 t p v ?_ g2⟩
    rw [slotAt_congr (D' := fun _ => True) _ fun j hj _ => ⟨fun _ => trivial, fun _ => hd j hj⟩, hslots _ (Nat.le_refl _), e3]
    exact g1
  have hready : ∀ listed, HeadInv .any ops ops.size listed → Region.ready .any ops listed = [] → ∀ j, j < L.length → D listed j := by
    intro listed hinv hnil j
    induction j using Nat.strongRecOn with
    | _ j ih =>
      intro hj
      by_cases hDj : D listed j
      · exact hDj
      · exfalso
        have ho : L[j]? = some (L[j]'hj) := List.getElem?_eq_getElem _
        have hlj : j < listed.size := by rw [hinv.size, hsize]; exact hj
        have : j ∈ Region.ready .any ops listed := mem_ready.2 ⟨getD_in hlj (by simpa [D] using hDj), L[j]'hj, by rw [hget]; exact ho, fun e he hb => by
          have hlt := (hchk j _ ho).1 e he hb
          exact ih e.on hlt (by omega)⟩
        rw [hnil] at this
        cases this
  have main : ∀ fuel listed a1 w, HeadInv .any ops ops.size listed → (List.range L.length).countP (fun j => !listed.getD j false) ≤ fuel → Inv listed a1 w → wpAnyIn (Fr r) 0 P .any ops Q fuel listed a1 w := by
    intro fuel
    induction fuel with
    | zero =>
      intro listed a1 w hinv hc hI
      have hd : ∀ j, j < L.length → D listed j := by
        intro j hj
        by_cases hDj : D listed j
        · exact hDj
        · exfalso
          have : 0 < (List.range L.length).countP (fun j => !listed.getD j false) := List.countP_pos_iff.2 ⟨j, List.mem_range.2 hj, by simpa [D] using hDj⟩
          omega
      refine ⟨?_, final listed a1 w hd hI⟩
      cases hr : Region.ready .any ops listed with
      | nil => rfl
      | cons x xs =>
        exfalso
        have hx : x ∈ Region.ready .any ops listed := by rw [hr]; simp
        obtain ⟨h1, o, ho, _⟩ := mem_ready.1 hx
        have hxl : x < L.length := by rw [hget] at ho; exact (List.getElem?_eq_some_iff.1 ho).1
        have h9 : listed.getD x false = true := hd x hxl
        rw [getD_both h1] at h9
        cases h9
    | succ fuel ih =>
      intro listed a1 w hinv hc hI
      refine ⟨fun hnil => final listed a1 w (hready listed hinv hnil) hI, fun i hi => ?_⟩
      obtain ⟨h1, o, ho, hedges⟩ := mem_ready.1 hi
      have hoL : L[i]? = some o := by rw [← hget]; exact ho
      have hiL : i < L.length := (List.getElem?_eq_some_iff.1 hoL).1
      have hnD : ¬ D listed i := by show ¬ listed.getD i false = true; rw [getD_both h1]; simp
      have hil : i < listed.size := by rw [hinv.size, hsize]; exact hiL
      have hclosed : ∀ j o e, L[j]? = some o → D listed j → e ∈ o.after → Region.binds .any e = true → D listed e.on := fun j o e hj hDj he hb => hinv.closed j o (by rw [hget]; exact hj) hDj e he hb
      have hpreds : ∀ j, Reach L i j → D listed j := fun j hr => hr.ready hclosed fun o' e ho' he hb => by
        have : o' = o := Option.some.inj (ho'.symm.trans hoL)
        subst this
        exact hedges e he hb
      have hsuccs : ∀ j, Reach L j i → ¬ D listed j := fun j hr hDj => hnD (hr.closed hclosed hDj)
      have hinv' := hinv.set hi (by rw [hsize]; exact hiL)
      have hcount : (List.range L.length).countP (fun j => !(listed.setIfInBounds i true).getD j false) ≤ fuel := by
        have := countP_set (p := fun j => !listed.getD j false) (q := fun j => !(listed.setIfInBounds i true).getD j false) (i := i) (List.nodup_range (n := L.length)) (List.mem_range.2 hiL)
          (by simp only [Bool.not_eq_true']; exact getD_both h1) (by simp [hil]) (fun j hj => by simp only [getD_set_ne false (fun e => hj e.symm)])
        omega
      have hD' : ∀ j, D (listed.setIfInBounds i true) j ↔ D listed j ∨ j = i := by
        intro j
        by_cases hji : j = i
        · subst hji
          simp [D, hil]
        · simp only [D, getD_set_ne false (fun e => hji e.symm), hji, or_false]
      obtain ⟨C1, rfl, c1, c2, c3, c4, c5, c6, c7⟩ := hI
      -- the slots that it looks at
      have hread : ∀ t ∈ o.looksAt ops, ∀ p v, (Sf i)[t]? = some p → a1.tmps[t]? = some v → RV P C1 p v := by
        intro t ht p v g1 g2
        refine c7 t p v ?_ g2
        rw [slotAt_cut i L.length (by omega) fun j hij hjn hd => ?_, slotAt_congr (D' := fun _ => True) i fun j hj hd => ⟨fun _ => trivial, fun _ => ?_⟩, hslots i (by omega)]
        · exact g1
        · -- a writer before
          obtain ⟨q, hq, hqd⟩ := Option.bind_eq_some_iff.1 hd
          rcases (hchk i o hoL).2 j q hq hj with hap | hr
          · exact absurd ht ((Oper.apart_spec hap).1 t hqd)
          · exact hpreds j hr
        · -- a writer behind
          by_cases hji : j = i
          · subst hji; exact hnD
          · obtain ⟨q, hq, hqd⟩ := Option.bind_eq_some_iff.1 hd
            rcases (hchk j q hq).2 i o hoL (by omega) with hap | hr
            · exact absurd ht ((Oper.apart_spec hap).2.2 t hqd)
            · exact hsuccs j hr
      have hopnd : ∀ x ∈ o.op.operands, RV P C1 (ev (Sf i) x) (a1.eval x) := by
        intro x hx
        cases x with
        | tmp t =>
          have ht : t ∈ o.looksAt ops := by
            simp only [Oper.looksAt]
            exact List.mem_append_left _ (List.mem_filterMap.2 ⟨.tmp t, by simpa using hx, rfl⟩)
          show RV P C1 ((Sf i).getD t (.val undef)) (a1.tmps.getD t undef)
          have hl := hlen i (by omega)
          by_cases htl : t < S.length
          · have g1 : (Sf i)[t]? = some ((Sf i)[t]'(by rw [hl]; exact htl)) := List.getElem?_eq_getElem _
            have g2 : a1.tmps[t]? = some (a1.tmps[t]'(by rw [c4]; exact htl)) := Array.getElem?_eq_getElem _
            have := hread t ht _ _ g1 g2
            simpa [List.getD, Array.getD, htl, hl, c4] using this
          · have g1 : (Sf i).getD t (.val undef) = .val undef := by simp [List.getD, List.getElem?_eq_none (show (Sf i).length ≤ t by rw [hl]; exact Nat.le_of_not_lt htl)]
            have g2 : a1.tmps.getD t undef = undef := by simp [Array.getD, c4, htl]
            rw [g1, g2]; exact .val
        | const v => exact .val
        | global g => exact .any
        | func f => exact .fn rfl rfl (fun j c v h => by simp at h) (fun j c v h => by simp at h)
      -- what it leaves
      have hwrite : ∀ (C2 : Ctx) (v : Value), C2.H = H' → Ext C1 C2 → RH P C2 → RV P C2 (pf i) v → (∀ x, (x < (Hf i).length ∨ (Hf (i + 1)).length ≤ x) → C2.ρ x = C1.ρ x) →
          wpAnyIn (Fr r) 0 P .any ops Q fuel (listed.setIfInBounds i true) (a1.put o.dst v) C2.w := by
        intro C2 v k1 k2 k3 k4 k5
        refine ih _ _ _ hinv' hcount ⟨C2, rfl, k1, c2.trans k2, k3, ?_, ?_, fun j hj hDj x hx1 hx2 => ?_, fun t p u g1 g2 => ?_⟩
        · cases o.dst <;> simp [Act.put, c4]
        · cases o.dst <;> exact c5
        · have hji : j ≠ i := fun e => hDj ((hD' j).2 (.inr e))
          have hDj' : ¬ D listed j := fun hh => hDj ((hD' j).2 (.inl hh))
          rw [k5 x ?_]
          · exact c6 j hj hDj' x hx1 hx2
          · rcases Nat.lt_or_gt_of_ne hji with h2 | h2
            · left
              have := hmono (j + 1) i (by omega) (by omega)
              omega
            · right
              have := hmono (i + 1) j (by omega) (by omega)
              omega
        · by_cases hdt : o.dst = some t
          · -- its own slot
            have htl : t < S.length := by
              have h9 := (Array.getElem?_eq_some_iff.1 g2).1
              rw [hdt] at h9
              simp only [Act.put, Array.size_setIfInBounds, c4] at h9
              exact h9
            have hself : slotAt L S pf (D (listed.setIfInBounds i true)) L.length t = some (pf i) := by
              rw [slotAt_cut (i + 1) L.length (by omega) fun j hij hjn hd => ?_]
              · simp only [slotAt]
                rw [if_pos ⟨(hD' i).2 (.inr rfl), by simp [hoL, hdt], htl⟩]
              · obtain ⟨q, hq, hqd⟩ := Option.bind_eq_some_iff.1 hd
                intro hDj
                rcases (hD' j).1 hDj with hDj | hji
                · rcases (hchk j q hq).2 i o hoL (by omega) with hap | hr
                  · exact (Oper.apart_spec hap).2.1 t hdt hqd
                  · exact hsuccs j hr hDj
                · omega
            rw [hself] at g1
            cases g1
            rw [hdt] at g2
            simp only [Act.put] at g2
            rw [Array.getElem?_setIfInBounds, if_pos rfl] at g2
            split at g2
            · cases g2; exact k4
            · cases g2
          · -- another's
            have hsame : slotAt L S pf (D (listed.setIfInBounds i true)) L.length t = slotAt L S pf (D listed) L.length t := by
              refine slotAt_congr _ fun j hj hd => ?_
              rw [hD' j]
              refine ⟨fun hh => hh.resolve_right fun e => ?_, fun hh => .inl hh⟩
              subst e
              rw [hoL] at hd
              exact hdt hd
            rw [hsame] at g1
            have g3 : a1.tmps[t]? = some u := by
              cases hod : o.dst with
              | none => rw [hod] at g2; exact g2
              | some d =>
                rw [hod] at g2 hdt
                simp only [Act.put] at g2
                rw [Array.getElem?_setIfInBounds, if_neg (fun e => hdt (by rw [e]))] at g2
                exact g2
            exact (c7 t p u g1 g3).mono k2
      unfold wpOpIn
      simp only [ho]
      obtain ⟨_, hcase⟩ := hone i o hoL
      rcases hcase with ⟨hg, hp, hHe⟩ | ⟨hg, hst⟩
      · have hw := guard_wanted (by rw [c4, hlen i (by omega)]) hread hg
        rw [hw, if_neg (by simp)]
        exact ⟨fun _ _ => trivial, hwrite C1 undef c1 (.refl C1) c3 (by rw [hp]; exact .val) fun _ _ => rfl⟩
      · have hw := guard_wanted (by rw [c4, hlen i (by omega)]) hread hg
        rw [hw, if_pos rfl]
        refine stepE_sound hE hX c3 ?_ (by rw [c1]; exact htake i (by omega)) (by rw [c1]; exact htake (i + 1) (by omega)) (fun x hx1 hx2 => c6 i hiL hnD x hx1 hx2) hopnd hst fun v C' k1 k2 k3 k4 k5 _ => hwrite C' v (by rw [k1, c1]) k2 k3 k4 k5
        rw [c2.ro]
        have h10 := hR.ro
        have h11 := hmono 0 i (by omega) (by omega)
        rw [e2] at h11
        omega
  refine main ops.size _ _ _ ⟨by simp, fun j oj _ hl => (by rw [getD_replicate_false] at hl; cases hl), fun t h1 h2 => absurd h2 (by omega)⟩ ?_ ?_
  · rw [hsize]
    exact Nat.le_trans List.countP_le_length (by simp)
  · refine ⟨({ C with H := H' } : Ctx).dr, rfl, rfl, hx0.trans hxd, dr_rh hR0, hs.1, rfl, fun j hj _ x hx1 _ => ?_, fun t p v g1 g2 => ?_⟩
    · show C.ρ x = none
      refine hR.ρ_none ?_
      have := hmono 0 j (by omega) (by omega)
      rw [e2] at this
      omega
    · have : slotAt L S pf (D (Array.replicate ops.size false)) L.length t = S[t]? := by
        rw [slotAt_cut 0 L.length (by omega) fun j _ _ _ hDj => by
          simp only [D, getD_replicate_false] at hDj
          cases hDj]
        rfl
      rw [this] at g1
      exact ((hs.2 t p v g1 g2).mono hx0).mono hxd
end Go.Hx
