/- Hx: contracts of calls that see only the rows whose pointers they get. -/
import Derived.Test.YtneklpbkfmljfaaHxShape
namespace Go.Hx

/-- Where an index stands in a list of rows. -/
def posOf : List Nat → Nat → Option Nat
  | [], _ => none
  | k :: ks, i => match k == i with | true => some 0 | false => (posOf ks i).map (· + 1)
theorem posOf_get : ∀ {K : List Nat} {i j : Nat}, posOf K i = some j → K[j]? = some i
  | [], i, j, h => by simp [posOf] at h
  | k :: ks, i, j, h => by
    simp only [posOf] at h
    split at h
    · rename_i hk; cases h; simpa using hk
    · obtain ⟨m, hm, rfl⟩ := Option.map_eq_some_iff.1 h
      simpa using posOf_get hm
theorem posOf_none : ∀ {K : List Nat} {i : Nat}, posOf K i = none → i ∉ K
  | [], i, _ => by simp
  | k :: ks, i, h => by
    simp only [posOf] at h
    split at h
    · cases h
    · rename_i hk
      have : posOf ks i = none := by simpa using h
      have h1 := posOf_none this
      have h2 : k ≠ i := by simpa using hk
      simp only [List.mem_cons, not_or]
      exact ⟨fun e => h2 e.symm, h1⟩
theorem posOf_of {K : List Nat} (hn : K.Nodup) {i j : Nat} (h : K[j]? = some i) : posOf K i = some j := by
  cases hp : posOf K i with
  | none => exact absurd (List.mem_of_getElem? h) (posOf_none hp)
  | some m =>
    have := posOf_get hp
    have e := (List.getElem?_inj (List.getElem?_eq_some_iff.1 h).1 hn).1 (h.trans this.symm)
    rw [e]

/-- Only these rows, in this order. -/
def Ctx.pick (C : Ctx) (K : List Nat) (Hs : List Row) : Ctx :=
  { ρ := fun j => (K[j]?).bind C.ρ, H := Hs, w := C.w, fo := fun b => C.fo b ∨ ∃ i, i ∉ K ∧ C.ρ i = some b, ro := 0 }
structure Picks (C : Ctx) (K : List Nat) (Hs : List Row) : Prop where
  nodup : K.Nodup
  len : Hs.length = K.length
  get : ∀ (j : Nat) i, K[j]? = some i → C.H[i]? = Hs[j]? ∧ C.ro ≤ i
theorem Picks.lt {C : Ctx} {K : List Nat} {Hs : List Row} (h : Picks C K Hs) {i : Nat} (hi : i ∈ K) : i < C.H.length := by
  obtain ⟨j, hj⟩ := List.getElem?_of_mem hi
  have h1 := (h.get j i hj).1
  have h2 : j < Hs.length := by rw [h.len]; exact (List.getElem?_eq_some_iff.1 hj).1
  rw [List.getElem?_eq_getElem h2] at h1
  exact (List.getElem?_eq_some_iff.1 h1).1
theorem pick_row {C : Ctx} {K : List Nat} {Hs : List Row} (h : Picks C K Hs) {j i : Nat} (hj : K[j]? = some i) : (C.pick K Hs).row? j = C.row? i := by
  show rowAt Hs j = rowAt C.H i
  unfold rowAt
  rw [(h.get j i hj).1]
theorem pick_idx {C : Ctx} {K : List Nat} {Hs : List Row} (h : Picks C K Hs) {j : Nat} {r : Row} (hr : Hs[j]? = some r) : ∃ i, K[j]? = some i := by
  have : j < K.length := by rw [← h.len]; exact (List.getElem?_eq_some_iff.1 hr).1
  exact ⟨_, List.getElem?_eq_getElem this⟩
theorem pick_ban {C : Ctx} {K : List Nat} {Hs : List Row} {b : Nat} (hb : ¬ C.ban b) : ¬ (C.pick K Hs).ban b := by
  rintro (⟨j, hj⟩ | hf | ⟨i, _, hi⟩)
  · simp only [Ctx.pick] at hj
    obtain ⟨i, _, hi⟩ := Option.bind_eq_some_iff.1 hj
    exact hb (.inl ⟨i, hi⟩)
  · exact hb (.inr hf)
  · exact hb (.inl ⟨i, hi⟩)
theorem rowAt_some {H : List Row} {i : Nat} {r : Row} (h : rowAt H i = some r) : H[i]? = some r := by
  unfold rowAt at h
  split at h
  · rename_i r' hr'
    split at h
    · cases h; exact hr'
    · cases h
  · cases h

theorem pick_rh {P : Program} {C : Ctx} (hR : RH P C) {K : List Nat} {Hs : List Row} (h : Picks C K Hs) (hk : rowsOk 0 Hs = true) : RH P (C.pick K Hs) := by
  have hfree : ∀ {p V}, RV P C p V → mlt 0 p = true → RV P (C.pick K Hs) p V := fun hv hm => hv.free (fun b hb => Classical.byContradiction fun hn => pick_ban hn hb) rfl hm
  refine ⟨fun j j' b h1 h2 => ?_, fun j b h1 => ?_, fun j b r h1 h2 => ?_, Nat.zero_le _, fun j b h1 => ?_, fun b hb => ?_, fun j b r info h1 h2 h3 h4 => ?_⟩
  · obtain ⟨i, k1, k2⟩ := Option.bind_eq_some_iff.1 h1
    obtain ⟨i', k1', k2'⟩ := Option.bind_eq_some_iff.1 h2
    have := hR.inj i i' b k2 k2'
    subst this
    have e1 := posOf_of h.nodup k1
    have e2 := posOf_of h.nodup k1'
    rw [e1] at e2
    exact Option.some.inj e2
  · obtain ⟨i, k1, k2⟩ := Option.bind_eq_some_iff.1 h1
    rcases hR.dom i b k2 with ⟨r, hr⟩ | ⟨r, info, g1, g2, g3⟩
    · exact .inl ⟨r, by rw [pick_row h k1]; exact hr⟩
    · exact .inr ⟨r, info, by show Hs[j]? = _; rw [← (h.get j i k1).1]; exact g1, g2, g3⟩
  · obtain ⟨i, k1, k2⟩ := Option.bind_eq_some_iff.1 h1
    have h2' : rowAt Hs j = some r := h2
    rw [pick_row h k1] at h2
    have hB := hR.blk i b r k2 h2
    obtain ⟨c, fr, cv, m1, m2, m3, m4⟩ := hB.mem
    refine ⟨hB.sz, ⟨c, fr, cv, m1, m2, m3, fun k e j' p hk1 hj1 => ⟨(m4 k e j' p hk1 hj1).1, hfree (m4 k e j' p hk1 hj1).2 ?_⟩⟩, hB.len, hB.typed⟩
    rcases rowsOk_get hk h2' with hb | hb
    · exact wt_byval (hB.typed hb e (List.mem_of_getElem? hk1)) 0 p (List.mem_of_getElem? hj1)
    · exact mlts_get (hb e (List.mem_of_getElem? hk1)) hj1
  · obtain ⟨i, k1, k2⟩ := Option.bind_eq_some_iff.1 h1
    rintro (hf | ⟨i', hi', hj2⟩)
    · exact hR.nfo i b k2 hf
    · have := hR.inj i i' b k2 hj2
      subst this
      exact hi' (List.mem_of_getElem? k1)
  · rcases hb with hf | ⟨i, _, hi⟩
    · exact hR.fol b hf
    · exact hR.lt hi
  · obtain ⟨i, k1, k2⟩ := Option.bind_eq_some_iff.1 h1
    have h2' : Hs[j]? = some r := h2
    have h5 := rowsOk_lp hk h2' h3
    rw [← (h.get j i k1).1] at h2'
    obtain ⟨⟨rec, m1, m2, m3, m4, m5, m6⟩, ha, hb⟩ := hR.lps i b r info k2 h2' h3 h4
    exact ⟨⟨rec, m1, m2, m3, m4, ⟨m5.1, fun j p v g1 g2 => hfree (m5.2 j p v g1 g2) (mlts_get h5 g1)⟩, m6⟩, ha, hb⟩

/-- Rows written back. -/
def putRows (K : List Nat) (H Hs : List Row) : List Row := H.zipIdx.map fun x => match posOf K x.2 with | some j => Hs.getD j x.1 | none => x.1
theorem putRows_get (K : List Nat) (H Hs : List Row) (i : Nat) : (putRows K H Hs)[i]? = H[i]?.map fun r => match posOf K i with | some j => Hs.getD j r | none => r := by
  simp only [putRows, List.getElem?_map, List.getElem?_zipIdx, Nat.zero_add, Option.map_map]
  congr 1
def Ctx.unpick (C C' : Ctx) (K : List Nat) : Ctx :=
  { ρ := fun i => match posOf K i with | some j => C'.ρ j | none => C.ρ i, H := putRows K C.H C'.H, w := C'.w, fo := C.fo, ro := C.ro }
section
variable {P : Program} {C C' : Ctx} {K : List Nat} {Hs : List Row}
theorem unpick_len (h : Picks C K Hs) (hx : Ext (C.pick K Hs) C') : K.length ≤ C'.H.length := by have := hx.len; simp only [Ctx.pick, h.len] at this; exact this
theorem unpick_get_in (h : Picks C K Hs) (hx : Ext (C.pick K Hs) C') {i j : Nat} (hj : K[j]? = some i) : (C.unpick C' K).H[i]? = C'.H[j]? := by
  show (putRows K C.H C'.H)[i]? = _
  have hi := h.lt (List.mem_of_getElem? hj)
  have hl := unpick_len h hx
  have hjl : j < C'.H.length := Nat.lt_of_lt_of_le (List.getElem?_eq_some_iff.1 hj).1 hl
  rw [putRows_get, List.getElem?_eq_getElem hi, posOf_of h.nodup hj, Option.map_some, List.getElem?_eq_getElem hjl]
  simp [List.getD, List.getElem?_eq_getElem hjl]
theorem unpick_get_out {i : Nat} (hi : posOf K i = none) : (C.unpick C' K).H[i]? = C.H[i]? := by
  show (putRows K C.H C'.H)[i]? = _
  rw [putRows_get, hi]
  cases C.H[i]? <;> rfl
theorem unpick_row_in (h : Picks C K Hs) (hx : Ext (C.pick K Hs) C') {i j : Nat} (hj : K[j]? = some i) : (C.unpick C' K).row? i = C'.row? j := by
  unfold Ctx.row? rowAt
  rw [unpick_get_in h hx hj]
theorem unpick_row_out {i : Nat} (hi : posOf K i = none) : (C.unpick C' K).row? i = C.row? i := by
  unfold Ctx.row? rowAt
  rw [unpick_get_out hi]
theorem unpick_ban (hx : Ext (C.pick K Hs) C') (b : Nat) (hb : (C.unpick C' K).ban b) : C'.ban b := by
  rcases hb with ⟨i, hi⟩ | hf
  · simp only [Ctx.unpick] at hi
    split at hi
    · exact .inl ⟨_, hi⟩
    · rename_i hp
      refine .inr ?_
      rw [hx.fo]
      exact .inr ⟨i, posOf_none hp, hi⟩
  · refine .inr ?_
    rw [hx.fo]
    exact .inl hf
theorem pick_own (hR : RH P C) {i b : Nat} (hk : i ∉ K) (hi : C.ρ i = some b) : ¬ (C.pick K Hs).own b := by
  rintro ⟨j, _, hj⟩
  obtain ⟨i', k1, k2⟩ := Option.bind_eq_some_iff.1 hj
  have := hR.inj i i' b hi k2
  subst this
  exact hk (List.mem_of_getElem? k1)
theorem unpick_ext (_hR : RH P C) (h : Picks C K Hs) (hx : Ext (C.pick K Hs) C') : Ext C (C.unpick C' K) := by
  have hl := unpick_len h hx
  refine ⟨hx.os, hx.tape, hx.output, hx.size, fun b hb ho => hx.block b hb fun hm => ho ?_, hx.shape, by simp [Ctx.unpick, putRows], fun i r' hi hr => ?_, fun b hb => ?_, fun b hb => ?_, rfl, rfl, fun i hi => ?_, fun i r info h1 h2 h3 => ?_, hx.loop⟩
  · obtain ⟨j, _, hj⟩ := hm
    obtain ⟨i, k1, k2⟩ := Option.bind_eq_some_iff.1 hj
    exact ⟨i, (h.get j i k1).2, k2⟩
  · cases hp : posOf K i with
    | some j =>
      have hj := posOf_get hp
      rw [unpick_row_in h hx hj] at hr
      obtain ⟨r, a1, a2, a3, a4, a5⟩ := hx.rows j r' (by simp only [Ctx.pick, h.len]; exact (List.getElem?_eq_some_iff.1 hj).1) hr
      rw [pick_row h hj] at a1
      exact ⟨r, a1, a2, a3, a4, fun e => ⟨(a5 e).1, fun b hb => by
        show (match posOf K i with | some j => C'.ρ j | none => C.ρ i) = some b
        rw [hp]
        exact (a5 e).2 b (by simp only [Ctx.pick, hj, Option.bind_some]; exact hb)⟩⟩
    | none =>
      rw [unpick_row_out hp] at hr
      exact ⟨r', hr, rfl, rfl, Nat.le_refl _, fun _ => ⟨rfl, fun b hb => by
        show (match posOf K i with | some j => C'.ρ j | none => C.ρ i) = some b
        rw [hp]; exact hb⟩⟩
  · obtain ⟨i, hi⟩ := hb
    simp only [Ctx.unpick] at hi
    split at hi
    · rcases hx.fresh b ⟨_, hi⟩ with ⟨j, hj⟩ | hs
      · obtain ⟨i', k1, k2⟩ := Option.bind_eq_some_iff.1 hj
        exact .inl ⟨i', k2⟩
      · exact .inr hs
    · exact .inl ⟨i, hi⟩
  · obtain ⟨i, hir, hi⟩ := hb
    simp only [Ctx.unpick] at hi hir
    split at hi
    · rcases hx.freshOwn b ⟨_, by rw [hx.ro]; exact Nat.zero_le _, hi⟩ with ⟨j, _, hj⟩ | hs
      · obtain ⟨i', k1, k2⟩ := Option.bind_eq_some_iff.1 hj
        exact .inl ⟨i', (h.get j i' k1).2, k2⟩
      · exact .inr hs
    · exact .inl ⟨i, hir, hi⟩
  · have hp : posOf K i = none := by
      cases hp : posOf K i with
      | none => rfl
      | some j => have := (h.get j i (posOf_get hp)).2; omega
    refine ⟨unpick_get_out hp, ?_⟩
    show (match posOf K i with | some j => C'.ρ j | none => C.ρ i) = _
    rw [hp]
  · cases hp : posOf K i with
    | some j =>
      have hj := posOf_get hp
      obtain ⟨⟨r', st, a1, a2, a3⟩, a4⟩ := hx.lp j r info (by show Hs[j]? = _; rw [← (h.get j i hj).1]; exact h1) h2 h3
      refine ⟨⟨r', st, by rw [unpick_get_in h hx hj]; exact a1, a2, a3⟩, fun b hb => ?_⟩
      show (match posOf K i with | some j => C'.ρ j | none => C.ρ i) = _
      rw [hp]
      exact a4 b (by simp only [Ctx.pick, hj, Option.bind_some]; exact hb)
    | none =>
      refine ⟨⟨r, info.st, by rw [unpick_get_out hp]; exact h1, h2, h3⟩, fun b hb => ?_⟩
      show (match posOf K i with | some j => C'.ρ j | none => C.ρ i) = _
      rw [hp]; exact hb
theorem unpick_rh (hR : RH P C) (h : Picks C K Hs) (hx : Ext (C.pick K Hs) C') (hR' : RH P C') (hk : rowsOk 0 (C'.H.take K.length) = true) : RH P (C.unpick C' K) := by
  have hl := unpick_len h hx
  have hxe := unpick_ext hR h hx
  have hfree : ∀ {p V}, RV P C' p V → mlt 0 p = true → RV P (C.unpick C' K) p V := fun hv hm => hv.free (unpick_ban hx) rfl hm
  have hfo : ∀ b, C'.fo b ↔ C.fo b ∨ ∃ i, i ∉ K ∧ C.ρ i = some b := fun b => by rw [hx.fo]; rfl
  have hold : ∀ i b, i ∉ K → C.ρ i = some b → C'.w.heap[b]? = C.w.heap[b]? := fun i b hk hi => hx.block b (hR.lt hi) (pick_own hR hk hi)
  have hin : ∀ i j b, posOf K i = some j → (C.unpick C' K).ρ i = some b → C'.ρ j = some b := fun i j b hp hi => by
    have : (match posOf K i with | some j => C'.ρ j | none => C.ρ i) = some b := hi
    rwa [hp] at this
  have hout : ∀ i b, posOf K i = none → (C.unpick C' K).ρ i = some b → C.ρ i = some b := fun i b hp hi => by
    have : (match posOf K i with | some j => C'.ρ j | none => C.ρ i) = some b := hi
    rwa [hp] at this
  have htake : ∀ i j r, posOf K i = some j → C'.H[j]? = some r → (C'.H.take K.length)[j]? = some r := fun i j r hp hr => by
    rw [List.getElem?_take, if_pos (List.getElem?_eq_some_iff.1 (posOf_get hp)).1]; exact hr
  refine ⟨fun i j b h1 h2 => ?_, fun i b h1 => ?_, fun i b r h1 h2 => ?_, Nat.le_trans hR.ro hxe.len, fun i b h1 => ?_, fun b hb => Nat.lt_of_lt_of_le (hR.fol b hb) hxe.size, fun i b r info h1 h2 h3 h4 => ?_⟩
  · cases hp : posOf K i with
    | some p =>
      cases hq : posOf K j with
      | some q =>
        have e := hR'.inj p q b (hin i p b hp h1) (hin j q b hq h2)
        subst e
        have g1 := posOf_get hp
        have g2 := posOf_get hq
        rw [g1] at g2
        exact Option.some.inj g2
      | none => exact absurd ((hfo b).2 (.inr ⟨j, posOf_none hq, hout j b hq h2⟩)) (hR'.nfo p b (hin i p b hp h1))
    | none =>
      cases hq : posOf K j with
      | some q => exact absurd ((hfo b).2 (.inr ⟨i, posOf_none hp, hout i b hp h1⟩)) (hR'.nfo q b (hin j q b hq h2))
      | none => exact hR.inj i j b (hout i b hp h1) (hout j b hq h2)
  · cases hp : posOf K i with
    | some p =>
      rcases hR'.dom p b (hin i p b hp h1) with ⟨r, hr⟩ | ⟨r, info, g1, g2, g3⟩
      · exact .inl ⟨r, by rw [unpick_row_in h hx (posOf_get hp)]; exact hr⟩
      · exact .inr ⟨r, info, by rw [unpick_get_in h hx (posOf_get hp)]; exact g1, g2, g3⟩
    | none =>
      rcases hR.dom i b (hout i b hp h1) with ⟨r, hr⟩ | ⟨r, info, g1, g2, g3⟩
      · exact .inl ⟨r, by rw [unpick_row_out hp]; exact hr⟩
      · exact .inr ⟨r, info, by rw [unpick_get_out hp]; exact g1, g2, g3⟩
  · cases hp : posOf K i with
    | some p =>
      rw [unpick_row_in h hx (posOf_get hp)] at h2
      have hB := hR'.blk p b r (hin i p b hp h1) h2
      obtain ⟨c, fr, cv, m1, m2, m3, m4⟩ := hB.mem
      refine ⟨hB.sz, ⟨c, fr, cv, m1, m2, m3, fun k e j q hk1 hj1 => ⟨(m4 k e j q hk1 hj1).1, hfree (m4 k e j q hk1 hj1).2 ?_⟩⟩, hB.len, hB.typed⟩
      have h2' : rowAt C'.H p = some r := h2
      have h3 : rowAt (C'.H.take K.length) p = some r := by
        have g := htake i p r hp (rowAt_some h2')
        unfold rowAt at h2' ⊢
        rw [g]
        rw [rowAt_some (show rowAt C'.H p = some r from h2)] at h2'
        exact h2'
      rcases rowsOk_get hk h3 with hb | hb
      · exact wt_byval (hB.typed hb e (List.mem_of_getElem? hk1)) 0 q (List.mem_of_getElem? hj1)
      · exact mlts_get (hb e (List.mem_of_getElem? hk1)) hj1
    | none =>
      rw [unpick_row_out hp] at h2
      exact (hR.blk i b r (hout i b hp h1) h2).mono hxe (hold i b (posOf_none hp) (hout i b hp h1))
  · cases hp : posOf K i with
    | some p => exact fun hf => hR'.nfo p b (hin i p b hp h1) ((hfo b).2 (.inl hf))
    | none => exact hR.nfo i b (hout i b hp h1)
  · cases hp : posOf K i with
    | some p =>
      rw [unpick_get_in h hx (posOf_get hp)] at h2
      obtain ⟨⟨rec, m1, m2, m3, m4, m5, m6⟩, ha, hb⟩ := hR'.lps p b r info (hin i p b hp h1) h2 h3 h4
      have h5 := rowsOk_lp hk (htake i p r hp h2) h3
      exact ⟨⟨rec, m1, m2, m3, m4, ⟨m5.1, fun j q v g1 g2 => hfree (m5.2 j q v g1 g2) (mlts_get h5 g1)⟩, m6⟩, ha, hb⟩
    | none =>
      rw [unpick_get_out hp] at h2
      exact (hR.lps i b r info (hout i b hp h1) h2 h3 h4).mono hxe (hold i b (posOf_none hp) (hout i b hp h1))
end

/-- Arguments, by the rows that are picked. -/
def argRows (args : List PV) : List Nat := args.filterMap fun p => match p with | .ptr i _ _ _ => some i | .sl i _ _ _ => some i | _ => none
def renA (K : List Nat) : PV → PV
  | .ptr i n k j => match posOf K i with | some m => .ptr m n k j | none => .any
  | .sl i n k l => match posOf K i with | some m => .sl m n k l | none => .any
  | p => p
def argF : PV → Bool
  | .ptr _ _ _ _ => true
  | .sl _ _ _ _ => true
  | p => mlt 0 p
theorem pick_arg {P : Program} {C : Ctx} {K : List Nat} {Hs : List Row} (h : Picks C K Hs) {p : PV} {V : Value} (hv : RV P C p V) (ho : argF p = true) : RV P (C.pick K Hs) (renA K p) V := by
  have hfree : mlt 0 p = true → RV P (C.pick K Hs) p V := hv.free (fun b hb => Classical.byContradiction fun hn => pick_ban hn hb) rfl
  cases hv with
  | ptr hV hk hi hn h1 =>
    rename_i i n k j
    simp only [renA]
    cases hp : posOf K i with
    | none => exact .any
    | some m =>
      have hm := posOf_get hp
      refine .ptr hV hk (by show m < Hs.length; rw [h.len]; exact (List.getElem?_eq_some_iff.1 hm).1) (fun r hr => hn r (by rw [← pick_row h hm]; exact hr)) fun r hr he => ?_
      obtain ⟨b, g1, g2⟩ := h1 r (by rw [← pick_row h hm]; exact hr) he
      exact ⟨b, by simp only [Ctx.pick, hm, Option.bind_some]; exact g1, g2⟩
  | sl hV hi hn h1 =>
    rename_i i n k l
    simp only [renA]
    cases hp : posOf K i with
    | none => exact .any
    | some m =>
      have hm := posOf_get hp
      refine .sl hV (by show m < Hs.length; rw [h.len]; exact (List.getElem?_eq_some_iff.1 hm).1) (fun r hr => hn r (by rw [← pick_row h hm]; exact hr)) fun r hr he => ?_
      obtain ⟨g0, a, cap, g1, g2, g3⟩ := h1 r (by rw [← pick_row h hm]; exact hr) he
      refine ⟨g0, a, cap, g1, g2, ?_⟩
      unfold SlAt at g3 ⊢
      split
      · rename_i hnl; rw [if_pos hnl] at g3; exact g3
      · rename_i hnl
        rw [if_neg hnl] at g3
        obtain ⟨b, q1, q2⟩ := g3
        exact ⟨b, by simp only [Ctx.pick, hm, Option.bind_some]; exact q1, q2⟩
  | _ => exact hfree (by simpa [argF] using ho)

def DT.filt {α : Type} (g : α → Bool) : DT α → DT α
  | .leaf a => match g a with | true => .leaf a | false => .no
  | .no => .no
  | .br b x y => .br b (x.filt g) (y.filt g)
theorem DT.run_filt {α : Type} {g : α → Bool} {r : α} : ∀ {d : DT α}, (d.filt g).run = some r → d.run = some r ∧ g r = true
  | .leaf a, h => by
    simp only [DT.filt] at h
    split at h
    · rename_i hg; cases h; exact ⟨rfl, hg⟩
    · cases h
  | .no, h => by cases h
  | .br b x y, h => by
    cases b
    · exact DT.run_filt (d := y) h
    · exact DT.run_filt (d := x) h

/-- A contract on the rows whose pointers are given. -/
def onRows (c : List PV → List Row → Option (DT (PV × List Row))) (ro : Nat) (args : List PV) (H : List Row) : Option (DT (PV × List Row)) :=
  let K := argRows args
  match decide K.Nodup && K.all (fun i => decide (ro ≤ i) && decide (i < H.length)) && args.all argF && rowsOk 0 (K.map fun i => H.getD i default) with
  | true => (c ((args.map (renA K)).map nrm) (K.map fun i => H.getD i default)).map fun d => (d.filt fun r => plain r.1 && r.2.length == K.length && rowsOk 0 r.2).map fun r => (r.1, putRows K H r.2)
  | false => none
def EnvK.addR (E : EnvK) (k : FuncId) (c : List PV → List Row → Option (DT (PV × List Row))) : EnvK := E.addC k (onRows c)
theorem EnvOK.addR {P : Program} {E : EnvK} (hE : EnvOK P E.env) {k : FuncId} {c : List PV → List Row → Option (DT (PV × List Row))} (hent : Enters P k)
    (hc : ∀ args H d p H', c args H = some d → d.run = some (p, H') → RCall P 0 k args H p H') : EnvOK P (E.addR k c).env := by
  refine hE.addC hent fun ro args H d p H' h1 h2 => ?_
  unfold onRows at h1
  dsimp only at h1
  split at h1
  · rename_i hk
    simp only [Bool.and_eq_true, decide_eq_true_eq] at hk
    obtain ⟨⟨⟨hn, hK⟩, hargs⟩, hok⟩ := hk
    obtain ⟨d0, g1, rfl⟩ := Option.map_eq_some_iff.1 h1
    obtain ⟨⟨p0, H0⟩, g2, g3⟩ := DT.run_map h2
    cases g3
    obtain ⟨g4, g5⟩ := DT.run_filt g2
    simp only [Bool.and_eq_true, beq_iff_eq] at g5
    obtain ⟨⟨gp, gl⟩, gk⟩ := g5
    intro C hH hro hR Vs hv
    subst hH
    have hP : Picks C (argRows args) ((argRows args).map fun i => C.H.getD i default) := by
      refine ⟨hn, by simp, fun j i hj => ?_⟩
      have := List.all_eq_true.1 hK i (List.mem_of_getElem? hj)
      simp only [Bool.and_eq_true, decide_eq_true_eq] at this
      refine ⟨?_, by rw [hro]; exact this.1⟩
      rw [List.getElem?_map, hj, Option.map_some, List.getD_eq_getElem?_getD, List.getElem?_eq_getElem this.2]; rfl
    have hR1 := pick_rh hR hP hok
    have hv1 : Cs P (C.pick (argRows args) ((argRows args).map fun i => C.H.getD i default)) (args.map (renA (argRows args))) Vs := by
      refine ⟨by simpa using hv.1, fun j c v q1 q2 => ?_⟩
      simp only [List.getElem?_map, Option.map_eq_some_iff] at q1
      obtain ⟨x, hx, rfl⟩ := q1
      exact pick_arg hP (hv.2 j x v hx q2) (List.all_eq_true.1 hargs x (List.mem_of_getElem? hx))
    refine (hc _ _ _ _ _ g1 g4 _ rfl rfl hR1 Vs hv1.nrm).mono ?_
    rintro e w' ⟨V, C', rfl, rfl, hct⟩
    have hH' := hct.H
    have hle := unpick_len hP hct.ext
    refine ⟨V, C.unpick C' (argRows args), rfl, rfl, ?_, unpick_ext hR hP hct.ext, unpick_rh hR hP hct.ext hct.rh ?_, hct.rv.plain gp⟩
    · show putRows (argRows args) C.H C'.H = putRows (argRows args) C.H H0
      rw [hH']
    · rw [hH', List.take_of_length_le (by rw [gl]; exact Nat.le_refl _)]; exact gk
  · cases h1
end Go.Hx
