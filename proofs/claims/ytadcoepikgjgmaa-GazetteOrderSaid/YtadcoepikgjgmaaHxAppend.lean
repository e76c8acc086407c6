/- Hx: append. -/
import Derived.Test.YtadcoepikgjgmaaHxStore
namespace Go.Hx

/-- The elements of a slice: whether they are typed, their type, they. -/
def srcOf (H : List Row) : PV → Option (Bool × TypeId × List PV)
  | .sl i n k len =>
    match rowAt H i with
    | some r => if r.es.length = n then some (r.bv, r.t, (r.es.drop k).take len) else none
    | none => none
  | .lst _ t es => some (true, t, es)
  | _ => none

theorem wtc_cellish {k : Kind} {p : PV} (h : wtc k p = true) : cellish p = true := by
  unfold wtc at h
  split at h <;> first | rfl | cases h
theorem wtcs_cellish : ∀ {ks : List Kind} {ps : List PV}, wtcs ks ps = true → ∀ p ∈ ps, cellish p = true
  | [], [], _, p, h => by cases h
  | [], _ :: _, h, _, _ => by simp [wtcs] at h
  | _ :: _, [], h, _, _ => by simp [wtcs] at h
  | k :: ks, q :: ps, h, p, hp => by
    simp only [wtcs, Bool.and_eq_true] at h
    rcases List.mem_cons.1 hp with rfl | hp
    · exact wtc_cellish h.1
    · exact wtcs_cellish h.2 p hp
theorem wt_cellish {P : Program} {t : TypeId} {e : PV} (h : wt P t e = true) : ∀ p ∈ e.cells, cellish p = true := by
  simp only [wt, Bool.and_eq_true] at h
  exact wtcs_cellish h.1

/-- What the elements are in the world: their cells, one after the other. -/
structure Src (P : Program) (C : Ctx) (s : Nat) (t : TypeId) (ty : Bool) (es : List PV) (V : Value) (vs : List Value) : Prop where
  shape : ∃ a cap, V = .slice a es.length cap
  first : ∀ n, n = es.length → (Builtin.firstCells s n V).run P C.w = .ok vs.toArray C.w
  len : vs.length = es.length * s
  el : ∀ e, e ∈ es → e.cells.length = s
  rel : ∀ (k : Nat) e (j : Nat) p, es[k]? = some e → e.cells[j]? = some p → ∃ v, vs[k * s + j]? = some v ∧ RV P C p v
  typed : ty = true → ∀ e, e ∈ es → wt P t e = true

theorem cells_list {P : Program} {C : Ctx} {b off s : Nat} {es : List PV} (hl : ∀ e, e ∈ es → e.cells.length = s)
    (h : ∀ (k : Nat) e (j : Nat) p, es[k]? = some e → e.cells[j]? = some p → ∃ v, C.w.cell? ⟨b, off + k * s + j, none⟩ = some v ∧ RV P C p v) :
    ∃ vs : List Value, vs.length = es.length * s ∧ (∀ (j : Nat) v, vs[j]? = some v → C.w.cell? ((⟨b, off, none⟩ : Addr).add j) = some v) ∧
      ∀ (k : Nat) e (j : Nat) p, es[k]? = some e → e.cells[j]? = some p → ∃ v, vs[k * s + j]? = some v ∧ RV P C p v := by
  refine ⟨(List.range (es.length * s)).map fun x => (C.w.cell? ⟨b, off + x, none⟩).getD undef, by simp, fun j v hj => ?_, fun k e j p h1 h2 => ?_⟩
  · simp only [List.getElem?_map, Option.map_eq_some_iff] at hj
    obtain ⟨x, hx, rfl⟩ := hj
    have hlt : j < es.length * s := by
      have := (List.getElem?_eq_some_iff.1 hx).1
      simpa using this
    rw [List.getElem?_range hlt] at hx
    cases hx
    rw [addr_add]
    have hs : 0 < s := by
      rcases Nat.eq_zero_or_pos s with h0 | h0
      · subst h0; simp at hlt
      · exact h0
    have hk : j / s < es.length := (Nat.div_lt_iff_lt_mul hs).2 hlt
    have he := List.getElem?_eq_getElem hk
    have hm : j % s < (es[j / s]).cells.length := by rw [hl _ (List.getElem_mem hk)]; exact Nat.mod_lt _ hs
    obtain ⟨v, g1, _⟩ := h (j / s) _ (j % s) _ he (List.getElem?_eq_getElem hm)
    have e2 : off + j / s * s + j % s = off + j := by
      have := Nat.div_add_mod j s
      rw [Nat.mul_comm] at this
      omega
    rw [e2] at g1
    rw [g1]; rfl
  · obtain ⟨v, g1, g2⟩ := h k e j p h1 h2
    have hk : k < es.length := (List.getElem?_eq_some_iff.1 h1).1
    have hj : j < s := by
      rw [← hl e (List.mem_of_getElem? h1)]
      exact (List.getElem?_eq_some_iff.1 h2).1
    have hlt : k * s + j < es.length * s := by
      have h5 : (k + 1) * s ≤ es.length * s := Nat.mul_le_mul_right _ hk
      rw [Nat.add_mul, Nat.one_mul] at h5
      omega
    refine ⟨v, ?_, g2⟩
    simp only [List.getElem?_map, List.getElem?_range hlt, Option.map_some, ← Nat.add_assoc, g1]
    rfl

theorem srcOf_sound {P : Program} {C : Ctx} {x : PV} {X : Value} {ty : Bool} {t : TypeId} {es : List PV} (hR : RH P C) (hx : RV P C x X) (h : srcOf C.H x = some (ty, t, es)) :
    ∃ vs, Src P C (P.cellsOf t) t ty es X vs := by
  unfold srcOf at h
  split at h
  · rename_i i n k len
    split at h
    · rename_i r hr
      split at h
      · rename_i hn
        cases h
        cases hx with
        | sl hV hi hle hh =>
          obtain ⟨hk, a, cap, rfl, hc, hs⟩ := hh r hr hn
          have hlen : ((r.es.drop k).take len).length = len := by simp; omega
          unfold SlAt at hs
          split at hs
          · obtain ⟨rfl, rfl⟩ := hs
            have h0 : len = 0 := by omega
            subst h0
            simp only [List.take_zero]
            exact ⟨[], ⟨none, 0, rfl⟩, fun n hn => by subst hn; simp [Builtin.firstCells], by simp, fun e he => by simp at he, fun k e j p h1 => by simp at h1, fun _ e he => by simp at he⟩
          · obtain ⟨b, hb, rfl, c, e', fr, hh1, hh2⟩ := hs
            have hB := hR.blk i b r hb hr
            have hsz := hB.sz
            obtain ⟨c0, fr0, cv, m1, m2, m3, m4⟩ := hB.mem
            have hel : ∀ e, e ∈ (r.es.drop k).take len → e.cells.length = r.s := fun e he => hB.len e (List.mem_of_mem_drop (List.mem_of_mem_take he))
            have hget : ∀ (x : Nat) e, ((r.es.drop k).take len)[x]? = some e → r.es[k + x]? = some e := fun x e he => by
              rw [List.getElem?_take] at he
              split at he
              · rw [List.getElem?_drop] at he; exact he
              · cases he
            obtain ⟨vs, v1, v2, v3⟩ := cells_list (P := P) (C := C) (b := b) (off := k * r.s) hel (fun x e j p h1 h2 => by
              obtain ⟨g1, g2⟩ := m4 (k + x) e j p (hget x e h1) h2
              refine ⟨_, ?_, g2⟩
              rw [cell_row m1, ← g1, Nat.add_mul])
            rw [← hsz]
            refine ⟨vs, ⟨_, _, by rw [hlen]⟩, fun n hn => ?_, v1, hel, v3, fun hb e he => hB.typed hb e (List.mem_of_mem_drop (List.mem_of_mem_take he))⟩
            exact run_firstCells_some C.w r.s n _ len cap vs (by rw [v1, hn]) v2
      · cases h
    · cases h
  · cases h
    cases hx with
    | @lst _ _ _ a cap b off cv hcap hfull hA hC hR' ht =>
      by_cases h0 : es.length = 0
      · have : es = [] := List.eq_nil_of_length_eq_zero h0
        subst this
        refine ⟨[], ⟨_, _, rfl⟩, fun n hn => ?_, by simp, fun e he => by simp at he, fun k e j p h1 => by simp at h1, fun _ e he => by simp at he⟩
        subst hn
        cases a
        · simp [Builtin.firstCells]
        · simp [Builtin.firstCells, loadCells, loadCellsFrom]
      · obtain ⟨rfl, g2, g3⟩ := hA (by omega)
        obtain ⟨vs, v1, v2, v3⟩ := cells_list (P := P) (C := C) (b := b) (off := off) (s := P.cellsOf t) (fun e he => wt_length (ht e he)) (fun x e j p h1 h2 => ⟨_, hC x e j p h1 h2, hR' x e j p h1 h2⟩)
        refine ⟨vs, ⟨_, _, rfl⟩, fun n hn => ?_, v1, fun e he => wt_length (ht e he), v3, fun _ => ht⟩
        exact run_firstCells_some C.w (P.cellsOf t) n _ es.length cap vs (by rw [v1, hn]) v2
  · cases h

def cellishAll (es : List PV) : Bool := es.all fun e => e.cells.all cellish

def appendQ (P : Program) (ro : Nat) (H : List Row) (c : Call) (x y : PV) : Option (PV × List Row) :=
  match c.argTypes[0]?, c.argTypes[1]? with
  | some T, some T2 =>
    match P.underlying T, P.underlying T2, srcOf H y with
    | some (.slice e), some (.slice _), some (ty, t, news) =>
      if known P e && t == e && (zeroQ P e).any (fun z => z.cells.size == P.cellsOf e) && P.bytesOf e != 0 && (ty || cellishAll news) then
        match x with
        | .sl i n 0 len =>
          match rowAt H i with
          | some r =>
            if ro ≤ i ∧ r.es.length = n ∧ n = len ∧ (n + news.length) * P.bytesOf e ≤ 140737488355328 then
              if r.t == e && r.s == P.cellsOf e then
                some (.sl i (n + news.length) 0 (n + news.length), H.set i { r with es := r.es ++ news, bv := r.bv && ty, nl := r.nl && news.isEmpty }) else none
            else none
          | none => none
        | .val (.slice none 0 0) =>
          if news.length * P.bytesOf e ≤ 140737488355328 then
            if news.isEmpty then some (x, H) else some (.sl H.length news.length 0 news.length, H ++ [{ es := news, s := P.cellsOf e, t := e, bv := ty }]) else none
        | .lst true t2 es =>
          if t2 == e then
            if (es.length + news.length) * P.bytesOf e ≤ 140737488355328 then
              if news.isEmpty then some (x, H) else some (.sl H.length (es.length + news.length) 0 (es.length + news.length), H ++ [{ es := es ++ news, s := P.cellsOf e, t := e, bv := ty }]) else none
          else none
        | _ => none
      else none
    | _, _, _ => none
  | _, _ => none

section
variable {P : Program} {T T2 e e2 : TypeId} {i : TypeInfo} {z : Value} {n cap m cap2 : Nat} {a a2 : Option Addr} {ts : Array TypeId}
theorem run_append_grow' (w : World) (hT : ts[0]? = some T) (hT2 : ts[1]? = some T2) (hu : P.underlying T = some (.slice e)) (hu2 : P.underlying T2 = some (.slice e2)) (hi : P.info? e = some i) (hz : i.zero = some z)
    (hb : i.bytes ≠ 0) (hbig : (n + m) * i.bytes ≤ 140737488355328) (hg : cap < n + m) (ty : TypeId) :
    (Builtin.append_ ts ty #[.slice a n cap, .slice a2 m cap2]).run P w = ((Builtin.firstCells i.size n (.slice a n cap)).run P w.drew).andThen fun old w1 =>
      ((Builtin.firstCells i.size m (.slice a2 m cap2)).run P w1).andThen fun new w2 =>
        .ok (.slice (some ⟨w2.heap.size, 0, none⟩) (n + m) (grownCap w (n + m) cap e)) (w2.alloc (.cells (old ++ new ++ Builtin.zeroCells z.cells (grownCap w (n + m) cap e - (n + m))) e)) := by
  have hfit := growslice_fits hg hbig
  have hb' : ¬ (Builtin.nextslicecap (n + m) cap * i.bytes > 281474976710656) := by omega
  have hf : (Question.appendCap (n + m) cap e).forced = false := rfl
  simp only [Builtin.append_, hT, hT2, List.getElem?_toArray, List.getElem?_cons_zero, List.getElem?_cons_succ, Sem.run_bind, run_underlying hu, run_underlying hu2, Result.andThen_ok, sizeOf, typeInfo, run_program, hi, Sem.run_pure, Builtin.lenOf,
    Bool.not_false, if_true, Bool.false_eq_true, if_false, false_or]
  rw [if_neg (by omega)]
  simp only [Sem.run_bind, Sem.run_pure, Result.andThen_ok, run_program, hi, hb, and_false, if_false]
  rw [if_neg (by omega)]
  simp only [Sem.run_bind, run_choose, hf, Bool.false_eq_true, if_false, Result.andThen_ok, run_askRoom, zeroValue, typeInfo, run_program, hi, hz, Sem.run_pure, newRow, run_newObj]
  rfl

theorem run_append_room' (w : World) (hT : ts[0]? = some T) (hT2 : ts[1]? = some T2) (hu : P.underlying T = some (.slice e)) (hu2 : P.underlying T2 = some (.slice e2)) (hi : P.info? e = some i)
    (hg : n + m ≤ cap) (ty : TypeId) :
    (Builtin.append_ ts ty #[.slice a n cap, .slice a2 m cap2]).run P w = ((Builtin.firstCells i.size m (.slice a2 m cap2)).run P w).andThen fun new w1 =>
      match a with
      | some ad => ((storeCells (ad.add (n * i.size)) new.toList).run P w1).andThen fun _ w2 => .ok (.slice a (n + m) cap) w2
      | none => .ok (.slice a (n + m) cap) w1 := by
  simp only [Builtin.append_, hT, hT2, List.getElem?_toArray, List.getElem?_cons_zero, List.getElem?_cons_succ, Sem.run_bind, run_underlying hu, run_underlying hu2, Result.andThen_ok, sizeOf, typeInfo, run_program, hi, Sem.run_pure, Builtin.lenOf,
    Bool.not_false, if_true, Bool.false_eq_true, if_false]
  rw [if_pos hg]
  cases a <;> simp
end

/-- Elements and their cells' values. -/
structure Rel3 (P : Program) (C : Ctx) (s : Nat) (es : List PV) (vs : List Value) : Prop where
  len : vs.length = es.length * s
  el : ∀ e, e ∈ es → e.cells.length = s
  rel : ∀ (k : Nat) e (j : Nat) p, es[k]? = some e → e.cells[j]? = some p → ∃ v, vs[k * s + j]? = some v ∧ RV P C p v
theorem Src.rel3 {P : Program} {C : Ctx} {s : Nat} {t : TypeId} {ty : Bool} {es : List PV} {V : Value} {vs : List Value} (h : Src P C s t ty es V vs) : Rel3 P C s es vs := ⟨h.len, h.el, h.rel⟩
theorem Rel3.app {P : Program} {C : Ctx} {s : Nat} {es fs : List PV} {vs us : List Value} (h : Rel3 P C s es vs) (k : Rel3 P C s fs us) : Rel3 P C s (es ++ fs) (vs ++ us) := by
  refine ⟨by simp [h.len, k.len, Nat.add_mul], fun e he => ?_, fun x e j p h1 h2 => ?_⟩
  · rcases List.mem_append.1 he with he | he
    · exact h.el e he
    · exact k.el e he
  · rw [List.getElem?_append] at h1
    split at h1
    · rename_i hx
      obtain ⟨v, g1, g2⟩ := h.rel x e j p h1 h2
      refine ⟨v, ?_, g2⟩
      rw [List.getElem?_append, if_pos (List.getElem?_eq_some_iff.1 g1).1]
      exact g1
    · rename_i hx
      obtain ⟨v, g1, g2⟩ := k.rel _ e j p h1 h2
      refine ⟨v, ?_, g2⟩
      have h5 : es.length * s ≤ x * s := Nat.mul_le_mul_right _ (by omega)
      rw [List.getElem?_append, if_neg (by rw [h.len]; omega), h.len]
      rw [Nat.sub_mul] at g1
      rw [← g1]
      congr 1
      omega
theorem Rel3.mono {P : Program} {C C' : Ctx} {s : Nat} {es : List PV} {vs : List Value} (h : Rel3 P C s es vs) (hx : Ext C C') : Rel3 P C' s es vs :=
  ⟨h.len, h.el, fun k e j p h1 h2 => let ⟨v, g1, g2⟩ := h.rel k e j p h1 h2; ⟨v, g1, g2.mono hx⟩⟩

/-- A block whose first cells are these is a row of these elements. -/
theorem Rel3.rb {P : Program} {C : Ctx} {b : Nat} {r : Row} {vs : List Value} {c : Array Value} {fr : Nat × Nat} (h : Rel3 P C r.s r.es vs) (hs : r.s = P.cellsOf r.t) (hb : C.w.heap[b]? = some (.cells c r.t fr))
    (hf : ∀ off, off < c.size → (decide (fr.1 ≤ off) && decide (off < fr.2)) = false) (hc : ∀ (j : Nat) v, vs[j]? = some v → c[j]? = some v) (ht : r.bv = true → ∀ e, e ∈ r.es → wt P r.t e = true) : RB P C b r := by
  refine ⟨hs, ⟨c, fr, fun k j => c.getD (k * r.s + j) undef, hb, hf, ?_, fun k e j p h1 h2 => ?_⟩, h.el, ht⟩
  · rw [← h.len]
    rcases Nat.eq_zero_or_pos vs.length with h0 | h0
    · omega
    · have : vs[vs.length - 1]? = some (vs[vs.length - 1]) := List.getElem?_eq_getElem (by omega)
      have := (Array.getElem?_eq_some_iff.1 (hc _ _ this)).1
      omega
  · obtain ⟨v, g1, g2⟩ := h.rel k e j p h1 h2
    have g3 := hc _ _ g1
    have e2 : c.getD (k * r.s + j) undef = v := by rw [Array.getD_eq_getD_getElem?, g3]; rfl
    simp only [e2]
    exact ⟨g3, g2⟩

theorem rows_ne {C : Ctx} {i x : Nat} {r r' : Row} (hr : C.row? i = some r) (h1 : C.H[x]? = some r') (h3 : r'.live = false) : x ≠ i := fun e => by
  subst e
  have : C.row? x = none := by unfold Ctx.row? rowAt; rw [h1]; simp [h3]
  rw [this] at hr; cases hr
theorem setRow_turn {P : Program} {C : Ctx} (hR : RH P C) {i : Nat} {r r2 : Row} (hi : i < C.H.length) (hro : C.ro ≤ i) (hr : C.row? i = some r) (hl : r2.live = true) (he : r2.es = r.es) (hs : r2.s = r.s) (ht : r2.t = r.t) (hn : r2.nl = r.nl) (hb : r2.bv = true → r.bv = true) :
    Turn P C { C with H := C.H.set i r2 } (C.H.set i r2) := by
  have hx : Ext C { C with H := C.H.set i r2 } := by
    refine ⟨rfl, rfl, rfl, Nat.le_refl _, fun _ _ _ => rfl, fun _ c _ _ h => ⟨c, h, rfl⟩, by simp, fun x r' hxl hr' => ?_, fun _ h => .inl h, fun _ h => .inl h, rfl, rfl, fun x hx => ⟨by show (C.H.set i r2)[x]? = _; rw [List.getElem?_set, if_neg (by omega)], rfl⟩,
      fun x r' info h1 h2 h3 => ⟨⟨r', info.st, by show (C.H.set i r2)[x]? = _; rw [List.getElem?_set, if_neg (fun e => rows_ne hr h1 h3 e.symm)]; exact h1, h2, h3⟩, fun _ h => h⟩, fun _ rec h => ⟨rec, h⟩⟩
    have h1 : rowAt (C.H.set i r2) x = some r' := hr'
    rw [rowAt_set hi hl] at h1
    split at h1
    · rename_i e; subst e; cases h1; exact ⟨r, hr, hs.symm, ht.symm, by rw [he]; exact Nat.le_refl _, fun _ => ⟨hn.symm, fun _ h => h⟩⟩
    · exact ⟨r', h1, rfl, rfl, Nat.le_refl _, fun _ => ⟨rfl, fun _ h => h⟩⟩
  refine ⟨rfl, hx, hR.inj, fun x b h => ?_, fun x b r' h1 h2 => ?_, by simpa using hR.ro, hR.nfo, hR.fol, fun x b r' info h1 h2 h3 h4 => ?_⟩
  · by_cases hxi : x = i
    · refine .inl ?_
      show ∃ q, rowAt (C.H.set i r2) x = some q
      rw [rowAt_set hi hl, if_pos hxi]
      exact ⟨_, rfl⟩
    · rcases hR.dom x b h with ⟨q, hq⟩ | ⟨q, info, h1, h2, h3⟩
      · exact .inl ⟨q, by show rowAt (C.H.set i r2) x = some q; rw [rowAt_set hi hl, if_neg hxi]; exact hq⟩
      · exact .inr ⟨q, info, by show (C.H.set i r2)[x]? = _; rw [List.getElem?_set, if_neg (fun e => hxi e.symm)]; exact h1, h2, h3⟩
  · have h3 : rowAt (C.H.set i r2) x = some r' := h2
    rw [rowAt_set hi hl] at h3
    split at h3
    · rename_i e
      subst e
      cases h3
      have hB := hR.blk x b r h1 hr
      obtain ⟨c, fr, cv, m1, m2, m3, m4⟩ := hB.mem
      exact ⟨by rw [hs, ht]; exact hB.sz, ⟨c, fr, cv, by rw [ht]; exact m1, m2, by rw [he, hs]; exact m3, fun k e j p q1 q2 => by rw [he] at q1; rw [hs]; exact ⟨(m4 k e j p q1 q2).1, (m4 k e j p q1 q2).2.mono hx⟩⟩,
        fun e q => by rw [he] at q; rw [hs]; exact hB.len e q, fun q e q2 => by rw [he] at q2; rw [ht]; exact hB.typed (hb q) e q2⟩
    · exact (hR.blk x b r' h1 h3).mono hx rfl
  · have hxi : x ≠ i := fun e => by
      subst e
      have h2' : (C.H.set x r2)[x]? = some r' := h2
      rw [List.getElem?_set, if_pos rfl, if_pos hi] at h2'
      cases h2'
      rw [hl] at h4; cases h4
    have h2' : (C.H.set i r2)[x]? = some r' := h2
    rw [List.getElem?_set, if_neg (fun e => hxi e.symm)] at h2'
    exact (hR.lps x b r' info h1 h2' h3 h4).mono hx rfl

/-- One row more, without a block as yet. -/
def Ctx.more (C : Ctx) (r : Row) : Ctx := { C with H := C.H ++ [r] }
theorem rowAt_append {H : List Row} {r : Row} {x : Nat} (h : x < H.length) : rowAt (H ++ [r]) x = rowAt H x := by
  unfold rowAt
  rw [List.getElem?_append_left h]
theorem more_ext {P : Program} {C : Ctx} (hR : RH P C) (r : Row) : Ext C (C.more r) :=
  ⟨rfl, rfl, rfl, Nat.le_refl _, fun _ _ _ => rfl, fun _ c _ _ h => ⟨c, h, rfl⟩, by simp [Ctx.more], fun x r' hx h => ⟨r', by rw [← h]; exact (rowAt_append hx).symm, rfl, rfl, Nat.le_refl _, fun _ => ⟨rfl, fun _ h => h⟩⟩, fun _ h => .inl h, fun _ h => .inl h, rfl, rfl, fun x hx => ⟨List.getElem?_append_left (by have := hR.ro; omega), rfl⟩,
    fun x r' info h1 h2 h3 => ⟨⟨r', info.st, by rw [← h1]; exact List.getElem?_append_left (List.getElem?_eq_some_iff.1 h1).1, h2, h3⟩, fun _ h => h⟩, fun _ rec h => ⟨rec, h⟩⟩
theorem RH.ρ_lt {P : Program} {C : Ctx} (h : RH P C) {i b : Nat} (hi : C.ρ i = some b) : i < C.H.length := by
  rcases h.dom i b hi with ⟨r, hr⟩ | ⟨r, info, h1, _⟩
  · exact rowAt_lt hr
  · exact (List.getElem?_eq_some_iff.1 h1).1
theorem RH.ρ_none {P : Program} {C : Ctx} (h : RH P C) {i : Nat} (hi : C.H.length ≤ i) : C.ρ i = none := by
  cases hh : C.ρ i with
  | none => rfl
  | some b => have := h.ρ_lt hh; omega
theorem more_rh {P : Program} {C : Ctx} (h : RH P C) (r : Row) : RH P (C.more r) := by
  refine ⟨h.inj, fun i b hi => ?_, fun i b r' h1 h2 => ?_, by have := h.ro; simp [Ctx.more]; omega, h.nfo, h.fol, fun i b r' info h1 h2 h3 h4 => ?_⟩
  · rcases h.dom i b hi with ⟨q, hq⟩ | ⟨q, info, h1, h2, h3⟩
    · exact .inl ⟨q, by rw [← hq]; exact rowAt_append (h.ρ_lt hi)⟩
    · exact .inr ⟨q, info, by rw [← h1]; exact List.getElem?_append_left (h.ρ_lt hi), h2, h3⟩
  · have h3 : rowAt (C.H ++ [r]) i = some r' := h2
    rw [rowAt_append (h.ρ_lt h1)] at h3
    exact (h.blk i b r' h1 h3).mono (more_ext h r) rfl
  · have h2' : (C.H ++ [r])[i]? = some r' := h2
    rw [List.getElem?_append_left (h.ρ_lt h1)] at h2'
    exact (h.lps i b r' info h1 h2' h3 h4).mono (more_ext h r) rfl

/-- A new row of these elements, laid into a new block. -/
theorem new_row {P : Program} {C : Ctx} (hR : RH P C) {t : TypeId} {es : List PV} {ty : Bool} {vs : List Value} {c : Array Value} {cap : Nat} (h : Rel3 P C (P.cellsOf t) es vs) (hc : ∀ (j : Nat) v, vs[j]? = some v → c[j]? = some v)
    (ht : ty = true → ∀ e, e ∈ es → wt P t e = true) (hcap : es.length ≤ cap) (hcs : cap * P.cellsOf t ≤ c.size) :
    Turn P C ((C.more { es, s := P.cellsOf t, t, bv := ty }).bind C.H.length (.cells c t)) (C.H ++ [{ es, s := P.cellsOf t, t, bv := ty }]) ∧
      RV P ((C.more { es, s := P.cellsOf t, t, bv := ty }).bind C.H.length (.cells c t)) (.sl C.H.length es.length 0 es.length) (.slice (some ⟨C.w.heap.size, 0, none⟩) es.length cap) := by
  generalize hr : ({ es, s := P.cellsOf t, t, bv := ty } : Row) = r
  have hrow : (C.more r).row? C.H.length = some r := by
    show rowAt (C.H ++ [r]) C.H.length = some r
    unfold rowAt
    simp [← hr]
  have hρ : (C.more r).ρ C.H.length = none := hR.ρ_none (Nat.le_refl _)
  have hx1 := more_ext hR r
  have hx2 := Ctx.bind_ext (C := C.more r) hρ hR.ro (.cells c t)
  have hB : RB P ((C.more r).bind C.H.length (.cells c t)) C.w.heap.size r := by
    subst hr
    exact Rel3.rb (h.mono (hx1.trans hx2)) rfl (heap_alloc_new C.w _) (fun off _ => by simp) hc ht
  refine ⟨⟨rfl, hx1.trans hx2, ?_⟩, ?_⟩
  · have hR1 := more_rh hR r
    refine ⟨fun x y b h1 h2 => ?_, fun x b h1 => ?_, fun x b r' h1 h2 => ?_, hR1.ro, fun x b hx => ?_, fun b hb => Nat.lt_of_lt_of_le (hR.fol b hb) (hx1.trans hx2).size, fun x b r' info h1 h2 h3 h4 => ?_⟩
    · simp only [Ctx.bind] at h1 h2
      split at h1 <;> split at h2
      · omega
      · cases h1; have := hR1.lt h2; simp only [Ctx.more] at this; omega
      · cases h2; have := hR1.lt h1; simp only [Ctx.more] at this; omega
      · exact hR1.inj x y b h1 h2
    · simp only [Ctx.bind] at h1
      split at h1
      · rename_i e; subst e; exact .inl ⟨r, hrow⟩
      · exact hR1.dom x b h1
    · simp only [Ctx.bind] at h1
      split at h1
      · rename_i e
        subst e
        cases h1
        have e2 : r' = r := Option.some.inj ((show (C.more r).row? C.H.length = some r' from h2).symm.trans hrow)
        subst e2
        exact hB
      · have hb := hR1.blk x b r' h1 h2
        exact hb.mono hx2 (Go.heap_alloc_old C.w _ hb.lt)
    · simp only [Ctx.bind] at hx ⊢
      split at hx
      · cases hx; exact fun hf => Nat.lt_irrefl _ (hR1.fol _ hf)
      · exact hR1.nfo x b hx
    · simp only [Ctx.bind] at h1
      have hxi : x ≠ C.H.length := rows_ne (C := C.more r) hrow h2 h4
      rw [if_neg hxi] at h1
      have hb := hR1.lps x b r' info h1 h2 h3 h4
      exact hb.mono hx2 (Go.heap_alloc_old C.w _ hb.lt)
  · have key : ∀ r', ((C.more r).bind C.H.length (.cells c t)).row? C.H.length = some r' → r' = r := fun r' h2 => Option.some.inj ((show (C.more r).row? C.H.length = some r' from h2).symm.trans hrow)
    refine .sl ⟨_, _, rfl⟩ (by simp [Ctx.bind, Ctx.more]) (fun r' hr' => ?_) fun r' hr' _ => ?_
    · rw [key r' hr', ← hr]; exact Nat.le_refl _
    · rw [key r' hr']
      refine ⟨by omega, _, _, rfl, hcap, ?_⟩
      unfold SlAt
      rw [if_neg (by simp [← hr])]
      refine ⟨C.w.heap.size, by simp [Ctx.bind, Ctx.more], by simp, c, t, (0, 0), heap_alloc_new C.w _, ?_⟩
      subst hr
      simpa using hcs

theorem getElem?_app3 {old new rest : Array Value} {vs us : List Value} (ho : old = vs.toArray) (hn : new = us.toArray) : ∀ (j : Nat) v, (vs ++ us)[j]? = some v → (old ++ new ++ rest)[j]? = some v := by
  intro j v h
  subst ho; subst hn
  rw [← Array.getElem?_toList]
  simp only [Array.toList_append]
  rw [List.getElem?_append, if_pos (List.getElem?_eq_some_iff.1 h).1]
  exact h

theorem size_app3 {P : Program} {C : Ctx} {t : TypeId} {es fs : List PV} {vs us : List Value} {z : Value} {cap : Nat} (h : Rel3 P C (P.cellsOf t) es vs) (k : Rel3 P C (P.cellsOf t) fs us) (hz : z.cells.size = P.cellsOf t) (hc : es.length + fs.length ≤ cap) :
    cap * P.cellsOf t ≤ (vs.toArray ++ us.toArray ++ Builtin.zeroCells z.cells (cap - (es.length + fs.length))).size := by
  simp only [Array.size_append, List.size_toArray, size_zeroCells, h.len, k.len, hz, ← Nat.add_mul]
  rw [show es.length + fs.length + (cap - (es.length + fs.length)) = cap by omega]
  exact Nat.le_refl _

theorem appendQ_sound {P : Program} {C : Ctx} {c : Call} {x y p : PV} {X Y : Value} {H' : List Row} (hR : RH P C) (hx : RV P C x X) (hy : RV P C y Y) (h : appendQ P C.ro C.H c x y = some (p, H')) (ty0 : TypeId) :
    ∃ v C', (Builtin.append_ c.argTypes ty0 #[X, Y]).run P C.w = .ok v C'.w ∧ Turn P C C' H' ∧ RV P C' p v ∧ ∀ i n k l, x = .sl i n k l → ∀ z, z ≠ i → C'.ρ z = C.ρ z := by
  unfold appendQ at h
  split at h
  · rename_i T T2 hT hT2
    split at h
    · rename_i e e2 ty t news hu hu2 hsrc
      split at h
      · rename_i hc
        simp only [Bool.and_eq_true, beq_iff_eq, bne_iff_ne] at hc
        obtain ⟨⟨⟨⟨hk, rfl⟩, hz⟩, hby⟩, hcell⟩ := hc
        obtain ⟨i, d, hinfo, hd, hsz⟩ := info_of_known hk
        obtain ⟨z, hz, hzs⟩ : ∃ z, zeroQ P t = some z ∧ z.cells.size = P.cellsOf t := by
          cases hzz : zeroQ P t with
          | none => simp [hzz] at hz
          | some z => exact ⟨z, rfl, by simpa [hzz] using hz⟩
        have hiz : i.zero = some z := by simpa [zeroQ, hinfo] using hz
        have hib : P.bytesOf t = i.bytes := by simp [Program.bytesOf, hinfo]
        rw [hib] at hby h
        obtain ⟨us, hS⟩ := srcOf_sound hR hy hsrc
        have hS1 := srcOf_sound (C := C.dr) (dr_rh hR) (hy.mono (dr_ext C)) hsrc
        obtain ⟨us1, hS1⟩ := hS1
        obtain ⟨a2, cap2, rfl⟩ := hS.shape
        -- growing, out of a source
        have grow : ∀ {es : List PV} {vs : List Value} {a : Option Addr} {cap : Nat}, Rel3 P C.dr (P.cellsOf t) es vs → (Builtin.firstCells i.size es.length (.slice a es.length cap)).run P C.dr.w = .ok vs.toArray C.dr.w →
            cap < es.length + news.length → (es.length + news.length) * i.bytes ≤ 140737488355328 →
            ∃ cc nc, (Builtin.append_ c.argTypes ty0 #[.slice a es.length cap, .slice a2 news.length cap2]).run P C.w = .ok (.slice (some ⟨C.w.heap.size, 0, none⟩) (es.length + news.length) nc) (C.w.drew.alloc (.cells cc t)) ∧
              (∀ (j : Nat) v, (vs ++ us1)[j]? = some v → cc[j]? = some v) ∧ es.length + news.length ≤ nc ∧ nc * P.cellsOf t ≤ cc.size := by
          intro es vs a cap hr3 hf hg hb
          have hrun := run_append_grow' (P := P) (n := es.length) (cap := cap) (m := news.length) (cap2 := cap2) (a := a) (a2 := a2) C.w hT hT2 hu hu2 hinfo hiz hby hb hg ty0
          have hf2 := hS1.first news.length rfl
          rw [hsz] at hf2
          have e1 : (Builtin.firstCells i.size es.length (.slice a es.length cap)).run P C.w.drew = .ok vs.toArray C.w.drew := hf
          have e2 : (Builtin.firstCells i.size news.length (.slice a2 news.length cap2)).run P C.w.drew = .ok us1.toArray C.w.drew := hf2
          rw [e1] at hrun
          simp only [Result.andThen_ok, e2] at hrun
          refine ⟨_, _, hrun, getElem?_app3 rfl rfl, grownCap_ge C.w _ _ _, ?_⟩
          exact size_app3 hr3 hS1.rel3 hzs (grownCap_ge C.w _ _ _)
        split at h
        · -- a row
          rename_i ii n len
          split at h
          · rename_i r hr
            split at h
            · rename_i hc2
              obtain ⟨hro, hn, rfl, hbig⟩ := hc2
              split at h
              · rename_i hc3
                simp only [Bool.and_eq_true, beq_iff_eq] at hc3
                obtain ⟨hrt, hrs⟩ := hc3
                cases h
                have hxs : srcOf C.H (.sl ii n 0 n) = some (r.bv, r.t, r.es) := by
                  simp only [srcOf, hr, hn, if_true, List.drop_zero]
                  rw [← hn, List.take_length]
                have hlive : r.live = true := by
                  unfold rowAt at hr
                  split at hr
                  · split at hr
                    · rename_i hlv; cases hr; exact hlv
                    · cases hr
                  · cases hr
                have hxc := hx
                cases hx with
                | sl hV hi hle hh =>
                  obtain ⟨_, a, cap, rfl, hcap, hs⟩ := hh r hr hn
                  subst hn
                  by_cases hm : news.length = 0
                  · -- nothing is appended
                    have hnil : news = [] := List.eq_nil_of_length_eq_zero hm
                    subst hnil
                    have hrun := run_append_room' (P := P) (n := r.es.length) (cap := cap) (m := 0) (cap2 := cap2) (a := a) (a2 := a2) C.w hT hT2 hu hu2 hinfo (by omega) ty0
                    have hf := hS.first 0 rfl
                    rw [hsz] at hf
                    have hus : us = [] := List.eq_nil_of_length_eq_zero (by simpa using hS.len)
                    subst hus
                    have hf' : (Builtin.firstCells i.size 0 (.slice a2 0 cap2)).run P C.w = .ok #[] C.w := hf
                    rw [hf'] at hrun
                    simp only [Result.andThen_ok, storeCells, Sem.run_pure, Nat.add_zero] at hrun
                    have hT2' := setRow_turn (r2 := { r with es := r.es ++ [], bv := r.bv && ty, nl := r.nl && ([] : List PV).isEmpty }) hR hi hro hr hlive (by simp) rfl rfl (by simp) (fun hb => by simp only [Bool.and_eq_true] at hb; exact hb.1)
                    refine ⟨.slice a r.es.length cap, _, ?_, hT2', ?_, fun _ _ _ _ _ _ _ => rfl⟩
                    · show (Builtin.append_ c.argTypes ty0 #[.slice a r.es.length cap, .slice a2 0 cap2]).run P C.w = _
                      rw [hrun]
                      cases a <;> rfl
                    · exact hxc.mono hT2'.ext
                  · -- something is
                    have hnl : (r.nl && news.isEmpty) = false := by
                      cases news with
                      | nil => simp at hm
                      | cons _ _ => simp
                    have hne : r.es.length ≠ (r.es ++ news).length := by rw [List.length_append]; omega
                    obtain ⟨vs1, hD1⟩ := srcOf_sound (C := C.dr) (dr_rh hR) (hxc.mono (dr_ext C)) hxs
                    rw [hrt] at hD1
                    have tyd : (r.bv && ty) = true → ∀ e, e ∈ r.es ++ news → wt P t e = true := fun hb e he => by
                      simp only [Bool.and_eq_true] at hb
                      rcases List.mem_append.1 he with he | he
                      · exact hD1.typed hb.1 e he
                      · exact hS.typed hb.2 e he
                    by_cases hroom : r.es.length + news.length ≤ cap
                    · -- in place
                      unfold SlAt at hs
                      split at hs
                      · omega
                      · obtain ⟨b, hb, rfl, c0, e0, fr0, hh1, hh2⟩ := hs
                        have hB := hR.blk ii b r hb hr
                        obtain ⟨c1, fr, cv, m1, m2, m3, m4⟩ := hB.mem
                        rw [m1] at hh1
                        obtain ⟨rfl, rfl, rfl⟩ : c1 = c0 ∧ r.t = e0 ∧ fr = fr0 := by cases hh1; exact ⟨rfl, rfl, rfl⟩
                        have hD : Rel3 P C (P.cellsOf t) r.es (c1.toList.take (r.es.length * P.cellsOf t)) := by
                          rw [← hrs]
                          refine ⟨by rw [List.length_take, Array.length_toList]; exact Nat.min_eq_left m3, hB.len, fun k e j p q1 q2 => ?_⟩
                          have hkl := (List.getElem?_eq_some_iff.1 q1).1
                          have hjl : j < r.s := by rw [← hB.len e (List.mem_of_getElem? q1)]; exact (List.getElem?_eq_some_iff.1 q2).1
                          have h5 : (k + 1) * r.s ≤ r.es.length * r.s := Nat.mul_le_mul_right _ hkl
                          rw [Nat.add_mul, Nat.one_mul] at h5
                          obtain ⟨w1, w2⟩ := m4 k e j p q1 q2
                          exact ⟨_, by rw [List.getElem?_take, if_pos (by omega), Array.getElem?_toList]; exact w1, w2⟩
                        have hone : ∀ v ∈ us, v.oneCell' = true := fun v hv => by
                          obtain ⟨j, hj⟩ := List.getElem?_of_mem hv
                          have hlt : j < news.length * P.cellsOf t := by rw [← hS.len]; exact (List.getElem?_eq_some_iff.1 hj).1
                          have hs0 : 0 < P.cellsOf t := by
                            rcases Nat.eq_zero_or_pos (P.cellsOf t) with h0 | h0
                            · rw [h0] at hlt; simp at hlt
                            · exact h0
                          have hkk : j / P.cellsOf t < news.length := (Nat.div_lt_iff_lt_mul hs0).2 hlt
                          have he := List.getElem?_eq_getElem hkk
                          have hmem := List.getElem_mem hkk
                          have hmm : j % P.cellsOf t < (news[j / P.cellsOf t]).cells.length := by rw [hS.el _ hmem]; exact Nat.mod_lt _ hs0
                          obtain ⟨v', g1, g2⟩ := hS.rel (j / P.cellsOf t) _ (j % P.cellsOf t) _ he (List.getElem?_eq_getElem hmm)
                          have e3 : j / P.cellsOf t * P.cellsOf t + j % P.cellsOf t = j := by
                            have := Nat.div_add_mod j (P.cellsOf t)
                            rw [Nat.mul_comm] at this
                            omega
                          rw [e3, hj] at g1
                          cases g1
                          refine g2.oneCell ?_
                          rcases (Bool.or_eq_true _ _).mp hcell with hty | hca
                          · exact wt_cellish (hS.typed hty _ hmem) _ (List.getElem_mem hmm)
                          · have := List.all_eq_true.1 hca _ hmem
                            exact List.all_eq_true.1 this _ (List.getElem_mem hmm)
                        have hle5 : (r.es.length + news.length) * P.cellsOf t ≤ c1.size := by
                          refine Nat.le_trans (Nat.mul_le_mul_right _ hroom) ?_
                          rw [← hrs]; simpa using hh2
                        rw [Nat.add_mul] at hle5
                        obtain ⟨w', c', g1, g2, g3⟩ := run_storeCells_any (P := P) (b := b) (off := r.es.length * P.cellsOf t) us 0 C.w c1 m1 m2 (by rw [hS.len]; omega) hone
                        have hrun := run_append_room' (P := P) (n := r.es.length) (cap := cap) (m := news.length) (cap2 := cap2) (a := some ⟨b, 0, none⟩) (a2 := a2) C.w hT hT2 hu hu2 hinfo hroom ty0
                        have hf := hS.first news.length rfl
                        rw [hsz] at hf
                        rw [hf] at hrun
                        simp only [Result.andThen_ok, addr_add, Nat.zero_add, ← hsz] at hrun
                        rw [g1] at hrun
                        simp only [Result.andThen_ok] at hrun
                        generalize hr2 : ({ r with es := r.es ++ news, bv := r.bv && ty, nl := r.nl && news.isEmpty } : Row) = r2
                        have hl2 : r2.live = true := by rw [← hr2]; exact hlive
                        have hext : Ext C (C.upd ii b r2 w') := by
                          refine upd_ext hi hro hr hl2 (by rw [← hr2]) (by rw [← hr2]) (by rw [← hr2]; simp) (fun he => absurd he (by rw [← hr2]; exact hne)) g2.os g2.tape g2.output (by rw [g2.size]; exact Nat.le_refl _) (fun b' hlt hno => g2.other b' fun e => hno ⟨ii, hro, by rw [e]; exact hb⟩) (fun b' cx ex frx h1 => ?_) (fun b' rec h1 => by rw [g2.other b' fun e => by rw [e, m1] at h1; cases h1]; exact h1) (.inl hb)
                          by_cases hbb : b' = b
                          · subst hbb; rw [m1] at h1; cases h1; exact ⟨c', g2.at_, g2.csize⟩
                          · exact ⟨cx, by rw [g2.other b' hbb]; exact h1, rfl⟩
                        have hcat : ∀ (j : Nat) v, (c1.toList.take (r.es.length * P.cellsOf t) ++ us)[j]? = some v → c'[j]? = some v := by
                          intro j v hj
                          rw [g3 j]
                          rw [List.getElem?_append] at hj
                          split at hj
                          · rename_i hjl
                            rw [hD.len] at hjl
                            rw [if_neg (by omega)]
                            rw [List.getElem?_take, if_pos hjl, Array.getElem?_toList] at hj
                            exact hj
                          · rename_i hjl
                            rw [hD.len] at hjl hj
                            have hjs := (List.getElem?_eq_some_iff.1 hj).1
                            rw [if_pos (by rw [Nat.add_zero]; omega), Nat.add_zero]
                            exact hj
                        have hRB : RB P (C.upd ii b r2 w') b r2 := by
                          have hr3 : Rel3 P (C.upd ii b r2 w') r2.s r2.es (c1.toList.take (r.es.length * P.cellsOf t) ++ us) := by
                              rw [show r2.s = P.cellsOf t by rw [← hr2]; exact hrs, show r2.es = r.es ++ news by rw [← hr2]]
                              exact (hD.app hS.rel3).mono hext
                          exact Rel3.rb (c := c') (fr := fr) hr3 (by rw [← hr2]; exact hB.sz) (by rw [← hr2]; exact g2.at_) (fun off ho => m2 off (by rw [← g2.csize]; exact ho)) hcat (by rw [← hr2]; rw [hrt]; exact tyd)
                        have hRH := upd_rh hR hext hi hl2 (fun b' hlt hne => g2.other b' fun e => hne (by rw [e]; exact hb)) (.inl hb) hRB
                        refine ⟨.slice (some ⟨b, 0, none⟩) (r.es.length + news.length) cap, C.upd ii b r2 w', ?_, ⟨rfl, hext, hRH⟩, ?_, fun _ _ _ _ he z hz => if_neg (by cases he; exact hz)⟩
                        · rw [Nat.zero_mul]
                          exact hrun
                        · have hrow : (C.upd ii b r2 w').row? ii = some r2 := by
                            show rowAt (C.H.set ii r2) ii = _
                            rw [rowAt_set hi hl2]; simp
                          have hlen2 : r2.es.length = r.es.length + news.length := by rw [← hr2]; simp
                          refine .sl ⟨_, _, rfl⟩ (by simp [Ctx.upd]; exact hi) (fun r' hr' => ?_) fun r' hr' _ => ?_
                          · have : r' = r2 := Option.some.inj (hr'.symm.trans hrow)
                            rw [this, hlen2]; exact Nat.le_refl _
                          · have : r' = r2 := Option.some.inj (hr'.symm.trans hrow)
                            subst this
                            refine ⟨by omega, _, _, rfl, hroom, ?_⟩
                            unfold SlAt
                            rw [if_neg (by rw [← hr2]; simp [hnl])]
                            refine ⟨b, by simp [Ctx.upd], by simp, c', _, fr, g2.at_, ?_⟩
                            rw [g2.csize, ← hr2]
                            exact hh2
                    · -- it grows
                      have hfd := hD1.first r.es.length rfl
                      rw [hsz] at hfd
                      obtain ⟨cc, nc, q1, q2, q3, q4⟩ := grow (es := r.es) (vs := vs1) (a := a) (cap := cap) hD1.rel3 hfd (by omega) hbig
                      have hcn : C.w.drew.heap.size = C.w.heap.size := rfl
                      generalize hr2 : ({ r with es := r.es ++ news, bv := r.bv && ty, nl := r.nl && news.isEmpty } : Row) = r2
                      have hl2 : r2.live = true := by rw [← hr2]; exact hlive
                      have hold : ∀ b', b' < C.w.heap.size → (C.w.drew.alloc (.cells cc t)).heap[b']? = C.w.heap[b']? := fun b' hlt => Go.heap_alloc_old C.w.drew _ hlt
                      have hext : Ext C (C.upd ii C.w.heap.size r2 (C.w.drew.alloc (.cells cc t))) := by
                        refine upd_ext hi hro hr hl2 (by rw [← hr2]) (by rw [← hr2]) (by rw [← hr2]; simp) (fun he => absurd he (by rw [← hr2]; exact hne)) rfl rfl rfl (by simp) (fun b' hlt _ => hold b' hlt) (fun b' cx ex frx h1 => ⟨cx, by rw [hold b' (Array.getElem?_eq_some_iff.1 h1).1]; exact h1, rfl⟩) (fun b' rec h1 => by rw [hold b' (Array.getElem?_eq_some_iff.1 h1).1]; exact h1) (.inr (Nat.le_refl _))
                      have hRB : RB P (C.upd ii C.w.heap.size r2 (C.w.drew.alloc (.cells cc t))) C.w.heap.size r2 := by
                        have hdx : Ext C.dr (C.upd ii C.w.heap.size r2 (C.w.drew.alloc (.cells cc t))) :=
                          ⟨rfl, rfl, rfl, hext.size, hext.block, hext.shape, hext.len, hext.rows, hext.fresh, hext.freshOwn, hext.fo, hext.ro, hext.low, hext.lp, hext.loop⟩
                        have hr3 : Rel3 P (C.upd ii C.w.heap.size r2 (C.w.drew.alloc (.cells cc t))) r2.s r2.es (vs1 ++ us1) := by
                          rw [show r2.s = P.cellsOf t by rw [← hr2]; exact hrs, show r2.es = r.es ++ news by rw [← hr2]]
                          exact (hD1.rel3.app hS1.rel3).mono hdx
                        exact Rel3.rb (c := cc) (fr := (0, 0)) hr3 (by rw [← hr2, hrs, hrt]) (by rw [← hr2, hrt]; exact heap_alloc_new C.w.drew _) (fun off _ => by simp) q2 (by rw [← hr2]; rw [hrt]; exact tyd)
                      have hRH := upd_rh hR hext hi hl2 (fun b' hlt _ => hold b' hlt) (.inr (Nat.le_refl _)) hRB
                      refine ⟨_, C.upd ii C.w.heap.size r2 (C.w.drew.alloc (.cells cc t)), q1, ⟨rfl, hext, hRH⟩, ?_, fun _ _ _ _ he z hz => if_neg (by cases he; exact hz)⟩
                      have hrow : (C.upd ii C.w.heap.size r2 (C.w.drew.alloc (.cells cc t))).row? ii = some r2 := by
                        show rowAt (C.H.set ii r2) ii = _
                        rw [rowAt_set hi hl2]; simp
                      have hlen2 : r2.es.length = r.es.length + news.length := by rw [← hr2]; simp
                      refine .sl ⟨_, _, rfl⟩ (by simp [Ctx.upd]; exact hi) (fun r' hr' => ?_) fun r' hr' _ => ?_
                      · have : r' = r2 := Option.some.inj (hr'.symm.trans hrow)
                        rw [this, hlen2]; exact Nat.le_refl _
                      · have : r' = r2 := Option.some.inj (hr'.symm.trans hrow)
                        subst this
                        refine ⟨by omega, _, _, rfl, q3, ?_⟩
                        unfold SlAt
                        rw [if_neg (by rw [← hr2]; simp [hnl])]
                        refine ⟨C.w.heap.size, by simp [Ctx.upd], by simp, cc, t, (0, 0), heap_alloc_new C.w.drew _, ?_⟩
                        rw [← hr2, Nat.zero_add, hrs]
                        exact q4
              · cases h
            · cases h
          · cases h
        · -- the nil slice
          split at h
          · rename_i hbig
            split at h
            · rename_i hnil
              cases h
              cases hx
              have hnil : news = [] := by simpa using hnil
              subst hnil
              have hrun := run_append_room' (P := P) (n := 0) (cap := 0) (m := 0) (cap2 := cap2) (a := none) (a2 := a2) C.w hT hT2 hu hu2 hinfo (by omega) ty0
              have hf := hS.first 0 rfl
              rw [hsz] at hf
              have hf' : (Builtin.firstCells i.size 0 (.slice a2 0 cap2)).run P C.w = .ok us.toArray C.w := hf
              rw [hf'] at hrun
              exact ⟨_, C, hrun, ⟨rfl, .refl C, hR⟩, .val, fun _ _ _ _ he => by cases he⟩
            · rename_i hne
              cases h
              cases hx
              have hm : 0 < news.length := by
                cases news with
                | nil => simp at hne
                | cons _ _ => simp
              obtain ⟨cc, nc, q1, q2, q3, q4⟩ := grow (es := []) (vs := []) (a := none) (cap := 0) ⟨(by simp), (fun e he => (by cases he)), (fun k e j p h1 => (by simp at h1))⟩ (by simp [Builtin.firstCells]) (by simpa using hm) (by simpa using hbig)
              simp only [List.length_nil, Nat.zero_add, List.nil_append] at q1 q2 q3
              obtain ⟨g1, g2⟩ := new_row (C := C.dr) (dr_rh hR) (t := t) (es := news) (ty := ty) (vs := us1) (c := cc) (cap := nc) hS1.rel3 q2 hS1.typed q3 q4
              exact ⟨_, _, q1, ⟨g1.H, (dr_ext C).trans g1.ext, g1.rh⟩, g2, fun _ _ _ _ he => by cases he⟩
          · cases h
        · -- a full list
          rename_i t2 es
          split at h
          · rename_i ht2
            have ht2 : t2 = t := by simpa using ht2
            subst ht2
            split at h
            · rename_i hbig
              have hxc := hx
              have hxs : srcOf C.H (.lst true t2 es) = some (true, t2, es) := rfl
              cases hx with
              | @lst _ _ _ a cap b off cv hcap hfull hA hC hRr ht =>
                have hcap2 : cap = es.length := hfull rfl
                subst hcap2
                split at h
                · rename_i hnil
                  cases h
                  have hnil : news = [] := by simpa using hnil
                  subst hnil
                  have hrun := run_append_room' (P := P) (n := es.length) (cap := es.length) (m := 0) (cap2 := cap2) (a := a) (a2 := a2) C.w hT hT2 hu hu2 hinfo (by omega) ty0
                  have hf := hS.first 0 rfl
                  rw [hsz] at hf
                  have hus : us = [] := List.eq_nil_of_length_eq_zero (by simpa using hS.len)
                  subst hus
                  have hf' : (Builtin.firstCells i.size 0 (.slice a2 0 cap2)).run P C.w = .ok #[] C.w := hf
                  rw [hf'] at hrun
                  simp only [Result.andThen_ok, storeCells, Sem.run_pure, Nat.add_zero] at hrun
                  refine ⟨.slice a es.length es.length, C, ?_, ⟨rfl, .refl C, hR⟩, hxc, fun _ _ _ _ he => by cases he⟩
                  show (Builtin.append_ c.argTypes ty0 #[.slice a es.length es.length, .slice a2 0 cap2]).run P C.w = _
                  rw [hrun]
                  cases a <;> rfl
                · rename_i hne
                  cases h
                  have hm : 0 < news.length := by
                    cases news with
                    | nil => simp at hne
                    | cons _ _ => simp
                  obtain ⟨vs1, hD1⟩ := srcOf_sound (C := C.dr) (dr_rh hR) (hxc.mono (dr_ext C)) hxs
                  have hfd := hD1.first es.length rfl
                  rw [hsz] at hfd
                  obtain ⟨cc, nc, q1, q2, q3, q4⟩ := grow (es := es) (vs := vs1) (a := a) (cap := es.length) hD1.rel3 hfd (by omega) hbig
                  obtain ⟨g1, g2⟩ := new_row (C := C.dr) (dr_rh hR) (t := t2) (es := es ++ news) (ty := ty) (vs := vs1 ++ us1) (c := cc) (cap := nc) (hD1.rel3.app hS1.rel3) q2 (fun hb e he => by
                    rcases List.mem_append.1 he with he | he
                    · exact hD1.typed rfl e he
                    · exact hS1.typed hb e he) (by simpa using q3) q4
                  rw [List.length_append] at g2
                  exact ⟨_, _, q1, ⟨g1.H, (dr_ext C).trans g1.ext, g1.rh⟩, g2, fun _ _ _ _ he => by cases he⟩
            · cases h
          · cases h
        · cases h
      · cases h
    · cases h
  · cases h
end Go.Hx
