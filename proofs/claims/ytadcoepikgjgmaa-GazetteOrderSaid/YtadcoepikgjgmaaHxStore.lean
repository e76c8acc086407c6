/- Hx: stores into rows, and append. -/
import Derived.Test.YtadcoepikgjgmaaHxNew
namespace Go.Hx

def cellish : PV → Bool
  | .val v => v.oneCell'
  | .any => false
  | .agg _ => false
  | .tup _ => false
  | _ => true
theorem RV.oneCell {P : Program} {C : Ctx} {p : PV} {V : Value} (h : RV P C p V) (hc : cellish p = true) : V.oneCell' = true := by
  cases h with
  | any => simp [cellish] at hc
  | val => exact hc
  | ptr hV => obtain ⟨a, rfl⟩ := hV; rfl
  | sl hV => obtain ⟨a, c, rfl⟩ := hV; rfl
  | lptr => rfl
  | lst => rfl
  | agg => simp [cellish] at hc
  | tup => simp [cellish] at hc
  | fn => rfl
  | ifc => rfl
  | yld => rfl

/-- The same world but for the cells of one block. -/
structure SetAt (w w' : World) (b : Nat) (c c' : Array Value) (t : TypeId) (fr : Nat × Nat) : Prop where
  os : w'.os = w.os
  tape : w'.tape = w.tape
  output : w'.output = w.output
  size : w'.heap.size = w.heap.size
  other : ∀ x, x ≠ b → w'.heap[x]? = w.heap[x]?
  at_ : w'.heap[b]? = some (.cells c' t fr)
  csize : c'.size = c.size

theorem heap_setCell_at {w : World} {b x : Nat} {c : Array Value} {t : TypeId} {fr : Nat × Nat} (h : w.heap[b]? = some (.cells c t fr)) (v : Value) :
    (w.setCell ⟨b, x, none⟩ v).heap[b]? = some (.cells (c.setIfInBounds x v) t fr) := by
  simp [World.setCell, Array.getElem?_modify, h]

theorem run_storeCells_any {P : Program} {b off : Nat} {t : TypeId} {fr : Nat × Nat} : ∀ (vs : List Value) (i : Nat) (w : World) (c : Array Value), w.heap[b]? = some (.cells c t fr) →
    (∀ x, x < c.size → (decide (fr.1 ≤ x) && decide (x < fr.2)) = false) → off + i + vs.length ≤ c.size → (∀ v ∈ vs, v.oneCell' = true) →
    ∃ w' c', (storeCells ⟨b, off, none⟩ vs i).run P w = .ok () w' ∧ SetAt w w' b c c' t fr ∧
      ∀ x, c'[x]? = if off + i ≤ x ∧ x < off + i + vs.length then vs[x - (off + i)]? else c[x]?
  | [], i, w, c, h, _, _, _ => ⟨w, c, by simp [storeCells], ⟨rfl, rfl, rfl, rfl, fun _ _ => rfl, h, rfl⟩, fun x => by rw [if_neg (by simp only [List.length_nil]; omega)]⟩
  | v :: vs, i, w, c, h, hf, hl, h1 => by
    simp only [List.length_cons] at hl
    have hc : w.cell? ⟨b, off + i, none⟩ = some (c[off + i]'(by omega)) := by
      simp only [World.cell?, h]
      simp [show off + i < c.size by omega]
    have hfr : w.frozen? ⟨b, off + i, none⟩ = false := by
      simp only [World.frozen?, h]
      exact hf _ (by omega)
    obtain ⟨w', c', g1, g2, g3⟩ := run_storeCells_any (P := P) (b := b) (off := off) vs (i + 1) (w.setCell ⟨b, off + i, none⟩ v) (c.setIfInBounds (off + i) v) (heap_setCell_at h v)
      (fun x hx => hf x (by simpa using hx)) (by simp; omega) (fun v hv => h1 v (by simp [hv]))
    refine ⟨w', c', ?_, ?_, fun x => ?_⟩
    · simp only [storeCells, Sem.run_bind, addr_add]
      rw [run_store P w _ v .plain (h1 v (by simp))]
      simp only [hc, hfr, Bool.false_eq_true, if_false, Result.andThen_ok]
      exact g1
    · refine ⟨g2.os, g2.tape, g2.output, by rw [g2.size]; simp, fun x hx => ?_, g2.at_, by rw [g2.csize]; simp⟩
      rw [g2.other x hx]
      simp only [World.setCell, Array.getElem?_modify]
      rw [if_neg (by omega)]
    · rw [g3 x]
      simp only [List.length_cons]
      by_cases hx : off + (i + 1) ≤ x ∧ x < off + (i + 1) + vs.length
      · rw [if_pos hx, if_pos (by omega), show x - (off + i) = x - (off + (i + 1)) + 1 by omega, List.getElem?_cons_succ]
      · rw [if_neg hx]
        by_cases hx2 : x = off + i
        · subst hx2
          rw [if_pos (by omega)]
          simp [show off + i < c.size by omega]
        · rw [if_neg (by omega), Array.getElem?_setIfInBounds, if_neg (by omega)]

/-- Row i is turned to r2; its block is b' then. -/
def Ctx.upd (C : Ctx) (i b' : Nat) (r2 : Row) (w' : World) : Ctx := { ρ := fun x => if x = i then some b' else C.ρ x, H := C.H.set i r2, w := w', fo := C.fo, ro := C.ro }

theorem rowAt_set {H : List Row} {i : Nat} {r2 : Row} (hi : i < H.length) (hl : r2.live = true) (x : Nat) : rowAt (H.set i r2) x = if x = i then some r2 else rowAt H x := by
  unfold rowAt
  rw [List.getElem?_set]
  by_cases h : i = x
  · subst h; simp [hi, hl]
  · rw [if_neg h, if_neg (fun e => h e.symm)]

theorem upd_ext {C : Ctx} {i b' : Nat} {r r2 : Row} {w' : World} (hi : i < C.H.length) (hro : C.ro ≤ i) (hr : C.row? i = some r) (hl2 : r2.live = true) (hs : r.s = r2.s) (ht : r.t = r2.t) (hlen : r.es.length ≤ r2.es.length)
    (hsame : r.es.length = r2.es.length → r.nl = r2.nl ∧ ∀ b, C.ρ i = some b → b' = b)
    (hos : w'.os = C.w.os) (htp : w'.tape = C.w.tape) (hout : w'.output = C.w.output) (hsz : C.w.heap.size ≤ w'.heap.size)
    (hblk : ∀ b, b < C.w.heap.size → ¬ C.own b → w'.heap[b]? = C.w.heap[b]?)
    (hshape : ∀ (b : Nat) c e fr, C.w.heap[b]? = some (.cells c e fr) → ∃ c', w'.heap[b]? = some (.cells c' e fr) ∧ c'.size = c.size)
    (hloop : ∀ (b : Nat) rec, C.w.heap[b]? = some (.loop rec) → w'.heap[b]? = some (.loop rec))
    (hfresh : C.ρ i = some b' ∨ C.w.heap.size ≤ b') : Ext C (C.upd i b' r2 w') where
  os := hos
  tape := htp
  output := hout
  size := hsz
  block := hblk
  shape := hshape
  len := by simp [Ctx.upd]
  rows x r' hx hr' := by
    have h1 : rowAt (C.H.set i r2) x = some r' := hr'
    rw [rowAt_set hi hl2] at h1
    split at h1
    · rename_i e
      subst e
      cases h1
      refine ⟨r, hr, hs, ht, hlen, fun he => ⟨(hsame he).1, fun b hb => ?_⟩⟩
      simp only [Ctx.upd, if_true]
      rw [(hsame he).2 b hb]
    · rename_i e
      exact ⟨r', h1, rfl, rfl, Nat.le_refl _, fun _ => ⟨rfl, fun b hb => by simp [Ctx.upd, e, hb]⟩⟩
  fresh b hb := by
    obtain ⟨x, hx⟩ := hb
    simp only [Ctx.upd] at hx
    split at hx
    · cases hx
      rcases hfresh with h | h
      · exact .inl ⟨i, h⟩
      · exact .inr h
    · exact .inl ⟨x, hx⟩
  freshOwn b hb := by
    obtain ⟨x, hxr, hx⟩ := hb
    simp only [Ctx.upd] at hx hxr
    split at hx
    · cases hx
      rcases hfresh with h | h
      · exact .inl ⟨i, hro, h⟩
      · exact .inr h
    · exact .inl ⟨x, hxr, hx⟩
  fo := rfl
  ro := rfl
  low x hx := ⟨by simp only [Ctx.upd]; rw [List.getElem?_set, if_neg (by omega)], by simp only [Ctx.upd]; rw [if_neg (by omega)]⟩
  lp x r' info h1 h2 h3 := by
    have hxi : x ≠ i := fun e => by
      subst e
      have : C.row? x = none := by unfold Ctx.row? rowAt; rw [h1]; simp [h3]
      rw [this] at hr; cases hr
    exact ⟨⟨r', info.st, by simp only [Ctx.upd]; rw [List.getElem?_set, if_neg (fun e => hxi e.symm)]; exact h1, h2, h3⟩, fun b hb => by simp [Ctx.upd, hxi, hb]⟩
  loop b rec h := ⟨rec, hloop b rec h⟩

theorem upd_rh {P : Program} {C : Ctx} {i b' : Nat} {r2 : Row} {w' : World} (hR : RH P C) (hx : Ext C (C.upd i b' r2 w')) (hi : i < C.H.length) (hl2 : r2.live = true)
    (hoth : ∀ b, b < C.w.heap.size → C.ρ i ≠ some b → w'.heap[b]? = C.w.heap[b]?) (hfresh : C.ρ i = some b' ∨ C.w.heap.size ≤ b') (hB : RB P (C.upd i b' r2 w') b' r2) : RH P (C.upd i b' r2 w') := by
  refine ⟨fun x y b h1 h2 => ?_, fun x b h1 => ?_, fun x b r' h1 h2 => ?_, by simpa [Ctx.upd] using hR.ro, fun x b h1 => ?_, fun b hb => Nat.lt_of_lt_of_le (hR.fol b hb) hx.size, fun x b r' info h1 h2 h3 h4 => ?_⟩
  · simp only [Ctx.upd] at h1 h2
    split at h1 <;> split at h2
    · omega
    · rename_i e1 e2
      cases h1
      rcases hfresh with h | h
      · rw [← e1] at h; exact hR.inj _ _ _ h h2
      · have := hR.lt h2; omega
    · rename_i e1 e2
      cases h2
      rcases hfresh with h | h
      · rw [← e2] at h; exact hR.inj _ _ _ h1 h
      · have := hR.lt h1; omega
    · exact hR.inj _ _ _ h1 h2
  · simp only [Ctx.upd] at h1
    have hrow : (C.upd i b' r2 w').row? x = if x = i then some r2 else C.row? x := rowAt_set hi hl2 x
    rw [hrow]
    split at h1
    · rename_i e; rw [if_pos e]; exact .inl ⟨_, rfl⟩
    · rename_i e
      rw [if_neg e]
      refine (hR.dom x b h1).imp id ?_
      rintro ⟨r, info, g1, g2, g3⟩
      exact ⟨r, info, by simp only [Ctx.upd]; rw [List.getElem?_set, if_neg (fun h => e h.symm)]; exact g1, g2, g3⟩
  · have hrow : (C.upd i b' r2 w').row? x = if x = i then some r2 else C.row? x := rowAt_set hi hl2 x
    rw [hrow] at h2
    simp only [Ctx.upd] at h1
    split at h1
    · rename_i e
      rw [if_pos e] at h2
      cases h1; cases h2
      exact hB
    · rename_i e
      rw [if_neg e] at h2
      have hb := hR.blk x b r' h1 h2
      refine hb.mono hx (hoth b hb.lt fun h => e (hR.inj _ _ _ h1 h))
  · simp only [Ctx.upd] at h1 ⊢
    split at h1
    · cases h1
      rcases hfresh with h | h
      · exact hR.nfo _ _ h
      · exact fun hf => by have := hR.fol _ hf; omega
    · exact hR.nfo x b h1
  · have hxi : x ≠ i := fun e => by
      subst e
      simp only [Ctx.upd] at h2
      rw [List.getElem?_set, if_pos rfl, if_pos hi] at h2
      cases h2
      rw [hl2] at h4; cases h4
    simp only [Ctx.upd] at h1 h2
    rw [if_neg hxi] at h1
    rw [List.getElem?_set, if_neg (fun e => hxi e.symm)] at h2
    have hb := hR.lps x b r' info h1 h2 h3 h4
    exact hb.mono hx (hoth b hb.lt fun h => hxi (hR.inj _ _ _ h1 h))

def newCells (r : Row) (k j : Nat) (cs : List PV) : List PV :=
  if j = 0 ∧ cs.length = r.s then cs else (r.es.getD k .any).cells.take j ++ cs ++ (r.es.getD k .any).cells.drop (j + cs.length)
def newElem (P : Program) (t : TypeId) (cells : List PV) : PV := if isAggT P t then .agg cells else cells.headD .any
def setCells (P : Program) (r : Row) (k j : Nat) (cs : List PV) : Option Row :=
  if isAggT P r.t || (r.s == 1 && !(newElem P r.t (newCells r k j cs)).isAgg) then
    some { r with es := r.es.set k (newElem P r.t (newCells r k j cs)), bv := r.bv && wt P r.t (newElem P r.t (newCells r k j cs)) } else none

def storeQ (P : Program) (ro : Nat) (H : List Row) (T : TypeId) (a x : PV) : Option (List Row) :=
  match a with
  | .ptr i n k j =>
    match rowAt H i with
    | some r =>
      if decide (ro ≤ i) && okc x && x.cells.all cellish && r.es.length == n && x.cells.length == P.cellsOf T && known P T && decide (j + x.cells.length ≤ r.s) then
        match setCells P r k j x.cells with
        | some r2 => some (H.set i r2)
        | none => none
      else none
    | none => none
  | _ => none

/-- A step that turns the rows to H'. -/
structure Turn (P : Program) (C C' : Ctx) (H' : List Row) : Prop where
  H : C'.H = H'
  ext : Ext C C'
  rh : RH P C'

theorem storeQ_sound {P : Program} {C : Ctx} {T : TypeId} {a x : PV} {A X : Value} {H' : List Row} (hR : RH P C) (ha : RV P C a A) (hx : RV P C x X) (h : storeQ P C.ro C.H T a x = some H') :
    ∃ C', (Instr.storeAt T A X).run P C.w = .ok () C'.w ∧ Turn P C C' H' ∧ ∀ x, C'.ρ x = C.ρ x := by
  unfold storeQ at h
  split at h
  · rename_i i n k j
    split at h
    · rename_i r hr
      split at h
      · rename_i hc
        simp only [Bool.and_eq_true, beq_iff_eq, decide_eq_true_eq] at hc
        obtain ⟨⟨⟨⟨⟨⟨hro, ho⟩, hall⟩, hn⟩, hl⟩, hk⟩, hj⟩ := hc
        split at h
        · rename_i r2 hr2
          cases h
          cases ha with
          | ptr hV hkn hi hle hh =>
            obtain ⟨b, hb, rfl⟩ := hh r hr hn
            have hB := hR.blk i b r hb hr
            obtain ⟨c, fr, cv, m1, m2, m3, m4⟩ := hB.mem
            have hcs := hx.cellsC ho
            have hke : k < r.es.length := by omega
            have hbound : k * r.s + r.s ≤ c.size := by
              have h5 : (k + 1) * r.s ≤ r.es.length * r.s := Nat.mul_le_mul_right _ hke
              rw [Nat.add_mul, Nat.one_mul] at h5
              omega
            have hone : ∀ v ∈ X.cells.toList, v.oneCell' = true := fun v hv => by
              obtain ⟨y, hy⟩ := List.getElem?_of_mem hv
              have hylt : y < X.cells.size := by simpa using (List.getElem?_eq_some_iff.1 hy).1
              have hp : x.cells[y]? = some (x.cells[y]'(by rw [← hcs.1]; exact hylt)) := List.getElem?_eq_getElem _
              have := hcs.2 y _ v hp (by rw [← Array.getElem?_toList]; exact hy)
              exact this.oneCell (List.all_eq_true.1 hall _ (List.mem_of_getElem? hp))
            obtain ⟨w', c', g1, g2, g3⟩ := run_storeCells_any (P := P) (b := b) (off := k * r.s + j) X.cells.toList 0 C.w c m1 m2 (by simp [hcs.1]; omega) hone
            have hXl : X.cells.toList.length = x.cells.length := by simpa using hcs.1
            -- the new row
            unfold setCells at hr2
            split at hr2
            · rename_i hag
              cases hr2
              have hel : (r.es.getD k .any).cells.length = r.s := hB.len _ (List.mem_of_getElem? (getD_some hke))
              generalize hcells : newCells r k j x.cells = cells' at *
              unfold newCells at hcells
              have hcl : cells'.length = r.s := by
                rw [← hcells]
                split
                · omega
                · simp only [List.length_append, List.length_take, List.length_drop, hel]; omega
              have hcg : ∀ y, cells'[y]? = if j ≤ y ∧ y < j + x.cells.length then x.cells[y - j]? else (r.es.getD k .any).cells[y]? := by
                intro y
                rw [← hcells]
                split
                · rename_i hh2
                  obtain ⟨rfl, hh2⟩ := hh2
                  by_cases hy : y < x.cells.length
                  · rw [if_pos (by omega)]; simp
                  · rw [if_neg (by omega), List.getElem?_eq_none (by omega), List.getElem?_eq_none (by omega)]
                · simp only [List.getElem?_append, List.length_append, List.length_take, List.getElem?_take, List.getElem?_drop, hel]
                  by_cases h1 : y < j
                  · rw [if_pos (show y < min j r.s + x.cells.length by omega), if_pos (show y < min j r.s by omega), if_pos h1, if_neg (show ¬(j ≤ y ∧ y < j + x.cells.length) by omega)]
                  · by_cases h2 : y < j + x.cells.length
                    · rw [if_pos (show y < min j r.s + x.cells.length by omega), if_neg (show ¬ y < min j r.s by omega), if_pos (show j ≤ y ∧ y < j + x.cells.length by omega)]
                      congr 1; omega
                    · rw [if_neg (show ¬ y < min j r.s + x.cells.length by omega), if_neg (show ¬(j ≤ y ∧ y < j + x.cells.length) by omega)]
                      congr 1; omega
              generalize he' : newElem P r.t cells' = e' at *
              unfold newElem at he'
              have hec : e'.cells = cells' := by
                rw [← he']
                split
                · rfl
                · rename_i hna
                  simp only [hna, Bool.false_or, Bool.and_eq_true, beq_iff_eq, Bool.not_eq_true'] at hag
                  obtain ⟨p, rfl⟩ : ∃ p, cells' = [p] := by
                    match cells', hcl with
                    | [p], _ => exact ⟨p, rfl⟩
                    | [], h => simp at h; omega
                    | _ :: _ :: _, h => simp at h; omega
                  rw [← he', if_neg hna] at hag
                  simp only [List.headD_cons] at hag ⊢
                  unfold PV.cells
                  split
                  · simp [PV.isAgg] at hag
                  · simp [PV.isAgg] at hag
                  · rfl
              have hupd : ({ C with H := C.H.set i { r with es := r.es.set k e', bv := r.bv && wt P r.t e' }, w := w' } : Ctx) = C.upd i b { r with es := r.es.set k e', bv := r.bv && wt P r.t e' } w' := by
                unfold Ctx.upd
                congr 1
                funext x
                split
                · rename_i e; rw [e, hb]
                · rfl
              have hlive : r.live = true := by
                have h9 : rowAt C.H i = some r := hr
                unfold rowAt at h9
                split at h9
                · split at h9
                  · rename_i hlv; cases h9; exact hlv
                  · cases h9
                · cases h9
              have hext : Ext C (C.upd i b { r with es := r.es.set k e', bv := r.bv && wt P r.t e' } w') := by
                refine upd_ext hi hro hr hlive rfl rfl (by simp) (fun _ => ⟨rfl, fun b' hb' => by rw [hb] at hb'; exact Option.some.inj hb'⟩) g2.os g2.tape g2.output (by rw [g2.size]; exact Nat.le_refl _) (fun b' hlt hno => g2.other b' fun e => hno ⟨i, hro, by rw [e]; exact hb⟩) (fun b' c1 e1 fr1 h1 => ?_) (fun b' rec h1 => by rw [g2.other b' fun e => by rw [e, m1] at h1; cases h1]; exact h1) (.inl hb)
                by_cases hbb : b' = b
                · subst hbb
                  rw [m1] at h1
                  cases h1
                  exact ⟨c', g2.at_, g2.csize⟩
                · exact ⟨c1, by rw [g2.other b' hbb]; exact h1, rfl⟩
              refine ⟨C.upd i b { r with es := r.es.set k e', bv := r.bv && wt P r.t e' } w', ?_, ⟨rfl, hext, ?_⟩, fun x => by show (if x = i then some b else C.ρ x) = C.ρ x; split <;> simp_all⟩
              · simp only [Instr.storeAt, Instr.sureAddr, Sem.run_bind, Sem.run_pure, Result.andThen_ok, storeVar, run_sizeOf C.w hk]
                rw [if_neg (by simp [hcs.1, hl])]
                exact g1
              · refine upd_rh hR hext hi hlive (fun b' hlt hne => g2.other b' fun e => hne (by rw [e]; exact hb)) (.inl hb) ?_
                refine ⟨hB.sz, ⟨c', fr, fun k2 j2 => c'.getD (k2 * r.s + j2) undef, g2.at_, fun off ho => m2 off (by rw [← g2.csize]; exact ho), by simpa [g2.csize] using m3, fun k2 e2 j2 p2 hk2 hj2 => ?_⟩, fun e2 he2 => ?_, fun hbv e2 he2 => ?_⟩
                · have key : ∃ v, c'[k2 * r.s + j2]? = some v ∧ RV P C p2 v := by
                    simp only [List.getElem?_set] at hk2
                    have hj2s : j2 < e2.cells.length := (List.getElem?_eq_some_iff.1 hj2).1
                    split at hk2
                    · rename_i hkk
                      subst hkk
                      cases hk2
                      rw [hec] at hj2 hj2s
                      rw [hcg] at hj2
                      rw [g3]
                      split at hj2
                      · rename_i hr3
                        rw [if_pos (by rw [hXl]; omega)]
                        have hlt : j2 - j < X.cells.size := by rw [hcs.1]; exact (List.getElem?_eq_some_iff.1 hj2).1
                        have hX : X.cells[j2 - j]? = some X.cells[j2 - j] := Array.getElem?_eq_getElem hlt
                        refine ⟨X.cells[j2 - j], ?_, hcs.2 _ _ _ hj2 hX⟩
                        rw [show k * r.s + j2 - (k * r.s + j + 0) = j2 - j by omega, Array.getElem?_toList]
                        exact hX
                      · rename_i hr3
                        rw [if_neg (by rw [hXl]; omega)]
                        exact ⟨_, (m4 k _ j2 p2 (getD_some hke) hj2).1, (m4 k _ j2 p2 (getD_some hke) hj2).2⟩
                    · rename_i hkk
                      have hm := m4 k2 e2 j2 p2 hk2 hj2
                      have hel2 : e2.cells.length = r.s := hB.len _ (List.mem_of_getElem? hk2)
                      refine ⟨_, ?_, hm.2⟩
                      rw [g3, if_neg ?_]
                      · exact hm.1
                      · rintro ⟨q1, q2⟩
                        rw [hXl] at q2
                        rcases Nat.lt_or_ge k2 k with hlt | hge
                        · have h5 : (k2 + 1) * r.s ≤ k * r.s := Nat.mul_le_mul_right _ hlt
                          rw [Nat.add_mul, Nat.one_mul] at h5
                          omega
                        · have h5 : (k + 1) * r.s ≤ k2 * r.s := Nat.mul_le_mul_right _ (by omega)
                          rw [Nat.add_mul, Nat.one_mul] at h5
                          omega
                  obtain ⟨v, q1, q2⟩ := key
                  have e2' : c'.getD (k2 * r.s + j2) undef = v := by rw [Array.getD_eq_getD_getElem?, q1]; rfl
                  exact ⟨by simp only [e2']; exact q1, by simp only [e2']; exact q2.mono hext⟩
                · rcases List.mem_or_eq_of_mem_set he2 with h | h
                  · exact hB.len _ h
                  · subst h; rw [hec, hcl]
                · simp only [Bool.and_eq_true] at hbv
                  rcases List.mem_or_eq_of_mem_set he2 with h | h
                  · exact hB.typed hbv.1 _ h
                  · subst h; exact hbv.2
            · cases hr2
        · cases h
      · cases h
    · cases h
  · cases h
end Go.Hx
