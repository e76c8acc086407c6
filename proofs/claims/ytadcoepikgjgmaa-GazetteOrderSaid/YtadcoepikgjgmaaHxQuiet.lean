/- Hx: the operations that change nothing: what each gives. -/
import Derived.Test.YtadcoepikgjgmaaHxPure
namespace Go.Hx

def Sub (H : List Row) (C : Ctx) : Prop := ∀ i r, rowAt H i = some r → C.row? i = some r

theorem addr_add (b off n : Nat) : (⟨b, off, none⟩ : Addr).add n = ⟨b, off + n, none⟩ := by unfold Addr.add; split <;> simp_all

theorem cell_row {C : Ctx} {b : Nat} {c : Array Value} {t : TypeId} {fr : Nat × Nat} (h : C.w.heap[b]? = some (.cells c t fr)) (x : Nat) : C.w.cell? ⟨b, x, none⟩ = c[x]? := by
  simp [World.cell?, h]

def loadQ (P : Program) (H : List Row) (T : TypeId) : PV → Option PV
  | .ptr i n k j =>
    match rowAt H i with
    | some r => if r.es.length = n then grab P r.t r.bv r.s (r.es.getD k .any) T j else none
    | none => none
  | .lptr t e j => grab P t true (P.cellsOf t) e T j
  | _ => none

theorem getD_some {es : List PV} {k : Nat} (h : k < es.length) : es[k]? = some (es.getD k .any) := by simp [List.getD, List.getElem?_eq_getElem h]

/-- The cells of a row's element. -/
theorem RB.elem {P : Program} {C : Ctx} {b : Nat} {r : Row} (h : RB P C b r) {k : Nat} (hk : k < r.es.length) :
    ∃ cv : Nat → Value, (r.es.getD k .any).cells.length = r.s ∧ (r.bv = true → wt P r.t (r.es.getD k .any) = true) ∧
      ∀ (x : Nat) q, (r.es.getD k .any).cells[x]? = some q → C.w.cell? ⟨b, k * r.s + x, none⟩ = some (cv x) ∧ RV P C q (cv x) := by
  obtain ⟨c, fr, cv, h1, _, _, h4⟩ := h.mem
  have hm : r.es.getD k .any ∈ r.es := List.mem_of_getElem? (getD_some hk)
  exact ⟨cv k, h.len _ hm, fun hb => h.typed hb _ hm, fun x q hq => ⟨by rw [cell_row h1]; exact (h4 k _ x q (getD_some hk) hq).1, (h4 k _ x q (getD_some hk) hq).2⟩⟩

theorem loadQ_sound {P : Program} {C : Ctx} {H : List Row} {T : TypeId} {x p : PV} {X : Value} (hR : RH P C) (hS : Sub H C) (hx : RV P C x X) (h : loadQ P H T x = some p) :
    ∃ v, (Instr.loadAt T X).run P C.w = .ok v C.w ∧ RV P C p v := by
  cases x <;> simp only [loadQ, reduceCtorEq] at h
  case ptr i n k j =>
    split at h
    · rename_i r hr
      split at h
      · rename_i hn
        cases hx with
        | ptr hV hk hi hle hh =>
          have hr' := hS i r hr
          obtain ⟨b, hb, rfl⟩ := hh r hr' hn
          have hB := hR.blk i b r hb hr'
          obtain ⟨cv, h1, h2, h3⟩ := hB.elem (k := k) (by omega)
          obtain ⟨v, h4, h5⟩ := grab_sound cv h1 h2 h3 h
          exact ⟨v, by simpa [Instr.loadAt, Instr.sureAddr] using h4, h5⟩
      · cases h
    · cases h
  case lptr t e j =>
    cases hx with
    | lptr cv hb hlt hc hr ht =>
      obtain ⟨v, h4, h5⟩ := grab_sound (P := P) (C := C) cv (wt_length ht) (fun _ => ht) (fun x q hq => ⟨hc x q hq, hr x q hq⟩) h
      exact ⟨v, by simpa [Instr.loadAt, Instr.sureAddr] using h4, h5⟩

/-- A pointer that is known to point somewhere. -/
def okPtr (H : List Row) : PV → Bool
  | .ptr i n _ _ => match rowAt H i with | some r => r.es.length == n | none => false
  | .lptr _ _ _ => true
  | _ => false
def addOff (d : Nat) : PV → PV
  | .ptr i n k j => .ptr i n k (j + d)
  | .lptr t e j => .lptr t e (j + d)
  | p => p
theorem addOff_sound {P : Program} {C : Ctx} {H : List Row} (hS : Sub H C) {d : Nat} {x : PV} {X : Value} (hx : RV P C x X) (h : okPtr H x = true) :
    ∃ a, X = .pointer (some a) ∧ RV P C (addOff d x) (.pointer (some (a.add d))) := by
  cases x <;> simp only [okPtr, Bool.false_eq_true] at h
  case ptr i n k j =>
    split at h
    · rename_i r hr
      cases hx with
      | ptr hV hk hi hle hh =>
        obtain ⟨b, h1, rfl⟩ := hh r (hS i r hr) (by simpa using h)
        refine ⟨_, rfl, .ptr ⟨_, rfl⟩ hk hi hle fun r' hr' hn => ?_⟩
        have e : r' = r := Option.some.inj (hr'.symm.trans (hS i r hr))
        subst e
        exact ⟨b, h1, by rw [addr_add, Nat.add_assoc]⟩
    · cases h
  case lptr t e j =>
    cases hx with
    | lptr cv hb hlt hc hr ht =>
      refine ⟨_, rfl, ?_⟩
      rw [addr_add, Nat.add_assoc]
      exact .lptr cv hb hlt hc hr ht

def fieldAddrQ (P : Program) (H : List Row) (T : TypeId) (i : Nat) (x : PV) : Option PV :=
  match P.underlying T with
  | some (.struct fs) =>
    match fs[i]? with
    | some fd => if known P fd.type && P.cellsOf fd.type != 0 && okPtr H x then some (addOff fd.offset x) else none
    | none => none
  | _ => none
theorem fieldAddrQ_sound {P : Program} {C : Ctx} {H : List Row} {T : TypeId} {i : Nat} {x p : PV} {X : Value} (hS : Sub H C) (hx : RV P C x X) (h : fieldAddrQ P H T i x = some p) :
    ∃ v, (Instr.fieldAt T X i).run P C.w = .ok v C.w ∧ RV P C p v := by
  unfold fieldAddrQ at h
  split at h
  · rename_i fs hu
    split at h
    · rename_i fd hf
      split at h
      · rename_i hc
        simp only [Bool.and_eq_true, bne_iff_ne] at hc
        obtain ⟨⟨h1, h2⟩, h3⟩ := hc
        cases h
        obtain ⟨a, rfl, hv⟩ := addOff_sound (d := fd.offset) hS hx h3
        exact ⟨_, by simp [Instr.fieldAt, run_underlying hu, hf, Instr.sureAddr, fieldPlace, run_sizeOf C.w h1, h2], hv⟩
      · cases h
    · cases h
  · cases h

def partQ (P : Program) (T : TypeId) (cs : List PV) (off : Nat) : Option PV :=
  if known P T && (isAggT P T || P.cellsOf T == 1) && decide (off + P.cellsOf T ≤ cs.length) then
    some (if isAggT P T then .agg ((cs.drop off).take (P.cellsOf T)) else cs.getD off .any) else none
theorem partQ_sound {P : Program} {C : Ctx} {T : TypeId} {cs : List PV} {a : Array Value} {off : Nat} {p : PV} (ha : Cs P C cs a) (h : partQ P T cs off = some p) :
    ∃ v, (part T a off).run P C.w = .ok v C.w ∧ RV P C p v := by
  unfold partQ at h
  split at h
  · rename_i hc
    simp only [Bool.and_eq_true, decide_eq_true_eq] at hc
    obtain ⟨⟨h1, h2⟩, h3⟩ := hc
    cases h
    refine ⟨_, run_part_at C.w h1 h2 a off (by rw [ha.1]; exact h3), ?_⟩
    have hs := ha.sub off _ h3
    unfold vOf
    split
    · exact .agg hs.1 hs.2
    · rename_i hag
      simp only [hag, Bool.false_or, beq_iff_eq] at h2
      have h4 : ((cs.drop off).take (P.cellsOf T))[0]? = some (cs.getD off .any) := by
        rw [h2, List.getElem?_take, if_pos (by omega), List.getElem?_drop]
        exact getD_some (by omega)
      have h5 : 0 < (a.extract off (off + P.cellsOf T)).size := by rw [hs.1]; simp; omega
      have h6 : (a.extract off (off + P.cellsOf T))[0]? = some ((a.extract off (off + P.cellsOf T)).getD 0 undef) := by
        rw [Array.getElem?_eq_getElem h5]; unfold Array.getD; rw [dif_pos h5]; rfl
      exact hs.2 0 _ _ h4 h6
  · cases h

def fieldQ (P : Program) (T : TypeId) (i : Nat) (x : PV) : Option PV :=
  match P.underlying T with
  | some (.struct fs) =>
    match fs[i]? with
    | some fd => if x.isAgg then partQ P fd.type x.cells fd.offset else none
    | none => none
  | _ => none
theorem fieldQ_sound {P : Program} {C : Ctx} {T : TypeId} {i : Nat} {x p : PV} {X : Value} (hx : RV P C x X) (h : fieldQ P T i x = some p) :
    ∃ v, (Instr.field T X i).run P C.w = .ok v C.w ∧ RV P C p v := by
  unfold fieldQ at h
  split at h
  · rename_i fs hu
    split at h
    · rename_i fd hf
      split at h
      · rename_i hc
        obtain ⟨a, rfl, ha⟩ := hx.ofAgg hc
        obtain ⟨v, h1, h2⟩ := partQ_sound ha h
        exact ⟨v, by simp [Instr.field, run_underlying hu, hf, asAgg, h1], h2⟩
      · cases h
    · cases h
  · cases h

/-- An index: its number. -/
def ixOf : PV → Option Int | .val (.int _ z) => some z | _ => none

def indexAddrQ (P : Program) (H : List Row) (T : TypeId) (x ix : PV) : Option PV :=
  match ixOf ix, P.underlying T with
  | some z, some (.array len e) =>
    if known P e && okPtr H x then (if 0 ≤ z ∧ z < len then some (addOff (z.toNat * P.cellsOf e) x) else none) else none
  | some z, some (.slice e) =>
    match x with
    | .sl i n k len =>
      match rowAt H i with
      | some r => if known P e && r.es.length == n && r.s == P.cellsOf e then (if 0 ≤ z ∧ z < len then some (.ptr i n (k + z.toNat) 0) else none) else none
      | none => none
    | .lst _ t es => if known P e && t == e then (if 0 ≤ z ∧ z < es.length then some (.lptr t (es.getD z.toNat .any) 0) else none) else none
    | _ => none
  | _, _ => none

theorem ixOf_sound {P : Program} {C : Ctx} {x : PV} {X : Value} {z : Int} (hx : RV P C x X) (h : ixOf x = some z) : ∃ k, X = .int k z := by
  unfold ixOf at h
  split at h
  · cases hx; cases h; exact ⟨_, rfl⟩
  · cases h

theorem indexAddrQ_sound {P : Program} {C : Ctx} {H : List Row} {T : TypeId} {x ix p : PV} {X I : Value} (hS : Sub H C) (hx : RV P C x X) (hi : RV P C ix I) (h : indexAddrQ P H T x ix = some p) :
    ∃ v, (Instr.indexAt T X I).run P C.w = .ok v C.w ∧ RV P C p v := by
  unfold indexAddrQ at h
  split at h
  · rename_i z len e hz hu
    obtain ⟨kk, rfl⟩ := ixOf_sound hi hz
    split at h
    · rename_i hc
      simp only [Bool.and_eq_true] at hc
      split at h
      · rename_i hb
        cases h
        obtain ⟨a, rfl, hv⟩ := addOff_sound (d := z.toNat * P.cellsOf e) hS hx hc.2
        exact ⟨_, by simp [Instr.indexAt, asIntOf, run_underlying hu, Instr.sureAddr, hb, run_sizeOf C.w hc.1], hv⟩
      · cases h
    · cases h
  · rename_i z e hz hu
    obtain ⟨kk, rfl⟩ := ixOf_sound hi hz
    split at h
    · rename_i i n k len
      split at h
      · rename_i r hr
        split at h
        · rename_i hc
          simp only [Bool.and_eq_true, beq_iff_eq] at hc
          obtain ⟨⟨h1, h2⟩, h3⟩ := hc
          split at h
          · rename_i hb
            cases h
            cases hx with
            | sl hV hi' hle hh =>
              obtain ⟨hk, a, cap, rfl, hcap, hs⟩ := hh r (hS i r hr) h2
              unfold SlAt at hs
              split at hs
              · omega
              · obtain ⟨b, g1, rfl, _⟩ := hs
                refine ⟨_, by simp [Instr.indexAt, asIntOf, run_underlying hu, hb, run_sizeOf C.w h1]; rfl, ?_⟩
                refine .ptr ⟨_, rfl⟩ (by omega) hi' hle fun r' hr' hn => ?_
                have e' : r' = r := Option.some.inj (hr'.symm.trans (hS i r hr))
                subst e'
                exact ⟨b, g1, by rw [addr_add, h3, Nat.add_zero, Nat.add_mul]⟩
          · cases h
        · cases h
      · cases h
    · rename_i full t es
      split at h
      · rename_i hc
        simp only [Bool.and_eq_true, beq_iff_eq] at hc
        obtain ⟨h1, h2⟩ := hc
        subst h2
        split at h
        · rename_i hb
          cases h
          cases hx with
          | lst b off cv hcap hfull ha hcc hrr ht =>
            obtain ⟨rfl, g2, g3⟩ := ha (by omega)
            have hlt : z.toNat < es.length := by omega
            have hm := getD_some hlt
            refine ⟨_, by simp [Instr.indexAt, asIntOf, run_underlying hu, hb, run_sizeOf C.w h1]; rfl, ?_⟩
            rw [addr_add]
            exact .lptr (off := off + z.toNat * P.cellsOf t) (j := 0) (cv z.toNat) g2 g3 (fun x q hq => hcc _ _ x q hm hq) (fun x q hq => hrr _ _ x q hm hq) (ht _ (List.mem_of_getElem? hm))
        · cases h
      · cases h
    · cases h
  · cases h

def indexQ (P : Program) (T : TypeId) (x ix : PV) : Option PV :=
  match ixOf ix, P.underlying T with
  | some z, some (.array len e) => if x.isAgg && known P e then (if 0 ≤ z ∧ z < len then partQ P e x.cells (z.toNat * P.cellsOf e) else none) else none
  | some z, some .string =>
    match x with
    | .val (.string s) => if 0 ≤ z ∧ z < s.size then some (.val (.int .u8 (s.data.getD z.toNat 0).toNat)) else none
    | _ => none
  | _, _ => none
theorem indexQ_sound {P : Program} {C : Ctx} {T : TypeId} {x ix p : PV} {X I : Value} (hx : RV P C x X) (hi : RV P C ix I) (h : indexQ P T x ix = some p) :
    ∃ v, (Instr.index T X I).run P C.w = .ok v C.w ∧ RV P C p v := by
  unfold indexQ at h
  split at h
  · rename_i z len e hz hu
    obtain ⟨kk, rfl⟩ := ixOf_sound hi hz
    split at h
    · rename_i hc
      simp only [Bool.and_eq_true] at hc
      split at h
      · rename_i hb
        obtain ⟨a, rfl, ha⟩ := hx.ofAgg hc.1
        obtain ⟨v, h1, h2⟩ := partQ_sound ha h
        exact ⟨v, by simp [Instr.index, asIntOf, run_underlying hu, hb, run_sizeOf C.w hc.2, h1], h2⟩
      · cases h
    · cases h
  · rename_i z hz hu
    obtain ⟨kk, rfl⟩ := ixOf_sound hi hz
    split at h
    · rename_i s
      split at h
      · rename_i hb
        cases hx
        cases h
        have hlt : z.toNat < s.size := by omega
        have hs : s[z.toNat]? = some (s.data.getD z.toNat 0) := by
          have : z.toNat < s.data.size := hlt
          rw [getElem?_pos s z.toNat hlt]
          congr 1
          show s.data[z.toNat] = _
          unfold Array.getD; rw [dif_pos this]; rfl
        exact ⟨_, by simp [Instr.index, asIntOf, run_underlying hu, hb.1, hs], .val⟩
      · cases h
    · cases h
  · cases h

def extractQ (i : Nat) : PV → Option PV
  | .tup ps => ps[i]?
  | _ => none
theorem extractQ_sound {P : Program} {C : Ctx} {i : Nat} {x p : PV} {X : Value} (hx : RV P C x X) (h : extractQ i x = some p) :
    ∃ v, (Instr.extract X i).run P C.w = .ok v C.w ∧ RV P C p v := by
  unfold extractQ at h
  split at h
  · cases hx with
    | tup hs hh =>
      rename_i ps a
      have hlt : i < a.size := by rw [hs]; exact (List.getElem?_eq_some_iff.1 h).1
      have h2 : a[i]? = some a[i] := Array.getElem?_eq_getElem hlt
      exact ⟨a[i], by simp [Instr.extract, h2], hh i _ _ h h2⟩
  · cases h
/-- A PV whose value's cells are the PV's cells. -/
def okc : PV → Bool
  | .any => false
  | .tup _ => false
  | .val (.tuple _) => false
  | _ => true
theorem RV.cellsC {P : Program} {C : Ctx} {p : PV} {V : Value} (h : RV P C p V) (hp : okc p = true) : Cs P C p.cells V.cells := by
  by_cases ha : p.isAgg = true
  · obtain ⟨a, rfl, hc⟩ := h.ofAgg ha
    exact hc
  · have h1 : p.cells = [p] := by
      unfold PV.cells
      split
      · simp [PV.isAgg] at ha
      · simp [PV.isAgg] at ha
      · rfl
    have h2 : V.cells = #[V] := by
      cases h with
      | any => simp [okc] at hp
      | val =>
        unfold Value.cells
        split
        · simp [PV.isAgg] at ha
        · rfl
      | ptr hV => obtain ⟨a, rfl⟩ := hV; rfl
      | sl hV => obtain ⟨a, c, rfl⟩ := hV; rfl
      | tup => simp [okc] at hp
      | agg => simp [PV.isAgg] at ha
      | lptr => rfl
      | lst => rfl
      | fn => rfl
      | ifc => rfl
      | yld => rfl
    rw [h1, h2]
    refine ⟨rfl, fun j c v g1 g2 => ?_⟩
    match j with
    | 0 => simp at g1 g2; subst g1; subst g2; exact h
    | j + 1 => simp at g1

/-- Parts laid into the cells of a value. -/
def fillQ (place : Nat → Option (Nat × Nat)) (cells : List PV) : List (Nat × PV) → Option (List PV)
  | [] => some cells
  | (i, p) :: rest =>
    match place i with
    | none => none
    | some (off, size) => if okc p && p.cells.length == size && decide (off + size ≤ cells.length) then fillQ place (cells.take off ++ p.cells ++ cells.drop (off + size)) rest else none

theorem foldl_set (vs : List Value) : ∀ (k off : Nat) (cs : Array Value), off + k + vs.length ≤ cs.size →
    ((vs.zipIdx k).foldl (fun cs (c, j) => cs.setIfInBounds (off + j) c) cs).toList = cs.toList.take (off + k) ++ vs ++ cs.toList.drop (off + k + vs.length) := by
  induction vs with
  | nil => intro k off cs _; simp
  | cons v vs ih =>
    intro k off cs h
    simp only [List.length_cons] at h
    simp only [List.zipIdx_cons, List.foldl_cons]
    rw [ih (k + 1) off _ (by simp; omega)]
    simp only [Array.toList_setIfInBounds]
    apply List.ext_getElem?
    intro j
    have hl : off + (k + 1) ≤ cs.toList.length := by simp; omega
    have hl' : off + k ≤ cs.toList.length := by simp; omega
    simp only [List.getElem?_append, List.length_append, List.length_take, List.length_set, List.getElem?_take, List.getElem?_drop, List.getElem?_set, List.length_cons]
    rcases Nat.lt_trichotomy j (off + k) with hj | hj | hj
    · have a1 : j < min (off + (k + 1)) cs.toList.length := by omega
      have a2 : j < min (off + k) cs.toList.length := by omega
      rw [if_pos (by omega), if_pos a1, if_pos (by omega), if_neg (by omega), if_pos (by omega), if_pos a2, if_pos (by omega)]
    · subst hj
      rw [if_pos (by omega), if_pos (by omega), if_pos (by omega), if_pos rfl, if_pos (by omega), if_pos (by omega), if_neg (by omega)]
      rw [show off + k - min (off + k) cs.toList.length = 0 by omega]; rfl
    · by_cases h3 : j < off + k + 1 + vs.length
      · rw [if_pos (by omega), if_neg (by omega), if_pos (by omega), if_neg (by omega)]
        rw [show j - min (off + (k + 1)) cs.toList.length = j - (off + k) - 1 by omega, show j - min (off + k) cs.toList.length = j - (off + k) - 1 + 1 by omega, List.getElem?_cons_succ]
      · rw [if_neg (by omega), if_neg (by omega)]
        rw [if_neg (by omega)]
        congr 1
        omega

theorem fillQ_sound {P : Program} {C : Ctx} {place : Nat → Option (Nat × Nat)} : ∀ {parts : List (Nat × PV)} {vs : List (Nat × Value)} {cells out : List PV} {a : Array Value},
    fillQ place cells parts = some out → Cs P C cells a → parts.length = vs.length → (∀ (j : Nat) p v, parts[j]? = some p → vs[j]? = some v → p.1 = v.1 ∧ RV P C p.2 v.2) →
    ∃ a', Instr.fill place a vs = some a' ∧ Cs P C out a'
  | [], [], cells, out, a, h, ha, _, _ => by simp only [fillQ, Option.some.injEq] at h; subst h; exact ⟨a, rfl, ha⟩
  | [], _ :: _, _, _, _, _, _, hl, _ => by simp at hl
  | _ :: _, [], _, _, _, _, _, hl, _ => by simp at hl
  | (i, p) :: parts, (i', v) :: vs, cells, out, a, h, ha, hl, hv => by
    have h0 := hv 0 _ _ rfl rfl
    obtain ⟨e, h0⟩ := h0
    simp only at e h0
    subst e
    simp only [fillQ] at h
    split at h
    · cases h
    · rename_i off size hp
      split at h
      · rename_i hc
        simp only [Bool.and_eq_true, beq_iff_eq, decide_eq_true_eq] at hc
        obtain ⟨⟨h1, h2⟩, h3⟩ := hc
        have hcs := h0.cellsC h1
        have hvs : v.cells.size = size := by rw [hcs.1, h2]
        simp only [Instr.fill, hp]
        rw [if_neg (by simp [hvs, ha.1]; omega)]
        have hfold := foldl_set v.cells.toList 0 off a (by simp [hvs, ha.1]; omega)
        simp only [Nat.add_zero, Array.length_toList, hvs] at hfold
        refine fillQ_sound h ?_ (by simpa using hl) (fun j p v h1 h2 => hv (j + 1) p v h1 h2)
        have hz : (Array.zipIdx v.cells).foldl (fun cs (c, j) => cs.setIfInBounds (off + j) c) a = (a.toList.take off ++ v.cells.toList ++ a.toList.drop (off + size)).toArray := by
          apply Array.ext'
          rw [List.toList_toArray, ← hfold, ← Array.foldl_toList, Array.toList_zipIdx]
        rw [hz]
        refine ⟨by simp [ha.1, hvs, h2], fun j c u g1 g2 => ?_⟩
        rw [List.getElem?_append, List.getElem?_append] at g1
        simp only [List.getElem?_toArray] at g2
        rw [List.getElem?_append, List.getElem?_append] at g2
        simp only [List.length_append, List.length_take, Array.length_toList, ha.1, hvs, h2] at g1 g2
        split at g1
        · rename_i k1
          rw [if_pos k1] at g2
          split at g1
          · rename_i k2
            rw [if_pos k2] at g2
            rw [List.getElem?_take] at g1 g2
            split at g1
            · rename_i k3
              rw [if_pos k3] at g2
              exact ha.2 j c u g1 (by simpa using g2)
            · cases g1
          · rename_i k2
            rw [if_neg k2] at g2
            exact hcs.2 _ c u g1 (by simpa using g2)
        · rename_i k1
          rw [if_neg k1] at g2
          rw [List.getElem?_drop] at g1 g2
          exact ha.2 _ c u g1 (by simpa using g2)
      · cases h

/-- The parts of a struct or an array: where each lies. -/
def placesQ (P : Program) (T : TypeId) : Option (Nat → Option (Nat × Nat)) :=
  match P.underlying T with
  | some (.struct fs) => if fs.all (fun f => known P f.type) then some (fun i => (fs[i]?).map fun f => (f.offset, P.cellsOf f.type)) else none
  | some (.array _ e) => if known P e then some (fun i => some (i * P.cellsOf e, P.cellsOf e)) else none
  | _ => none
def zeroQ (P : Program) (T : TypeId) : Option Value := (P.info? T).bind (·.zero)
def buildQ (P : Program) (T : TypeId) (parts : List (Nat × PV)) : Option PV :=
  match zeroQ P T, placesQ P T with
  | some z, some place => (fillQ place (z.cells.toList.map .val) parts).map .agg
  | _, _ => none

theorem run_zeroQ {P : Program} {T : TypeId} {z : Value} (h : zeroQ P T = some z) (w : World) : (zeroValue T).run P w = .ok z w := by
  unfold zeroQ at h
  cases hi : P.info? T with
  | none => simp [hi] at h
  | some i =>
    simp only [hi, Option.bind_some] at h
    simp [zeroValue, typeInfo, hi, h]
theorem Cs.ofVals {P : Program} {C : Ctx} (a : Array Value) : Cs P C (a.toList.map .val) a := by
  refine ⟨by simp, fun j c v h1 h2 => ?_⟩
  simp only [List.getElem?_map, Option.map_eq_some_iff] at h1
  obtain ⟨x, hx, rfl⟩ := h1
  have : x = v := Option.some.inj (hx.symm.trans (by rw [Array.getElem?_toList]; exact h2))
  subst this
  exact .val

theorem run_mapM_places {P : Program} (w : World) (fs : Array Field) (h : fs.all (fun f => known P f.type) = true) :
    (fs.mapM fun f => (do pure (f.offset, ← sizeOf f.type) : Sem (Nat × Nat))).run P w = .ok (fs.map fun f => (f.offset, P.cellsOf f.type)) w := by
  have key : ∀ l : List Field, (∀ f ∈ l, known P f.type = true) →
      (l.mapM fun f => (do pure (f.offset, ← sizeOf f.type) : Sem (Nat × Nat))).run P w = .ok (l.map fun f => (f.offset, P.cellsOf f.type)) w := by
    intro l
    induction l with
    | nil => intro _; simp
    | cons f l ih =>
      intro hl
      rw [List.mapM_cons]
      simp only [Sem.run_bind, run_sizeOf w (hl f (by simp)), Result.andThen_ok, Sem.run_pure, ih (fun g hg => hl g (by simp [hg])), List.map_cons]
  have h2 := key fs.toList (fun f hf => by
    have := Array.all_eq_true_iff_forall_mem.1 h f (by simpa using hf)
    exact this)
  rw [Array.mapM_eq_mapM_toList]
  simp only [Sem.run_map, h2, Result.andThen_ok]
  congr 1
  apply Array.ext'
  simp

theorem buildQ_sound {P : Program} {C : Ctx} {T : TypeId} {parts : List (Nat × PV)} {vs : List (Nat × Value)} {p : PV} (h : buildQ P T parts = some p) (hl : parts.length = vs.length)
    (hv : ∀ (j : Nat) q v, parts[j]? = some q → vs[j]? = some v → q.1 = v.1 ∧ RV P C q.2 v.2) : ∃ v, (Instr.build T vs.toArray).run P C.w = .ok v C.w ∧ RV P C p v := by
  unfold buildQ at h
  split at h
  · rename_i z place hz hp
    simp only [Option.map_eq_some_iff] at h
    obtain ⟨out, h, rfl⟩ := h
    obtain ⟨a', g1, g2⟩ := fillQ_sound h (Cs.ofVals z.cells) hl hv
    refine ⟨.agg a', ?_, .agg g2.1 g2.2⟩
    unfold placesQ at hp
    split at hp
    · rename_i fs hu
      split at hp
      · rename_i hk
        cases hp
        simp only [Instr.build, Sem.run_bind, run_zeroQ hz, Result.andThen_ok, run_underlying hu, run_mapM_places C.w fs hk]
        have e : (fun (x : Nat) => (fs.map fun f => (f.offset, P.cellsOf f.type))[x]?) = (fun i => (fs[i]?).map fun (f : Field) => (f.offset, P.cellsOf f.type)) := by funext i; simp
        rw [e, g1]
        simp
      · cases hp
    · rename_i n e hu
      split at hp
      · rename_i hk
        cases hp
        simp only [Instr.build, Sem.run_bind, run_zeroQ hz, Result.andThen_ok, run_underlying hu, run_sizeOf C.w hk, g1]
        simp
      · cases hp
    · cases hp
  · cases h

/-- Slice expressions. -/
def natIx (o : Option PV) : Option (Option Int) :=
  match o with
  | none => some none
  | some p => (ixOf p).map some
def sliceQ (P : Program) (H : List Row) (T : TypeId) (x : PV) (lo hi mx : Option PV) : Option PV :=
  match P.underlying T, x, natIx lo, natIx hi, natIx mx with
  | some .string, .val (.string s), some l, some h, some none =>
    if 0 ≤ l.getD 0 ∧ l.getD 0 ≤ h.getD s.size ∧ h.getD s.size ≤ s.size then some (.val (.string (s.extract (l.getD 0).toNat (h.getD s.size).toNat))) else none
  | some (.slice e), .lst full t es, some l, some h, some none =>
    if known P e && t == e then
      (if 0 ≤ l.getD 0 ∧ l.getD 0 ≤ h.getD es.length ∧ h.getD es.length ≤ es.length then
        some (.lst (full && h.isNone) t ((es.take (h.getD es.length).toNat).drop (l.getD 0).toNat)) else none) else none
  | some (.slice e), .lst _ t es, some l, some (some h), some (some m) =>
    if known P e && t == e then
      (if 0 ≤ l.getD 0 ∧ l.getD 0 ≤ h ∧ h ≤ m ∧ m ≤ es.length then
        some (.lst (h == m) t ((es.take h.toNat).drop (l.getD 0).toNat)) else none) else none
  | some (.slice e), .sl i n k len, some none, some h, some none =>
    match rowAt H i with
    | some r => if known P e && r.es.length == n && r.s == P.cellsOf e then (if 0 ≤ h.getD len ∧ h.getD len ≤ len then some (.sl i n k (h.getD len).toNat) else none) else none
    | none => none
  | some (.slice e), .sl i n k len, some (some l), some h, some none =>
    match rowAt H i with
    | some r => if known P e && r.es.length == n && r.s == P.cellsOf e then
        (if 0 ≤ l ∧ l < len ∧ l ≤ h.getD len ∧ h.getD len ≤ len then some (.sl i n (k + l.toNat) (h.getD len - l).toNat) else none) else none
    | none => none
  | _, _, _, _, _ => none

/-- A bound of a slice expression: it reads as the number z (d where there is none). -/
def Bd (V : Option Value) (o : Option Int) : Prop := (V = none ∧ o = none) ∨ ∃ k z, V = some (.int k z) ∧ o = some z
theorem natIx_sound {P : Program} {C : Ctx} {o : Option PV} {V : Option Value} {r : Option Int} (h : natIx o = some r) (hn : o.isSome = V.isSome) (hv : ∀ p v, o = some p → V = some v → RV P C p v) : Bd V r := by
  cases o with
  | none =>
    cases V with
    | none => simp only [natIx, Option.some.injEq] at h; subst h; exact .inl ⟨rfl, rfl⟩
    | some v => simp at hn
  | some p =>
    cases V with
    | none => simp at hn
    | some v =>
      simp only [natIx, Option.map_eq_some_iff] at h
      obtain ⟨z, hz, rfl⟩ := h
      obtain ⟨k, rfl⟩ := ixOf_sound (hv p v rfl rfl) hz
      exact .inr ⟨k, z, rfl, rfl⟩

section
variable {P : Program} (w : World)
theorem run_sliceBound {k : IntKind} {z : Int} {y : Nat} {c : BoundsCode} (h0 : 0 ≤ z) (h1 : z ≤ y) : (Instr.sliceBound (.int k z) y c).run P w = .ok z.toNat w := by
  simp [Instr.sliceBound, asIntOf, h0, h1]
theorem run_sliceBounds2 {isSlice : Bool} {len cap : Nat} {L Hi : Option Value} {l h : Option Int} (hL : Bd L l) (hH : Bd Hi h) (h0 : 0 ≤ l.getD 0) (h1 : l.getD 0 ≤ h.getD len) (h2 : h.getD len ≤ cap) :
    (Instr.sliceBounds isSlice len cap L Hi none).run P w = .ok ((l.getD 0).toNat, (h.getD len).toNat, cap) w := by
  unfold Instr.sliceBounds
  rcases hH with ⟨rfl, rfl⟩ | ⟨k, z, rfl, rfl⟩ <;> rcases hL with ⟨rfl, rfl⟩ | ⟨k', z', rfl, rfl⟩ <;> simp only [Option.getD_some, Option.getD_none] at h0 h1 h2 ⊢
  · simp
  · simp [run_sliceBound w h0 (show z' ≤ (len : Nat) from h1)]
  · simp [run_sliceBound w (show 0 ≤ z by omega) h2]
  · have := run_sliceBound (P := P) (k := k') (c := .sliceB) w h0 (show z' ≤ ((z.toNat : Nat) : Int) by omega)
    simp [run_sliceBound w (show 0 ≤ z by omega) h2, this]
theorem run_sliceBounds3 {isSlice : Bool} {len cap : Nat} {L Hi M : Option Value} {l : Option Int} {h m : Int} (hL : Bd L l) (hH : Bd Hi (some h)) (hM : Bd M (some m)) (h0 : 0 ≤ l.getD 0) (h1 : l.getD 0 ≤ h) (h2 : h ≤ m) (h3 : m ≤ cap) :
    (Instr.sliceBounds isSlice len cap L Hi M).run P w = .ok ((l.getD 0).toNat, h.toNat, m.toNat) w := by
  unfold Instr.sliceBounds
  rcases hH with ⟨_, hh⟩ | ⟨k, z, rfl, hh⟩
  · cases hh
  cases hh
  rcases hM with ⟨_, hh⟩ | ⟨k2, z2, rfl, hh⟩
  · cases hh
  cases hh
  have e1 := run_sliceBound (P := P) (k := k2) (c := if isSlice then .slice3Acap else .slice3Alen) w (show 0 ≤ m by omega) h3
  have e2 := run_sliceBound (P := P) (k := k) (c := .slice3B) w (show 0 ≤ h by omega) (show h ≤ ((m.toNat : Nat) : Int) by omega)
  rcases hL with ⟨rfl, rfl⟩ | ⟨k', z', rfl, rfl⟩ <;> simp only [Option.getD_some, Option.getD_none] at h0 h1 ⊢
  · simp [e1, e2]
  · have e3 := run_sliceBound (P := P) (k := k') (c := .slice3C) w h0 (show z' ≤ ((h.toNat : Nat) : Int) by omega)
    simp [e1, e2, e3]
end

theorem getElem?_window {es : List PV} {l h x : Nat} {e : PV} (hx : ((es.take h).drop l)[x]? = some e) : es[l + x]? = some e ∧ l + x < h := by
  rw [List.getElem?_drop, List.getElem?_take] at hx
  split at hx
  · exact ⟨hx, by assumption⟩
  · cases hx

/-- A window of a list. -/
theorem RV.window {P : Program} {C : Ctx} {full full' : Bool} {t : TypeId} {es : List PV} {a a' : Option Addr} {cap cap' l h : Nat} (hv : RV P C (.lst full t es) (.slice a es.length cap)) (hl : l ≤ h) (hh : h ≤ es.length)
    (ha : l < h → a' = a.map (·.add (l * P.cellsOf t))) (hc : h - l ≤ cap') (hf : full' = true → cap' = h - l) : RV P C (.lst full' t ((es.take h).drop l)) (.slice a' (h - l) cap') := by
  have hlen : ((es.take h).drop l).length = h - l := by simp; omega
  cases hv with
  | lst b off cv hcap hfull hA hC hR ht =>
    rw [← hlen]
    refine .lst b (off + l * P.cellsOf t) (fun x j => cv (l + x) j) (by omega) (fun hh => by rw [hlen]; exact hf hh) (fun h0 => ?_) (fun x e j p hx hj => ?_) (fun x e j p hx hj => ?_) (fun e he => ht e (List.mem_of_mem_take (List.mem_of_mem_drop he)))
    · obtain ⟨rfl, g2, g3⟩ := hA (by omega)
      refine ⟨?_, g2, g3⟩
      rw [ha (by omega)]
      simp [addr_add]
    · obtain ⟨g1, g2⟩ := getElem?_window hx
      have := hC _ e j p g1 hj
      rwa [Nat.add_mul, ← Nat.add_assoc] at this
    · obtain ⟨g1, g2⟩ := getElem?_window hx
      exact hR _ e j p g1 hj

theorem sliceQ_sound {P : Program} {C : Ctx} {H : List Row} {T : TypeId} {x p : PV} {X : Value} {lo hi mx : Option PV} {L Hi M : Option Value} (hS : Sub H C) (hx : RV P C x X)
    (hl : ∀ r, natIx lo = some r → Bd L r) (hh : ∀ r, natIx hi = some r → Bd Hi r) (hm : ∀ r, natIx mx = some r → Bd M r) (h : sliceQ P H T x lo hi mx = some p) :
    ∃ v, (Instr.slice T X L Hi M).run P C.w = .ok v C.w ∧ RV P C p v := by
  unfold sliceQ at h
  split at h
  · rename_i s l hh' hu e1 e2 e3
    split at h
    · rename_i hc
      cases hx; cases h
      have hM : M = none := by rcases hm _ e3 with ⟨rfl, _⟩ | ⟨_, _, _, hz⟩; rfl; cases hz
      subst hM
      refine ⟨_, ?_, .val⟩
      simp [Instr.slice, run_underlying hu, run_sliceBounds2 C.w (isSlice := false) (hl _ e1) (hh _ e2) hc.1 hc.2.1 hc.2.2]
    · cases h
  · rename_i e full t es l hh' hu e1 e2 e3
    split at h
    · rename_i hk
      simp only [Bool.and_eq_true, beq_iff_eq] at hk
      obtain ⟨hk, rfl⟩ := hk
      split at h
      · rename_i hc
        cases h
        have hM : M = none := by rcases hm _ e3 with ⟨rfl, _⟩ | ⟨_, _, _, hz⟩; rfl; cases hz
        subst hM
        cases hx with
        | @lst _ _ _ a cap b off cv hcap hfull hA hC hR ht =>
          have hb := run_sliceBounds2 (P := P) (len := es.length) (cap := cap) C.w (isSlice := true) (hl _ e1) (hh _ e2) hc.1 hc.2.1 (by omega)
          refine ⟨_, by simp [Instr.slice, run_underlying hu, hb, run_sizeOf C.w hk]; rfl, ?_⟩
          refine RV.window (full := full) (.lst b off cv hcap hfull hA hC hR ht) (by omega) (by omega) (fun hlt => ?_) (by omega) (fun hf => ?_)
          · rw [if_neg (by omega)]
          · simp only [Bool.and_eq_true, Option.isNone_iff_eq_none] at hf
            obtain ⟨hf1, rfl⟩ := hf
            have := hfull hf1
            simp only [Option.getD_none]
            omega
      · cases h
    · cases h
  · rename_i e full t es l hh' m hu e1 e2 e3
    split at h
    · rename_i hk
      simp only [Bool.and_eq_true, beq_iff_eq] at hk
      obtain ⟨hk, rfl⟩ := hk
      split at h
      · rename_i hc
        cases h
        cases hx with
        | @lst _ _ _ a cap b off cv hcap hfull hA hC hR ht =>
          have hb := run_sliceBounds3 (P := P) (len := es.length) (cap := cap) C.w (isSlice := true) (hl _ e1) (hh _ e2) (hm _ e3) hc.1 hc.2.1 hc.2.2.1 (by omega)
          refine ⟨_, by simp [Instr.slice, run_underlying hu, hb, run_sizeOf C.w hk]; rfl, ?_⟩
          refine RV.window (full := full) (.lst b off cv hcap hfull hA hC hR ht) (by omega) (by omega) (fun hlt => ?_) (by omega) (fun hf => ?_)
          · rw [if_neg (by omega)]
          · simp only [beq_iff_eq] at hf
            omega
      · cases h
    · cases h
  · rename_i e i n k len hh' hu e1 e2 e3
    split at h
    · rename_i r hr
      split at h
      · rename_i hk
        simp only [Bool.and_eq_true, beq_iff_eq] at hk
        obtain ⟨⟨hk, h2⟩, h3⟩ := hk
        split at h
        · rename_i hc
          cases h
          have hM : M = none := by rcases hm _ e3 with ⟨rfl, _⟩ | ⟨_, _, _, hz⟩; rfl; cases hz
          subst hM
          cases hx with
          | sl hV hi' hle hh2 =>
            obtain ⟨g1, a, cap, rfl, g3, g4⟩ := hh2 r (hS i r hr) h2
            have hb := run_sliceBounds2 (P := P) (len := len) (cap := cap) C.w (isSlice := true) (hl _ e1) (hh _ e2) (by simp) (by simpa using hc.1) (by omega)
            refine ⟨.slice a (hh'.getD len).toNat cap, by simp [Instr.slice, run_underlying hu, hb, run_sizeOf C.w hk]; cases a <;> simp [Addr.add], .sl ⟨_, _, rfl⟩ hi' hle fun r' hr' hn => ?_⟩
            have e' : r' = r := Option.some.inj (hr'.symm.trans (hS i r hr))
            subst e'
            exact ⟨by omega, a, cap, rfl, by omega, g4⟩
        · cases h
      · cases h
    · cases h
  · rename_i e i n k len l hh' hu e1 e2 e3
    split at h
    · rename_i r hr
      split at h
      · rename_i hk
        simp only [Bool.and_eq_true, beq_iff_eq] at hk
        obtain ⟨⟨hk, h2⟩, h3⟩ := hk
        split at h
        · rename_i hc
          cases h
          have hM : M = none := by rcases hm _ e3 with ⟨rfl, _⟩ | ⟨_, _, _, hz⟩; rfl; cases hz
          subst hM
          cases hx with
          | sl hV hi' hle hh2 =>
            obtain ⟨g1, a, cap, rfl, g3, g4⟩ := hh2 r (hS i r hr) h2
            have hb := run_sliceBounds2 (P := P) (len := len) (cap := cap) C.w (isSlice := true) (hl _ e1) (hh _ e2) (by simpa using hc.1) (by simpa using hc.2.2.1) (by omega)
            unfold SlAt at g4
            split at g4
            · omega
            · rename_i hnl
              obtain ⟨b, q1, rfl, c, ee, fr, q2, q3⟩ := g4
              refine ⟨.slice (some ⟨b, (k + l.toNat) * r.s, none⟩) (hh'.getD len - l).toNat (cap - l.toNat), ?_, .sl ⟨_, _, rfl⟩ hi' hle fun r' hr' hn => ?_⟩
              · simp only [Instr.slice, Sem.run_bind, run_underlying hu, Result.andThen_ok, hb, run_sizeOf C.w hk, Option.getD_some, Sem.run_pure]
                rw [if_neg (by omega)]
                simp only [Option.map_some, addr_add, ← h3, ← Nat.add_mul]
                congr 2
                omega
              · have e' : r' = r := Option.some.inj (hr'.symm.trans (hS i r hr))
                subst e'
                refine ⟨by omega, _, _, rfl, by omega, ?_⟩
                unfold SlAt
                rw [if_neg hnl]
                refine ⟨b, q1, rfl, c, ee, fr, q2, ?_⟩
                rw [show k + l.toNat + (cap - l.toNat) = k + cap by omega]
                exact q3
        · cases h
      · cases h
    · cases h
  · cases h
end Go.Hx
