/- Hx: the operations that make one new block: alloc, box, a slice literal, make. -/
import Derived.Test.YtadcoepikgjgmaaHxOps
import Derived.Laws.IdiomStrings
namespace Go.Hx

/-- The elements that these cells make, n of them. -/
def chunk (ag : Bool) (s : Nat) (out : List PV) : Nat → List PV
  | 0 => []
  | n + 1 => (if ag then .agg (out.take s) else out.headD .any) :: chunk ag s (out.drop s) n

theorem chunk_get {ag : Bool} {s : Nat} (hs : ag = true ∨ s = 1) : ∀ {n : Nat} {out : List PV} (_ : out.length = n * s) (_ : ag = false → ∀ p ∈ out, p.isAgg = false) {k : Nat} {e : PV}, (chunk ag s out n)[k]? = some e →
    e.cells.length = s ∧ ∀ (j : Nat) p, e.cells[j]? = some p → j < s ∧ out[k * s + j]? = some p
  | 0, _, _, _, k, e, h => by simp [chunk] at h
  | n + 1, out, hl, ho, 0, e, h => by
    simp only [chunk, List.getElem?_cons_zero, Option.some.injEq] at h
    subst h
    rw [Nat.add_mul, Nat.one_mul] at hl
    cases ag with
    | true =>
      simp only [if_true, PV.cells]
      refine ⟨by simp; omega, fun j p hj => ?_⟩
      rw [List.getElem?_take] at hj
      split at hj
      · rename_i hj'; exact ⟨hj', by simpa using hj⟩
      · cases hj
    | false =>
      have hs1 : s = 1 := by simpa using hs
      subst hs1
      obtain ⟨x, rest, rfl⟩ : ∃ x rest, out = x :: rest := by
        cases out with
        | nil => simp at hl
        | cons x rest => exact ⟨x, rest, rfl⟩
      have hx := ho rfl x (by simp)
      have hc : x.cells = [x] := by
        unfold PV.cells
        split
        · simp [PV.isAgg] at hx
        · simp [PV.isAgg] at hx
        · rfl
      simp only [Bool.false_eq_true, if_false, List.headD_cons, hc]
      refine ⟨rfl, fun j p hj => ?_⟩
      match j with
      | 0 => simp at hj; subst hj; simp
      | j + 1 => simp at hj
  | n + 1, out, hl, ho, k + 1, e, h => by
    rw [Nat.add_mul, Nat.one_mul] at hl
    simp only [chunk, List.getElem?_cons_succ] at h
    obtain ⟨h1, h2⟩ := chunk_get hs (n := n) (out := out.drop s) (by simp; omega) (fun ha p hp => ho ha p (List.mem_of_mem_drop hp)) h
    refine ⟨h1, fun j p hj => ?_⟩
    obtain ⟨g1, g2⟩ := h2 j p hj
    refine ⟨g1, ?_⟩
    rw [List.getElem?_drop] at g2
    rw [← g2]
    congr 1
    rw [Nat.add_mul, Nat.one_mul]
    omega
theorem chunk_length (ag : Bool) (s : Nat) : ∀ (n : Nat) (out : List PV), (chunk ag s out n).length = n
  | 0, _ => rfl
  | n + 1, out => by simp [chunk, chunk_length ag s n]

def mkRow (P : Program) (t : TypeId) (es : List PV) : Row := { es, s := P.cellsOf t, t, bv := es.all (wt P t) }

def buildSliceQ (P : Program) (T : TypeId) (len : Nat) (parts : List (Nat × PV)) : Option (TypeId × List PV) :=
  match P.underlying T with
  | some (.slice e) =>
    match zeroQ P e with
    | some z =>
      let s := P.cellsOf e
      if known P e && decide (len * s ≤ 2 ^ 24) && z.cells.size == s && (isAggT P e || s == 1) && decide (0 < s) then
        match fillQ (fun i => some (i * s, s)) ((List.range (len * s)).map fun x => .val z.cells[x % s]!) parts with
        | some out => if isAggT P e || out.all (fun p => !p.isAgg) then some (e, chunk (isAggT P e) s out len) else none
        | none => none
      else none
    | none => none
  | _ => none

/-- The bytes of a string. -/
def bytePV (b : UInt8) : PV := .val (.int .u8 (b.toNat : Int))
def bytesL (s : ByteArray) : List PV := s.data.toList.map bytePV
def byteT (P : Program) (e : TypeId) : Bool := (match P.underlying e with | some (.int .u8) => true | _ => false) && P.cellsOf e == 1 && wt P e (.val (.int .u8 0))
theorem byteT_under {P : Program} {e : TypeId} (h : byteT P e = true) : P.underlying e = some (.int .u8) ∧ P.cellsOf e = 1 ∧ wt P e (.val (.int .u8 0)) = true := by
  unfold byteT at h
  simp only [Bool.and_eq_true, beq_iff_eq] at h
  refine ⟨?_, h.1.2, h.2⟩
  have h1 := h.1.1
  split at h1
  · assumption
  · cases h1
theorem byteT_wt {P : Program} {e : TypeId} (h : wt P e (.val (.int .u8 0)) = true) (n : Int) : wt P e (.val (.int .u8 n)) = true := by
  unfold wt at h ⊢
  revert h
  cases kinds P e with
  | nil => simp [wtcs, PV.cells]
  | cons k ks => cases k <;> simp [wtcs, PV.cells, wtc]

def newQ (P : Program) (H : List Row) (f : Operand → PV) : Op → Option (PV × Row)
  | .convert src dst x =>
    match P.underlying src, P.underlying dst, f x with
    | some .string, some (.slice e), .val (.string s) => if byteT P e then some (.sl H.length s.size 0 s.size, { es := bytesL s, s := P.cellsOf e, t := e, bv := true }) else none
    | _, _, _ => none
  | .alloc T =>
    match zeroQ P T with
    | some z => if okc (.val z) && z.cells.size == P.cellsOf T then some (.ptr H.length 1 0 0, mkRow P T [.val z]) else none
    | none => none
  | .box T x => if okc (f x) && (f x).cells.length == P.cellsOf T then some (.ptr H.length 1 0 0, mkRow P T [f x]) else none
  | .buildSlice T len parts => (buildSliceQ P T len (parts.toList.map fun x => (x.1, f x.2))).map fun x => (.sl H.length len 0 len, mkRow P x.1 x.2)
  | .makeSlice T l c =>
    match P.underlying T, f l, f c with
    | some (.slice e), .val (.int _ n), .val (.int _ m) =>
      match zeroQ P e with
      | some z =>
        if okc (.val z) && known P e && z.cells.size == P.cellsOf e && decide (0 < P.cellsOf e) && decide (0 ≤ n) && decide (n ≤ m) && decide (m ≤ 2 ^ 40) && decide (P.bytesOf e ≤ 256) then
          some (.sl H.length n.toNat 0 n.toNat, mkRow P e (List.replicate n.toNat (.val z))) else none
      | none => none
    | _, _, _ => none
  | _ => none

/-- A row is laid into a new block. -/
theorem bind_row {P : Program} {C : Ctx} (hR : RH P C) {i : Nat} {t : TypeId} {es : List PV} (hρ : C.ρ i = none) (hro : C.ro ≤ i) (hr : C.row? i = some (mkRow P t es)) {c : Array Value}
    (hc : es.length * P.cellsOf t ≤ c.size) (hv : ∀ (k : Nat) e (j : Nat) p, es[k]? = some e → e.cells[j]? = some p → ∃ v, c[k * P.cellsOf t + j]? = some v ∧ RV P C p v)
    (hl : ∀ e, e ∈ es → e.cells.length = P.cellsOf t) : RH P (C.bind i (.cells c t)) := by
  refine Ctx.bind_rows (C := C) hR hρ hro hr rfl (c := c) (fr := (0, 0)) (fun off _ => by simp) hc (fun k j => c.getD (k * P.cellsOf t + j) undef) (fun k e j p h1 h2 => ?_) hl (fun hb e he => ?_)
  · obtain ⟨v, g1, g2⟩ := hv k e j p h1 h2
    have e2 : c.getD (k * P.cellsOf t + j) undef = v := by rw [Array.getD_eq_getD_getElem?, g1]; rfl
    exact ⟨by rw [e2]; exact g1, by rw [e2]; exact g2⟩
  · have := List.all_eq_true.1 hb e he
    exact this

theorem bind_ptr {P : Program} {C : Ctx} {i : Nat} {t : TypeId} {e : PV} {o : Obj} (hi : i < C.H.length) (hr : C.row? i = some (mkRow P t [e])) :
    RV P (C.bind i o) (.ptr i 1 0 0) (.pointer (some ⟨C.w.heap.size, 0, none⟩)) := by
  refine .ptr ⟨_, rfl⟩ (by omega) hi (fun r hr' => ?_) fun r hr' _ => ⟨C.w.heap.size, by simp [Ctx.bind], by simp⟩
  have : r = mkRow P t [e] := Option.some.inj ((show C.row? i = some r from hr').symm.trans hr)
  subst this
  simp [mkRow]

structure NewTo (P : Program) (C C' : Ctx) (h : Nat) (p : PV) (v : Value) : Prop where
  H : C'.H = C.H
  ext : Ext C C'
  rh : RH P C'
  rv : RV P C' p v
  ρ : ∀ i, i ≠ h → C'.ρ i = C.ρ i
  old : ∀ b, b < C.w.heap.size → C'.w.heap[b]? = C.w.heap[b]?

theorem bind_old {C : Ctx} {i : Nat} {o : Obj} : ∀ b, b < C.w.heap.size → (C.bind i o).w.heap[b]? = C.w.heap[b]? := fun _ hb => Go.heap_alloc_old C.w _ hb
theorem bind_ρ {C : Ctx} {i : Nat} {o : Obj} : ∀ x, x ≠ i → (C.bind i o).ρ x = C.ρ x := fun x hx => by simp [Ctx.bind, hx]

theorem new_box {P : Program} {C : Ctx} (hR : RH P C) {i : Nat} {T : TypeId} {p : PV} {V : Value} (hi : i < C.H.length) (hρ : C.ρ i = none) (hro : C.ro ≤ i) (hr : C.row? i = some (mkRow P T [p])) (hv : RV P C p V) (ho : okc p = true)
    (hl : p.cells.length = P.cellsOf T) : NewTo P C (C.bind i (.cells V.cells T)) i (.ptr i 1 0 0) (.pointer (some ⟨C.w.heap.size, 0, none⟩)) := by
  have hcs := hv.cellsC ho
  refine ⟨rfl, Ctx.bind_ext hρ hro _, bind_row hR hρ hro hr (by simp [hcs.1, hl]) (fun k e j q h1 h2 => ?_) (fun e he => by simp at he; subst he; exact hl), bind_ptr hi hr, bind_ρ, bind_old⟩
  match k with
  | 0 =>
    simp at h1
    subst h1
    have hlt : j < V.cells.size := by rw [hcs.1]; exact (List.getElem?_eq_some_iff.1 h2).1
    have g : V.cells[j]? = some V.cells[j] := Array.getElem?_eq_getElem hlt
    exact ⟨V.cells[j], by simp [g], hcs.2 j q _ h2 g⟩
  | k + 1 => simp at h1

theorem fillQ_length {place : Nat → Option (Nat × Nat)} : ∀ {parts : List (Nat × PV)} {cells out : List PV}, fillQ place cells parts = some out → out.length = cells.length
  | [], cells, out, h => by simp only [fillQ, Option.some.injEq] at h; subst h; rfl
  | (i, p) :: parts, cells, out, h => by
    simp only [fillQ] at h
    split at h
    · cases h
    · split at h
      · rename_i hc
        simp only [Bool.and_eq_true, beq_iff_eq, decide_eq_true_eq] at hc
        rw [fillQ_length h]
        simp only [List.length_append, List.length_take, List.length_drop, hc.1.2]
        omega
      · cases h

theorem run_underlying_slice {P : Program} {T e : TypeId} (h : P.underlying T = some (.slice e)) (w : World) : (underlying T).run P w = .ok (.slice e) w := run_underlying h w

def Ctx.dr (C : Ctx) : Ctx := { C with w := C.w.drew }
theorem dr_ext (C : Ctx) : Ext C C.dr :=
  ⟨rfl, rfl, rfl, Nat.le_refl _, fun _ _ _ => rfl, fun _ c _ _ h => ⟨c, h, rfl⟩, Nat.le_refl _, fun _ r' _ h => ⟨r', h, rfl, rfl, Nat.le_refl _, fun _ => ⟨rfl, fun _ h => h⟩⟩, fun _ h => .inl h, fun _ h => .inl h, rfl, rfl, fun _ _ => ⟨rfl, rfl⟩, fun _ r info h1 h2 h3 => ⟨⟨r, info.st, h1, h2, h3⟩, fun _ h => h⟩, fun _ rec h => ⟨rec, h⟩⟩
theorem dr_rh {P : Program} {C : Ctx} (h : RH P C) : RH P C.dr :=
  ⟨h.inj, h.dom, fun i b r h1 h2 => (h.blk i b r h1 h2).mono (dr_ext C) rfl, h.ro, h.nfo, h.fol, fun i b r info h1 h2 h3 h4 => (h.lps i b r info h1 h2 h3 h4).mono (dr_ext C) rfl⟩
theorem new_bytes {P : Program} {C : Ctx} (hR : RH P C) {i : Nat} {e : TypeId} (he : byteT P e = true) (s : ByteArray) (cap : Nat) (hcap : s.size ≤ cap) (hi : i < C.H.length) (hρ : C.ρ i = none) (hro : C.ro ≤ i) (hr : C.row? i = some { es := bytesL s, s := P.cellsOf e, t := e, bv := true }) :
    NewTo P C (C.dr.bind i (.cells (bytesRow s cap) e ((bytesRow s cap).size, (bytesRow s cap).size + 1))) i (.sl i s.size 0 s.size) (.slice (some ⟨C.w.heap.size, 0, none⟩) s.size cap) := by
  obtain ⟨h1, h2, h3⟩ := byteT_under he
  have hss : s.size = s.data.size := rfl
  have hlen : (bytesL s).length = s.size := by simp only [bytesL, List.length_map, Array.length_toList]; exact hss.symm
  have hsz : (bytesRow s cap).size = cap := by simp only [bytesRow, Array.size_append, Array.size_map, Array.size_replicate]; omega
  refine ⟨rfl, (dr_ext C).trans (Ctx.bind_ext (C := C.dr) hρ hro _), ?_, ?_, bind_ρ (C := C.dr), bind_old (C := C.dr)⟩
  · refine Ctx.bind_rows (C := C.dr) (r := { es := bytesL s, s := P.cellsOf e, t := e, bv := true }) (dr_rh hR) hρ hro hr rfl (fr := ((bytesRow s cap).size, (bytesRow s cap).size + 1)) (fun off ho => by simp; omega) ?_ (fun k _ => .int .u8 ((s.data.toList.getD k 0).toNat : Int)) (fun k p j q g1 g2 => ?_) (fun p hp => ?_) (fun _ p hp => ?_)
    · show (bytesL s).length * P.cellsOf e ≤ _
      rw [hlen, h2, hsz]; omega
    · dsimp only at g1 ⊢
      unfold bytesL at g1
      rw [List.getElem?_map] at g1
      obtain ⟨b, hb, rfl⟩ := Option.map_eq_some_iff.1 g1
      have hk : k < s.data.toList.length := (List.getElem?_eq_some_iff.1 hb).1
      have hj : j = 0 ∧ q = bytePV b := by
        unfold bytePV PV.cells at g2
        match j with
        | 0 => exact ⟨rfl, (Option.some.inj g2).symm⟩
        | j + 1 => simp at g2
      obtain ⟨rfl, rfl⟩ := hj
      have hgd : s.data.toList.getD k 0 = b := by rw [List.getD_eq_getElem?_getD, hb]; rfl
      rw [hgd, h2, Nat.mul_one, Nat.add_zero]
      refine ⟨?_, .val⟩
      unfold bytesRow
      rw [Array.getElem?_append_left (by simpa using hk), Array.getElem?_map, ← Array.getElem?_toList, hb]; rfl
    · dsimp only at hp ⊢
      unfold bytesL at hp
      obtain ⟨b, _, rfl⟩ := List.mem_map.1 hp
      rw [h2]; rfl
    · dsimp only at hp ⊢
      unfold bytesL at hp
      obtain ⟨b, _, rfl⟩ := List.mem_map.1 hp
      exact byteT_wt h3 _
  · refine .sl ⟨_, _, rfl⟩ hi (fun r hr' => ?_) fun r hr' _ => ?_
    · have : r = { es := bytesL s, s := P.cellsOf e, t := e, bv := true } := Option.some.inj ((show C.row? _ = some r from hr').symm.trans hr)
      subst this; dsimp only; omega
    · have : r = { es := bytesL s, s := P.cellsOf e, t := e, bv := true } := Option.some.inj ((show C.row? _ = some r from hr').symm.trans hr)
      subst this
      refine ⟨by omega, _, _, rfl, hcap, ?_⟩
      unfold SlAt
      rw [if_neg (by simp)]
      refine ⟨C.w.heap.size, by simp [Ctx.bind, Ctx.dr], by simp, bytesRow s cap, e, _, heap_alloc_new C.w.drew _, ?_⟩
      dsimp only
      rw [h2, hsz]; omega

theorem newQ_sound {P : Program} {C : Ctx} {H : List Row} {f : Operand → PV} {g : Operand → Value} {o : Oper} {p : PV} {r : Row} (hR : RH P C) (hi : H.length < C.H.length) (hρ : C.ρ H.length = none) (hro : C.ro ≤ H.length)
    (hr : C.row? H.length = some r) (hv : ∀ x ∈ o.op.operands, RV P C (f x) (g x)) (h : newQ P H f o.op = some (p, r)) :
    ∃ v C', (execOp g o).run P C.w = .ok (.value v) C'.w ∧ NewTo P C C' H.length p v := by
  obtain ⟨dst, op, type, pos, after, guard⟩ := o
  simp only at h hv
  cases op <;> simp only [newQ, reduceCtorEq] at h <;> simp only [Op.operands] at hv
  case convert src dst x =>
    split at h
    · rename_i e s hs hd hx
      split at h
      · rename_i he
        cases h
        have hv' := hv x (by simp)
        rw [hx] at hv'
        generalize hG : g x = G at hv'
        cases hv'
        have hb := byteT_under he
        have hcap : s.size ≤ grownCap C.w s.size 0 e := grownCap_ge C.w s.size 0 e
        refine ⟨_, _, ?_, new_bytes hR he s (grownCap C.w s.size 0 e) hcap hi hρ hro hr⟩
        simp only [execOp, Sem.run_bind, hG]
        rw [run_bytes_of_string C.w src dst e s hs hd hb.1]
        rfl
      · cases h
    · cases h
  case alloc T =>
    split at h
    · rename_i z hz
      split at h
      · rename_i hc
        simp only [Bool.and_eq_true, beq_iff_eq] at hc
        obtain ⟨ho, hc⟩ := hc
        cases h
        · have hb := new_box hR hi hρ hro hr (V := z) .val ho (by
            have := (RV.cellsC (P := P) (C := C) (V := z) .val ho).1
            omega)
          refine ⟨_, _, ?_, hb⟩
          simp only [execOp, Instr.alloc, Sem.run_bind, run_zeroQ hz, Result.andThen_ok]
          rfl
      · cases h
    · cases h
  case box T x =>
    split at h
    · rename_i hc
      simp only [Bool.and_eq_true, beq_iff_eq] at hc
      cases h
      refine ⟨_, _, ?_, new_box hR hi hρ hro hr (hv x (by simp)) hc.1 hc.2⟩
      simp only [execOp, Instr.box, Sem.run_bind]
      rfl
    · cases h
  case buildSlice T len parts =>
    simp only [Option.map_eq_some_iff] at h
    obtain ⟨⟨e, es⟩, h, heq⟩ := h
    cases heq
    unfold buildSliceQ at h
    split at h
    · rename_i e' hu
      split at h
      · rename_i z hz
        simp only at h
        split at h
        · rename_i hc
          simp only [Bool.and_eq_true, beq_iff_eq, decide_eq_true_eq, Bool.or_eq_true] at hc
          obtain ⟨⟨⟨⟨hk, hle⟩, hzs⟩, hag⟩, hs0⟩ := hc
          split at h
          · rename_i out hf
            split at h
            · rename_i hoa
              simp only [Bool.or_eq_true] at hoa
              cases h
              have h0 : Cs P C ((List.range (len * P.cellsOf e)).map fun x => PV.val z.cells[x % P.cellsOf e]!) ((Array.range (len * P.cellsOf e)).map (z.cells[· % P.cellsOf e]!)) := by
                refine ⟨by simp, fun j c v h1 h2 => ?_⟩
                simp only [List.getElem?_map, Option.map_eq_some_iff] at h1
                obtain ⟨x, hx, rfl⟩ := h1
                simp only [Array.getElem?_map, Option.map_eq_some_iff] at h2
                obtain ⟨y, hy, rfl⟩ := h2
                have : x = y := by
                  have h3 : (Array.range (len * P.cellsOf e))[j]? = (List.range (len * P.cellsOf e))[j]? := by
                    rw [← Array.getElem?_toList, Array.toList_range]
                  rw [h3] at hy
                  exact Option.some.inj (hx.symm.trans hy)
                subst this
                exact .val
              obtain ⟨a', g1, g2⟩ := fillQ_sound (vs := parts.toList.map fun x => (x.1, g x.2)) hf h0 (by simp) (fun j q v g1 g2 => by
                simp only [List.getElem?_map, Option.map_eq_some_iff] at g1 g2
                obtain ⟨x, hx, rfl⟩ := g1
                obtain ⟨y, hy, rfl⟩ := g2
                have : x = y := Option.some.inj (hx.symm.trans hy)
                subst this
                exact ⟨rfl, hv _ (by simp only [List.mem_toArray, List.mem_map]; exact ⟨x, List.mem_of_getElem? hx, rfl⟩)⟩)
              have hol : out.length = len * P.cellsOf e := by
                have := fillQ_length hf
                simpa using this
              have hget := fun (k : Nat) (e1 : PV) (h1 : (chunk (isAggT P e) (P.cellsOf e) out len)[k]? = some e1) =>
                chunk_get (ag := isAggT P e) (s := P.cellsOf e) (by rcases hag with h | h; exact .inl h; exact .inr h) hol (fun ha p hp => by
                  rcases hoa with h | h
                  · rw [ha] at h; cases h
                  · have := List.all_eq_true.1 h p hp; simpa using this) h1
              have hex := Ctx.bind_ext (C := C) hρ hro (.cells a' e)
              have hN : NewTo P C (C.bind H.length (.cells a' e)) H.length (.sl H.length len 0 len) (.slice (some ⟨C.w.heap.size, 0, none⟩) len len) := by
                refine ⟨rfl, hex, bind_row hR hρ hro hr (by rw [chunk_length, g2.1, hol]; exact Nat.le_refl _) (fun k e1 j p h1 h2 => ?_) (fun e1 he => ?_), ?_, bind_ρ, bind_old⟩
                · obtain ⟨_, q2⟩ := hget k e1 h1
                  obtain ⟨q3, q4⟩ := q2 j p h2
                  have hlt : k * P.cellsOf e + j < a'.size := by rw [g2.1]; exact (List.getElem?_eq_some_iff.1 q4).1
                  have g : a'[k * P.cellsOf e + j]? = some (a'[k * P.cellsOf e + j]) := Array.getElem?_eq_getElem hlt
                  exact ⟨_, g, g2.2 _ p _ q4 g⟩
                · obtain ⟨k, hk1⟩ := List.getElem?_of_mem he
                  exact (hget k e1 hk1).1
                · refine .sl ⟨_, _, rfl⟩ hi (fun r hr' => ?_) fun r hr' _ => ?_
                  · have : r = mkRow P e (chunk (isAggT P e) (P.cellsOf e) out len) := Option.some.inj ((show C.row? _ = some r from hr').symm.trans hr)
                    subst this
                    simp [mkRow, chunk_length]
                  · have : r = mkRow P e (chunk (isAggT P e) (P.cellsOf e) out len) := Option.some.inj ((show C.row? _ = some r from hr').symm.trans hr)
                    subst this
                    refine ⟨by omega, _, _, rfl, Nat.le_refl _, ?_⟩
                    unfold SlAt
                    rw [if_neg (by simp [mkRow])]
                    refine ⟨C.w.heap.size, by simp [Ctx.bind], by simp, a', e, (0, 0), heap_alloc_new C.w _, ?_⟩
                    simp only [mkRow, Nat.zero_add, g2.1, hol]
                    exact Nat.le_refl _
              refine ⟨_, _, ?_, hN⟩
              have ez : (parts.map fun (i, x) => (i, g x)) = (parts.toList.map fun x => (x.1, g x.2)).toArray := by apply Array.ext'; simp
              simp only [execOp, Instr.buildSlice, Sem.run_bind, run_underlying hu, Result.andThen_ok, run_sizeOf C.w hk, ez]
              rw [if_neg (by omega)]
              by_cases hl0 : len * P.cellsOf e = 0
              · have g1' : Instr.fill (fun i => some (i * P.cellsOf e, P.cellsOf e)) ((Array.range (len * P.cellsOf e)).map (fun x => (#[] : Array Value)[x % (#[] : Array Value).size]!)) (parts.toList.map fun x => (x.1, g x.2)) = some a' := by
                  rw [← g1, hl0, show Array.range 0 = #[] from rfl, Array.map_empty, Array.map_empty]
                rw [if_pos hl0]
                simp only [Sem.run_bind, Sem.run_pure, Result.andThen_ok]
                rw [g1']
                simp only [newRow, Sem.run_bind, run_newObj, Result.andThen_ok, Sem.run_pure]
                rfl
              · rw [if_neg hl0]
                simp only [Sem.run_bind, run_zeroQ hz, Sem.run_pure, Result.andThen_ok, hzs]
                rw [g1]
                simp only [newRow, Sem.run_bind, run_newObj, Result.andThen_ok, Sem.run_pure]
                rfl
            · cases h
          · cases h
        · cases h
      · cases h
    · cases h
  case makeSlice T l c =>
    split at h
    · rename_i e k1 n k2 m hu h1 h2
      split at h
      · rename_i z hz
        split at h
        · rename_i hc
          simp only [Bool.and_eq_true, beq_iff_eq, decide_eq_true_eq] at hc
          obtain ⟨⟨⟨⟨⟨⟨⟨hc0, hk⟩, hzs⟩, hs0⟩, hn0⟩, hnm⟩, hm⟩, hb⟩ := hc
          cases h
          have hl := hv l (by simp)
          have hcc := hv c (by simp)
          rw [h1] at hl
          rw [h2] at hcc
          generalize hL : g l = L at hl
          generalize hC : g c = K at hcc
          cases hl
          cases hcc
          have wn : IntKind.i64.wrap n = n := by simp [IntKind.wrap, IntKind.bits, IntKind.signed]; omega
          have wm : IntKind.i64.wrap m = m := by simp [IntKind.wrap, IntKind.bits, IntKind.signed]; omega
          obtain ⟨i, d, hinfo, hd, hsz⟩ := info_of_known hk
          have hby : P.bytesOf e = i.bytes := by simp [Program.bytesOf, hinfo]
          have hcells : ((Array.range (m.toNat * P.cellsOf e)).map (z.cells[· % z.cells.size]!)).size = m.toNat * P.cellsOf e := by simp
          have hN : NewTo P C (C.bind H.length (.cells ((Array.range (m.toNat * P.cellsOf e)).map (z.cells[· % z.cells.size]!)) e)) H.length (.sl H.length n.toNat 0 n.toNat) (.slice (some ⟨C.w.heap.size, 0, none⟩) n.toNat m.toNat) := by
            have hle : n.toNat * P.cellsOf e ≤ m.toNat * P.cellsOf e := Nat.mul_le_mul_right _ (by omega)
            refine ⟨rfl, Ctx.bind_ext hρ hro _, bind_row hR hρ hro hr (by rw [hcells, List.length_replicate]; exact hle) (fun k e1 j p h1 h2 => ?_) (fun e1 he => ?_), ?_, bind_ρ, bind_old⟩
            · rw [List.getElem?_replicate] at h1
              split at h1
              · rename_i hkn
                cases h1
                have hj : j < z.cells.size := by
                  have := (List.getElem?_eq_some_iff.1 h2).1
                  rwa [(RV.cellsC (P := P) (C := C) (V := z) .val hc0).1.symm] at this
                have hlt : k * P.cellsOf e + j < m.toNat * P.cellsOf e := by
                  have h5 : (k + 1) * P.cellsOf e ≤ m.toNat * P.cellsOf e := Nat.mul_le_mul_right _ (by omega)
                  rw [Nat.add_mul, Nat.one_mul] at h5
                  omega
                have hz2 : z.cells[j]? = some z.cells[j] := Array.getElem?_eq_getElem hj
                refine ⟨z.cells[j], ?_, (RV.cellsC (P := P) (C := C) (V := z) .val hc0).2 j p _ h2 hz2⟩
                rw [Array.getElem?_map, ← Array.getElem?_toList, Array.toList_range, List.getElem?_range hlt]
                simp only [Option.map_some, Option.some.injEq, hzs]
                rw [Nat.mul_comm, Nat.mul_add_mod, Nat.mod_eq_of_lt (by omega)]
                simp [hj]
              · cases h1
            · have := List.eq_of_mem_replicate he
              subst this
              have h6 := (RV.cellsC (P := P) (C := C) (V := z) .val hc0).1
              omega
            · refine .sl ⟨_, _, rfl⟩ hi (fun r hr' => ?_) fun r hr' _ => ?_
              · have : r = mkRow P e (List.replicate n.toNat (.val z)) := Option.some.inj ((show C.row? _ = some r from hr').symm.trans hr)
                subst this
                simp [mkRow]
              · have : r = mkRow P e (List.replicate n.toNat (.val z)) := Option.some.inj ((show C.row? _ = some r from hr').symm.trans hr)
                subst this
                refine ⟨by omega, _, _, rfl, by omega, ?_⟩
                unfold SlAt
                rw [if_neg (by simp [mkRow])]
                refine ⟨C.w.heap.size, by simp [Ctx.bind], by simp, _, e, (0, 0), heap_alloc_new C.w _, ?_⟩
                simp only [mkRow, Nat.zero_add, hcells]
                exact Nat.le_refl _
          refine ⟨_, _, ?_, hN⟩
          have hbig : ((i.bytes : Int) * m) ≤ 256 * 2 ^ 40 := by
            have h7 : (i.bytes : Int) ≤ 256 := by omega
            calc (i.bytes : Int) * m ≤ 256 * m := Int.mul_le_mul_of_nonneg_right h7 (by omega)
              _ ≤ 256 * 2 ^ 40 := by omega
          have hbig' : ((i.bytes : Int) * n) ≤ 256 * 2 ^ 40 := by
            have h7 : (i.bytes : Int) ≤ 256 := by omega
            calc (i.bytes : Int) * n ≤ 256 * n := Int.mul_le_mul_of_nonneg_right h7 (by omega)
              _ ≤ 256 * 2 ^ 40 := by omega
          simp only [execOp, hL, hC, Instr.makeSlice, Sem.run_bind, run_underlying hu, Result.andThen_ok, asInt, asIntOf, Sem.run_pure, wn, wm, typeInfo, run_program, hinfo]
          rw [if_neg (by
            simp only [Bool.or_eq_true, decide_eq_true_eq, not_or, Int.not_lt]
            refine ⟨⟨⟨by omega, ?_⟩, by omega⟩, by omega⟩
            omega)]
          simp only [Sem.run_bind, run_askRoom, Result.andThen_ok, run_sizeOf C.w hk]
          by_cases h0 : m.toNat * P.cellsOf e = 0
          · rw [if_pos h0]
            simp only [Sem.run_pure, Result.andThen_ok, newRow, Sem.run_bind, run_newObj]
            have e0 : ((Array.range (m.toNat * P.cellsOf e)).map fun x => (#[] : Array Value)[x % (#[] : Array Value).size]!) = ((Array.range (m.toNat * P.cellsOf e)).map fun x => z.cells[x % z.cells.size]!) := by rw [h0, show Array.range 0 = #[] from rfl, Array.map_empty, Array.map_empty]
            rw [e0]
            rfl
          · rw [if_neg h0]
            simp only [Sem.run_bind, run_zeroQ hz, Sem.run_pure, Result.andThen_ok, newRow, run_newObj]
            rfl
        · cases h
      · cases h
    · cases h
end Go.Hx
