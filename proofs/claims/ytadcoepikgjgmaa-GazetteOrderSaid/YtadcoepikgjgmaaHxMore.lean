/- Hx: further operations that turn rows: clear. -/
import Derived.Test.YtadcoepikgjgmaaHxAppend
namespace Go.Hx

theorem live_of {H : List Row} {i : Nat} {r : Row} (h : rowAt H i = some r) : r.live = true := by
  unfold rowAt at h
  split at h
  · split at h
    · rename_i hlv; cases h; exact hlv
    · cases h
  · cases h
/-- Elements of a row are overwritten. -/
theorem set_range {P : Program} {C : Ctx} (hR : RH P C) {i b k : Nat} {r : Row} (hi : i < C.H.length) (hro : C.ro ≤ i) (hr : C.row? i = some r) (hρ : C.ρ i = some b) {news : List PV} {vs : List Value} (hk : k + news.length ≤ r.es.length)
    (hN : Rel3 P C r.s news vs) (hone : ∀ v ∈ vs, v.oneCell' = true) {ty : Bool} (hty : ty = true → ∀ e, e ∈ news → wt P r.t e = true) :
    ∃ C', (storeCells ⟨b, k * r.s, none⟩ vs).run P C.w = .ok () C'.w ∧ Turn P C C' (C.H.set i { r with es := r.es.take k ++ news ++ r.es.drop (k + news.length), bv := r.bv && ty }) := by
  have hB := hR.blk i b r hρ hr
  obtain ⟨c, fr, cv, m1, m2, m3, m4⟩ := hB.mem
  have hlive := live_of hr
  have hks : (k + news.length) * r.s ≤ r.es.length * r.s := Nat.mul_le_mul_right _ hk
  rw [Nat.add_mul, ← hN.len] at hks
  obtain ⟨w', c', g1, g2, g3⟩ := run_storeCells_any (P := P) (b := b) (off := k * r.s) vs 0 C.w c m1 m2 (by omega) hone
  have hlen : (r.es.take k ++ news ++ r.es.drop (k + news.length)).length = r.es.length := by simp; omega
  have hupd : ({ C with H := C.H.set i { r with es := r.es.take k ++ news ++ r.es.drop (k + news.length), bv := r.bv && ty }, w := w' } : Ctx) = C.upd i b { r with es := r.es.take k ++ news ++ r.es.drop (k + news.length), bv := r.bv && ty } w' := by
    unfold Ctx.upd
    congr 1
    funext x
    split
    · rename_i e; rw [e, hρ]
    · rfl
  have hext : Ext C (C.upd i b { r with es := r.es.take k ++ news ++ r.es.drop (k + news.length), bv := r.bv && ty } w') := by
    refine upd_ext hi hro hr hlive rfl rfl (by rw [hlen]; exact Nat.le_refl _) (fun _ => ⟨rfl, fun b' hb' => by rw [hρ] at hb'; exact Option.some.inj hb'⟩) g2.os g2.tape g2.output (by rw [g2.size]; exact Nat.le_refl _) (fun b' hlt hno => g2.other b' fun e => hno ⟨i, hro, by rw [e]; exact hρ⟩) (fun b' c1 e1 fr1 h1 => ?_) (fun b' rec h1 => ?_) (.inl hρ)
    · by_cases hbb : b' = b
      · subst hbb
        rw [m1] at h1
        cases h1
        exact ⟨c', g2.at_, g2.csize⟩
      · exact ⟨c1, by rw [g2.other b' hbb]; exact h1, rfl⟩
    · have hbb : b' ≠ b := fun e => by subst e; rw [m1] at h1; cases h1
      rw [g2.other b' hbb]; exact h1
  refine ⟨C.upd i b { r with es := r.es.take k ++ news ++ r.es.drop (k + news.length), bv := r.bv && ty } w', g1, ⟨rfl, hext, ?_⟩⟩
  refine upd_rh hR hext hi hlive (fun b' hlt hne => g2.other b' fun e => hne (by rw [e]; exact hρ)) (.inl hρ) ?_
  have part : ∀ (x : Nat) e, (r.es.take k ++ news ++ r.es.drop (k + news.length))[x]? = some e → (r.es[x]? = some e ∧ (x < k ∨ k + news.length ≤ x)) ∨ (news[x - k]? = some e ∧ k ≤ x ∧ x < k + news.length) := fun x e h => by
    rw [List.append_assoc, List.getElem?_append] at h
    split at h
    · rename_i hx
      rw [List.getElem?_take] at h
      split at h
      · exact .inl ⟨h, .inl (by assumption)⟩
      · cases h
    · rename_i hx
      rw [List.length_take] at hx h
      rw [Nat.min_eq_left (by omega)] at hx h
      rw [List.getElem?_append] at h
      split at h
      · exact .inr ⟨h, by omega, by omega⟩
      · rw [List.getElem?_drop, show k + news.length + (x - k - news.length) = x by omega] at h
        exact .inl ⟨h, .inr (by omega)⟩
  refine ⟨hB.sz, ⟨c', fr, fun k2 j2 => c'.getD (k2 * r.s + j2) undef, g2.at_, fun off ho => m2 off (by rw [← g2.csize]; exact ho), by rw [hlen, g2.csize]; exact m3, fun k2 e2 j2 p2 hk2 hj2 => ?_⟩, fun e2 he2 => ?_, fun hbv e2 he2 => ?_⟩
  · have key : ∃ v, c'[k2 * r.s + j2]? = some v ∧ RV P C p2 v := by
      rcases part k2 e2 hk2 with ⟨q1, q2⟩ | ⟨q1, q2, q3⟩
      · have hm := m4 k2 e2 j2 p2 q1 hj2
        have hj2s : j2 < r.s := by rw [← hB.len _ (List.mem_of_getElem? q1)]; exact (List.getElem?_eq_some_iff.1 hj2).1
        refine ⟨_, ?_, hm.2⟩
        rw [g3, if_neg ?_]
        · exact hm.1
        · rintro ⟨z1, z2⟩
          rw [hN.len] at z2
          rcases q2 with q2 | q2
          · have h5 : (k2 + 1) * r.s ≤ k * r.s := Nat.mul_le_mul_right _ q2
            rw [Nat.add_mul, Nat.one_mul] at h5
            omega
          · have h5 : (k + news.length) * r.s ≤ k2 * r.s := Nat.mul_le_mul_right _ q2
            rw [Nat.add_mul] at h5
            omega
      · obtain ⟨v, z1, z2⟩ := hN.rel (k2 - k) e2 j2 p2 q1 hj2
        refine ⟨v, ?_, z2⟩
        have h5 : k * r.s ≤ k2 * r.s := Nat.mul_le_mul_right _ q2
        have hlt := (List.getElem?_eq_some_iff.1 z1).1
        rw [Nat.sub_mul] at z1 hlt
        rw [g3, if_pos (by omega), ← z1]
        congr 1
        omega
    obtain ⟨v, q1, q2⟩ := key
    have e2' : c'.getD (k2 * r.s + j2) undef = v := by rw [Array.getD_eq_getD_getElem?, q1]; rfl
    simp only [e2']
    exact ⟨q1, q2.mono hext⟩
  · obtain ⟨x, hx⟩ := List.getElem?_of_mem he2
    rcases part x e2 hx with ⟨q1, _⟩ | ⟨q1, _⟩
    · exact hB.len _ (List.mem_of_getElem? q1)
    · exact hN.el _ (List.mem_of_getElem? q1)
  · simp only [Bool.and_eq_true] at hbv
    obtain ⟨x, hx⟩ := List.getElem?_of_mem he2
    rcases part x e2 hx with ⟨q1, _⟩ | ⟨q1, _⟩
    · exact hB.typed hbv.1 _ (List.mem_of_getElem? q1)
    · exact hty hbv.2 _ (List.mem_of_getElem? q1)

def clearRow (P : Program) (e : TypeId) (z : Value) (r : Row) (k len : Nat) : Row := { r with es := r.es.take k ++ List.replicate len (.val z) ++ r.es.drop (k + len), bv := r.bv && wt P e (.val z) }
def clearOk (P : Program) (e : TypeId) (z : Value) : Bool := known P e && z.cells.size == P.cellsOf e && z.cells.toList.all (fun v => cellish (.val v)) && okc (.val z)
def clearQ (P : Program) (ro : Nat) (H : List Row) (c : Call) (x : PV) : Option (PV × List Row) :=
  match c.argTypes[0]? with
  | some T =>
    match P.underlying T with
    | some (.slice e) =>
      match zeroQ P e with
      | some z =>
        match x with
        | .sl i n k len =>
          match rowAt H i with
          | some r =>
            if decide (ro ≤ i) && r.t == e && clearOk P e z && (r.es.length == n) then
              some (.val (.tuple #[]), if r.nl then H else H.set i (clearRow P e z r k len)) else none
          | none => none
        | .val (.slice none 0 0) => some (.val (.tuple #[]), H)
        | _ => none
      | none => none
    | _ => none
  | none => none
def moreQ (P : Program) (ro : Nat) (H : List Row) (f : Operand → PV) : Op → Option (PV × List Row)
  | .call c =>
    match c.callee with
    | .builtin .clear => match c.args.toList with | [x] => clearQ P ro H c (f x) | _ => none
    | _ => none
  | _ => none

theorem zero_rel {P : Program} {C : Ctx} {e : TypeId} {z : Value} (hz : z.cells.size = P.cellsOf e) (ho : okc (.val z) = true) (len : Nat) : Rel3 P C (P.cellsOf e) (List.replicate len (.val z)) (Builtin.zeroCells z.cells len).toList := by
  have h6 := (RV.cellsC (P := P) (C := C) (V := z) .val ho)
  refine ⟨by simp [Builtin.zeroCells, hz], fun p hp => ?_, fun k p j q h1 h2 => ?_⟩
  · have := List.eq_of_mem_replicate hp; subst this
    rw [← h6.1, hz]
  · rw [List.getElem?_replicate] at h1
    split at h1
    · rename_i hk
      cases h1
      have hj : j < z.cells.size := by rw [h6.1]; exact (List.getElem?_eq_some_iff.1 h2).1
      have hz2 : z.cells[j]? = some z.cells[j] := Array.getElem?_eq_getElem hj
      refine ⟨z.cells[j], ?_, h6.2 j q _ h2 hz2⟩
      have hlt : k * P.cellsOf e + j < len * z.cells.size := by
        have h5 : (k + 1) * P.cellsOf e ≤ len * P.cellsOf e := Nat.mul_le_mul_right _ (by omega)
        rw [Nat.add_mul, Nat.one_mul] at h5
        rw [hz] at hj ⊢
        omega
      unfold Builtin.zeroCells
      rw [Array.getElem?_toList, Array.getElem?_map, ← Array.getElem?_toList, Array.toList_range, List.getElem?_range hlt]
      simp only [Option.map_some, Option.some.injEq, hz]
      rw [Nat.mul_comm, Nat.mul_add_mod, Nat.mod_eq_of_lt (by omega)]
      simp [hj]
    · cases h1
theorem clearQ_sound {P : Program} {C : Ctx} {c : Call} {x p : PV} {X : Value} {H' : List Row} (hR : RH P C) (hx : RV P C x X) (h : clearQ P C.ro C.H c x = some (p, H')) (ty : TypeId) :
    ∃ v C', (Builtin.clear_ c.argTypes ty #[X]).run P C.w = .ok v C'.w ∧ Turn P C C' H' ∧ RV P C' p v := by
  unfold clearQ at h
  split at h
  · rename_i T hT
    split at h
    · rename_i e hu
      split at h
      · rename_i z hz
        split at h
        · rename_i i n k len
          split at h
          · rename_i r hr
            split at h
            · rename_i hc
              simp only [Bool.and_eq_true, beq_iff_eq, decide_eq_true_eq] at hc
              obtain ⟨⟨⟨hro, ht⟩, hok⟩, hn⟩ := hc
              unfold clearOk at hok
              simp only [Bool.and_eq_true, beq_iff_eq] at hok
              obtain ⟨⟨⟨hkn, hzs⟩, hzc⟩, hzo⟩ := hok
              cases h
              cases hx with
              | sl hV hi hle hh =>
                obtain ⟨hk, a, cap, rfl, hlc, hsl⟩ := hh r hr hn
                unfold SlAt at hsl
                split at hsl
                · rename_i hnl
                  obtain ⟨rfl, rfl⟩ := hsl
                  rw [if_pos hnl]
                  refine ⟨_, C, ?_, ⟨rfl, .refl C, hR⟩, .val⟩
                  simp only [Builtin.clear_, hT, List.getElem?_toArray, List.getElem?_cons_zero, Sem.run_bind, run_underlying hu, Result.andThen_ok]
                  rfl
                · rename_i hnl
                  obtain ⟨b, hρ, rfl, c0, ee, fr, hheap, hcs⟩ := hsl
                  rw [if_neg hnl]
                  have hB := hR.blk i b r hρ hr
                  have hsz : r.s = P.cellsOf e := by rw [hB.sz, ht]
                  have hrel := zero_rel (P := P) (C := C) (e := e) hzs hzo len
                  rw [← hsz] at hrel
                  obtain ⟨C', g1, g2⟩ := set_range (ty := wt P e (.val z)) hR hi hro hr hρ (k := k) (by simp; omega) hrel (fun v hv => by
                    have hv2 : v ∈ z.cells := by
                      unfold Builtin.zeroCells at hv
                      simp only [Array.toList_map, List.mem_map, Array.mem_toList_iff, Array.mem_range] at hv
                      obtain ⟨y, hy, rfl⟩ := hv
                      have : y % z.cells.size < z.cells.size := Nat.mod_lt _ (by
                        rcases Nat.eq_zero_or_pos z.cells.size with h0 | h0
                        · rw [h0] at hy; omega
                        · exact h0)
                      rw [getElem!_pos z.cells _ this]
                      exact Array.getElem_mem _
                    exact RV.oneCell (P := P) (C := C) (p := .val v) .val (List.all_eq_true.1 hzc v (by simpa using hv2))) (fun hty p hp => by
                    have := List.eq_of_mem_replicate hp; subst this; rw [ht]; exact hty)
                  rw [List.length_replicate] at g2
                  by_cases h0 : len = 0
                  · subst h0
                    have hw : C'.w = C.w := by
                      have : (storeCells ⟨b, k * r.s, none⟩ (Builtin.zeroCells z.cells 0).toList).run P C.w = .ok () C.w := by simp [Builtin.zeroCells, storeCells]
                      rw [this] at g1; exact (Result.ok.inj g1).2.symm
                    refine ⟨_, C', ?_, g2, .val⟩
                    rw [hw]
                    simp only [Builtin.clear_, hT, List.getElem?_toArray, List.getElem?_cons_zero, Sem.run_bind, run_underlying hu, Result.andThen_ok]
                    rfl
                  · refine ⟨_, C', ?_, g2, .val⟩
                    obtain ⟨m, rfl⟩ : ∃ m, len = m + 1 := ⟨len - 1, by omega⟩
                    simp only [Builtin.clear_, hT, List.getElem?_toArray, List.getElem?_cons_zero, Sem.run_bind, run_underlying hu, Result.andThen_ok, run_zeroQ hz, g1]
                    rfl
            · cases h
          · cases h
        · cases h
          cases hx
          refine ⟨_, C, ?_, ⟨rfl, .refl C, hR⟩, .val⟩
          simp only [Builtin.clear_, hT, List.getElem?_toArray, List.getElem?_cons_zero, Sem.run_bind, run_underlying hu, Result.andThen_ok]
          rfl
        · cases h
      · cases h
    · cases h
  · cases h
theorem moreQ_sound {P : Program} {C : Ctx} {f : Operand → PV} {g : Operand → Value} {o : Oper} {p : PV} {H' : List Row} (hR : RH P C) (hv : ∀ x ∈ o.op.operands, RV P C (f x) (g x)) (h : moreQ P C.ro C.H f o.op = some (p, H')) :
    ∃ v C', (execOp g o).run P C.w = .ok (.value v) C'.w ∧ Turn P C C' H' ∧ RV P C' p v := by
  obtain ⟨dst, op, type, pos, after, guard⟩ := o
  simp only at h hv
  cases op <;> simp only [moreQ, reduceCtorEq] at h
  rename_i c
  split at h
  · rename_i hc
    split at h
    · rename_i x hargs
      obtain ⟨v, C', g1, g2, g3⟩ := clearQ_sound hR (hv x (by simp [Op.operands, Call.operands, hc]; exact Array.mem_toList_iff.1 (by rw [hargs]; simp))) h type
      have hca : c.args = #[x] := by apply Array.ext'; simpa using hargs
      refine ⟨v, C', ?_, g2, g3⟩
      simp only [execOp, resolve, hc, hca, Sem.run_bind, Sem.run_pure, Result.andThen_ok, invoke, builtin, List.map_toArray, List.map_cons, List.map_nil, g1]
    · cases h
  · cases h
end Go.Hx
