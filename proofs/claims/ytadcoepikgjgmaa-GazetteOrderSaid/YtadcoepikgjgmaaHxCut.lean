/- Hx: rows that are let go; calls that change no block that was there. -/
import Derived.Test.YtadcoepikgjgmaaHxAppend
namespace Go.Hx

mutual
/-- All rows that it names are below h. -/
def mlt (h : Nat) : PV → Bool
  | .ptr i _ _ _ => decide (i < h)
  | .sl i _ _ _ => decide (i < h)
  | .agg cs => mlts h cs
  | .tup cs => mlts h cs
  | .fn _ a b => mlts h a && mlts h b
  | .ifc _ v => mlt h v
  | .val _ => true
  | .any => true
  | .lst _ _ _ => true
  | .lptr _ _ _ => true
  | .yld i => decide (i < h)
def mlts (h : Nat) : List PV → Bool
  | [] => true
  | p :: ps => mlt h p && mlts h ps
end
theorem mlts_get {h : Nat} : ∀ {ps : List PV} {j : Nat} {p : PV}, mlts h ps = true → ps[j]? = some p → mlt h p = true
  | [], j, p, _, hj => by simp at hj
  | q :: ps, 0, p, hm, hj => by simp at hj; subst hj; simp only [mlts, Bool.and_eq_true] at hm; exact hm.1
  | q :: ps, j + 1, p, hm, hj => by simp only [mlts, Bool.and_eq_true] at hm; exact mlts_get hm.2 (by simpa using hj)

/-- The rows from h on are let go ('hide': their blocks stay another's own). -/
def Ctx.cut (C : Ctx) (h : Nat) (hide : Prop) (ro : Nat) : Ctx :=
  { ρ := fun i => if i < h then C.ρ i else none, H := C.H.take h, w := C.w, fo := fun b => C.fo b ∨ (hide ∧ ∃ i, h ≤ i ∧ C.ρ i = some b), ro := ro }

theorem cut_row {C : Ctx} {h ro i : Nat} {hide : Prop} (hi : i < h) : (C.cut h hide ro).row? i = C.row? i := by
  show rowAt (C.H.take h) i = rowAt C.H i
  unfold rowAt
  rw [List.getElem?_take, if_pos hi]
theorem cut_row_none {C : Ctx} {h ro i : Nat} {hide : Prop} {r : Row} (hr : (C.cut h hide ro).row? i = some r) : i < h := by
  have := rowAt_lt hr
  simp only [Ctx.cut, List.length_take] at this
  omega
theorem cut_ban {C : Ctx} {h ro b : Nat} {hide : Prop} (hb : ¬ C.ban b) : ¬ (C.cut h hide ro).ban b := by
  rintro (⟨i, hi⟩ | hf | ⟨_, i, _, hi⟩)
  · simp only [Ctx.cut] at hi
    split at hi
    · exact hb (.inl ⟨i, hi⟩)
    · cases hi
  · exact hb (.inr hf)
  · exact hb (.inl ⟨i, hi⟩)

theorem wtc_byval {k : Kind} {p : PV} (h : wtc k p = true) (n : Nat) : mlt n p = true := by
  unfold wtc at h
  split at h <;> first | rfl | cases h
theorem wtcs_byval (n : Nat) : ∀ {ks : List Kind} {ps : List PV}, wtcs ks ps = true → ∀ p ∈ ps, mlt n p = true
  | [], [], _, p, h => by cases h
  | [], _ :: _, h, _, _ => by simp [wtcs] at h
  | _ :: _, [], h, _, _ => by simp [wtcs] at h
  | k :: ks, q :: ps, h, p, hp => by
    simp only [wtcs, Bool.and_eq_true] at h
    rcases List.mem_cons.1 hp with rfl | hp
    · exact wtc_byval h.1 n
    · exact wtcs_byval n h.2 p hp
theorem wt_byval {P : Program} {t : TypeId} {e : PV} (h : wt P t e = true) (n : Nat) : ∀ p ∈ e.cells, mlt n p = true := by
  simp only [wt, Bool.and_eq_true] at h
  exact wtcs_byval n h.1

theorem RV.cut {P : Program} {C : Ctx} {h ro : Nat} {hide : Prop} (hh : h ≤ C.H.length) {p : PV} {V : Value} (hv : RV P C p V) : mlt h p = true → RV P (C.cut h hide ro) p V := by
  have hlen : (C.cut h hide ro).H.length = h := by simp [Ctx.cut]; omega
  induction hv with
  | any => intro _; exact .any
  | val => intro _; exact .val
  | ptr hV hk hi hn h1 =>
    rename_i i _ _ _ _
    intro hm
    have hm : i < h := by simpa [mlt] using hm
    refine .ptr hV hk (by rw [hlen]; exact hm) (fun r hr => hn r (by rw [← cut_row hm]; exact hr)) fun r hr he => ?_
    obtain ⟨b, g1, g2⟩ := h1 r (by rw [← cut_row hm]; exact hr) he
    exact ⟨b, by simp [Ctx.cut, hm, g1], g2⟩
  | lptr cv hb hlt hc hr ht ih =>
    intro _
    exact .lptr cv (cut_ban hb) hlt hc (fun x p hx => ih x p hx (wt_byval ht h _ (List.mem_of_getElem? hx))) ht
  | sl hV hi hn h1 =>
    rename_i i _ _ _ _
    intro hm
    have hm : i < h := by simpa [mlt] using hm
    refine .sl hV (by rw [hlen]; exact hm) (fun r hr => hn r (by rw [← cut_row hm]; exact hr)) fun r hr he => ?_
    obtain ⟨g0, a, cap, g1, g2, g3⟩ := h1 r (by rw [← cut_row hm]; exact hr) he
    refine ⟨g0, a, cap, g1, g2, ?_⟩
    unfold SlAt at *
    split
    · rename_i hnl; rwa [if_pos hnl] at g3
    · rename_i hnl
      rw [if_neg hnl] at g3
      obtain ⟨b, q1, q2⟩ := g3
      exact ⟨b, by simp [Ctx.cut, hm, q1], q2⟩
  | lst b off cv hcap hfull ha hc hr ht ih =>
    intro _
    refine .lst b off cv hcap hfull (fun h0 => ?_) hc (fun x e j p hx hj => ih x e j p hx hj (wt_byval (ht e (List.mem_of_getElem? hx)) h _ (List.mem_of_getElem? hj))) ht
    obtain ⟨g1, g2, g3⟩ := ha h0
    exact ⟨g1, cut_ban g2, g3⟩
  | agg hs _ ih => intro hm; exact .agg hs fun j c v h1 h2 => ih j c v h1 h2 (mlts_get (by simpa [mlt] using hm) h1)
  | tup hs _ ih => intro hm; exact .tup hs fun j c v h1 h2 => ih j c v h1 h2 (mlts_get (by simpa [mlt] using hm) h1)
  | fn h1 h2 _ _ ih3 ih4 =>
    intro hm
    simp only [mlt, Bool.and_eq_true] at hm
    exact .fn h1 h2 (fun j c v g1 g2 => ih3 j c v g1 g2 (mlts_get hm.1 g1)) (fun j c v g1 g2 => ih4 j c v g1 g2 (mlts_get hm.2 g1))
  | ifc _ ih => intro hm; exact .ifc (ih (by simpa [mlt] using hm))
  | yld hi hl hb =>
    rename_i i b
    intro hm
    have hm : i < h := by simpa [mlt] using hm
    obtain ⟨r, info, h1, h2, h3⟩ := hl
    exact .yld (by rw [hlen]; exact hm) ⟨r, info, by simp only [Ctx.cut]; rw [List.getElem?_take, if_pos hm]; exact h1, h2, h3⟩ (by simp [Ctx.cut, hm, hb])

/-- The rows name only rows below h. -/
def rowsOk (h : Nat) (H : List Row) : Bool := H.all fun r => (!r.live || r.bv || r.es.all fun e => mlts h e.cells) && (match r.lp with | some info => mlts h info.k.S0 | none => true)

theorem rowsOk_get {h : Nat} {H : List Row} (hk : rowsOk h H = true) {i : Nat} {r : Row} (hr : rowAt H i = some r) : r.bv = true ∨ ∀ e ∈ r.es, mlts h e.cells = true := by
  unfold rowAt at hr
  split at hr
  · rename_i r' hr'
    split at hr
    · rename_i hl
      cases hr
      have := List.all_eq_true.1 hk r (List.mem_of_getElem? hr')
      rw [Bool.and_eq_true] at this
      have := this.1
      simp only [Bool.or_eq_true, Bool.not_eq_true', hl, Bool.true_eq_false, false_or] at this
      rcases this with h | h
      · exact .inl h
      · exact .inr fun e he => List.all_eq_true.1 h e he
    · cases hr
  · cases hr

theorem rowsOk_lp {h : Nat} {H : List Row} (hk : rowsOk h H = true) {i : Nat} {r : Row} {info : LoopI} (hr : H[i]? = some r) (hl : r.lp = some info) : mlts h info.k.S0 = true := by
  have := List.all_eq_true.1 hk r (List.mem_of_getElem? hr)
  rw [Bool.and_eq_true] at this
  have := this.2
  rw [hl] at this
  exact this

theorem RH.cut {P : Program} {C : Ctx} (hR : RH P C) {h ro : Nat} {hide : Prop} (hh : h ≤ C.H.length) (hro : ro ≤ h) (hk : rowsOk h (C.H.take h) = true) : RH P (C.cut h hide ro) := by
  refine ⟨fun i j b h1 h2 => ?_, fun i b h1 => ?_, fun i b r h1 h2 => ?_, ?_, fun i b h1 => ?_, fun b hb => ?_, fun i b r info h1 h2 h3 h4 => ?_⟩
  · simp only [Ctx.cut] at h1 h2
    split at h1 <;> split at h2 <;> first | exact hR.inj _ _ _ h1 h2 | cases h1 | cases h2
  · simp only [Ctx.cut] at h1
    split at h1
    · rename_i hi
      rcases hR.dom i b h1 with ⟨r, hr⟩ | ⟨r, info, g1, g2, g3⟩
      · exact .inl ⟨r, by rw [cut_row hi]; exact hr⟩
      · exact .inr ⟨r, info, by simp only [Ctx.cut]; rw [List.getElem?_take, if_pos hi]; exact g1, g2, g3⟩
    · cases h1
  · have hi := cut_row_none h2
    simp only [Ctx.cut, hi, if_true] at h1
    have h3 := h2
    rw [cut_row hi] at h2
    have hB := hR.blk i b r h1 h2
    obtain ⟨c, fr, cv, m1, m2, m3, m4⟩ := hB.mem
    refine ⟨hB.sz, ⟨c, fr, cv, m1, m2, m3, fun k e j p hk1 hj1 => ⟨(m4 k e j p hk1 hj1).1, (m4 k e j p hk1 hj1).2.cut hh ?_⟩⟩, hB.len, hB.typed⟩
    rcases rowsOk_get hk (show rowAt (C.H.take h) i = some r from h3) with hb | hb
    · exact wt_byval (hB.typed hb e (List.mem_of_getElem? hk1)) h p (List.mem_of_getElem? hj1)
    · exact mlts_get (hb e (List.mem_of_getElem? hk1)) hj1
  · simp only [Ctx.cut, List.length_take]; omega
  · simp only [Ctx.cut] at h1
    split at h1
    · rename_i hi
      rintro (hf | ⟨_, j, hj, hj2⟩)
      · exact hR.nfo i b h1 hf
      · have := hR.inj i j b h1 hj2; omega
    · cases h1
  · rcases hb with hf | ⟨_, i, _, hi⟩
    · exact hR.fol b hf
    · exact hR.lt hi
  · simp only [Ctx.cut] at h1 h2
    split at h1
    · rename_i hi
      have h5 := rowsOk_lp hk h2 h3
      rw [List.getElem?_take, if_pos hi] at h2
      obtain ⟨⟨rec, m1, m2, m3, m4, m5, m6⟩, ha, hb⟩ := hR.lps i b r info h1 h2 h3 h4
      exact ⟨⟨rec, m1, m2, m3, m4, ⟨m5.1, fun j p v g1 g2 => (m5.2 j p v g1 g2).cut hh (mlts_get h5 g1)⟩, m6⟩, ha, hb⟩
    · cases h1

/-- Letting go of rows that came later. -/
theorem Ext.cut {C0 C : Ctx} (hx : Ext C0 C) {h : Nat} (h0 : C0.H.length ≤ h) (hh : h ≤ C.H.length) (hro : C0.ro ≤ C0.H.length) : Ext C0 (C.cut h False C.ro) where
  os := hx.os
  tape := hx.tape
  output := hx.output
  size := hx.size
  block := hx.block
  shape := hx.shape
  len := by simp only [Ctx.cut, List.length_take]; omega
  rows i r' hi hr := by
    have hi2 := cut_row_none hr
    rw [cut_row hi2] at hr
    obtain ⟨r, a1, a2, a3, a4, a5⟩ := hx.rows i r' hi hr
    exact ⟨r, a1, a2, a3, a4, fun he => ⟨(a5 he).1, fun b hb => by simp [Ctx.cut, hi2, (a5 he).2 b hb]⟩⟩
  fresh b hb := by
    obtain ⟨i, hi⟩ := hb
    simp only [Ctx.cut] at hi
    split at hi
    · exact hx.fresh b ⟨i, hi⟩
    · cases hi
  freshOwn b hb := by
    obtain ⟨i, hir, hi⟩ := hb
    simp only [Ctx.cut] at hi hir
    split at hi
    · exact hx.freshOwn b ⟨i, hir, hi⟩
    · cases hi
  fo := by
    funext b
    simp only [Ctx.cut, false_and, or_false]
    rw [hx.fo]
  ro := hx.ro
  low i hi := by
    obtain ⟨g1, g2⟩ := hx.low i hi
    simp only [Ctx.cut]
    rw [List.getElem?_take, if_pos (by omega), if_pos (by omega)]
    exact ⟨g1, g2⟩
  lp i r info h1 h2 h3 := by
    have hi : i < h := Nat.lt_of_lt_of_le (List.getElem?_eq_some_iff.1 h1).1 h0
    obtain ⟨⟨r', st, a1, a2, a3⟩, a4⟩ := hx.lp i r info h1 h2 h3
    exact ⟨⟨r', st, by simp only [Ctx.cut]; rw [List.getElem?_take, if_pos hi]; exact a1, a2, a3⟩, fun b hb => by simp [Ctx.cut, hi, a4 b hb]⟩
  loop := hx.loop

/-- No block that was there has turned. -/
structure Same (w w' : World) : Prop where
  os : w'.os = w.os
  tape : w'.tape = w.tape
  output : w'.output = w.output
  size : w.heap.size ≤ w'.heap.size
  block : ∀ b, b < w.heap.size → w'.heap[b]? = w.heap[b]?
theorem Same.refl (w : World) : Same w w := ⟨rfl, rfl, rfl, Nat.le_refl _, fun _ _ => rfl⟩
theorem Same.trans {a b c : World} (h : Same a b) (k : Same b c) : Same a c :=
  ⟨k.os.trans h.os, k.tape.trans h.tape, k.output.trans h.output, Nat.le_trans h.size k.size, fun x hx => (k.block x (Nat.lt_of_lt_of_le hx h.size)).trans (h.block x hx)⟩
def Ctx.at (C : Ctx) (w' : World) : Ctx := { C with w := w' }
theorem Same.ext {C : Ctx} {w' : World} (h : Same C.w w') : Ext C (C.at w') :=
  ⟨h.os, h.tape, h.output, h.size, fun b hb _ => h.block b hb, fun b c _ _ hb => ⟨c, by rw [← hb]; exact h.block b (Array.getElem?_eq_some_iff.1 hb).1, rfl⟩, Nat.le_refl _,
    fun _ r' _ h => ⟨r', h, rfl, rfl, Nat.le_refl _, fun _ => ⟨rfl, fun _ h => h⟩⟩, fun _ h => .inl h, fun _ h => .inl h, rfl, rfl, fun _ _ => ⟨rfl, rfl⟩,
    fun _ r info h1 h2 h3 => ⟨⟨r, info.st, h1, h2, h3⟩, fun _ h => h⟩, fun b rec hb => ⟨rec, by rw [← hb]; exact h.block b (Array.getElem?_eq_some_iff.1 hb).1⟩⟩
theorem Same.rh {P : Program} {C : Ctx} {w' : World} (h : Same C.w w') (hR : RH P C) : RH P (C.at w') :=
  ⟨hR.inj, hR.dom, fun i b r h1 h2 => (hR.blk i b r h1 h2).mono h.ext (h.block b (hR.lt h1)), hR.ro, hR.nfo, fun b hb => Nat.lt_of_lt_of_le (hR.fol b hb) h.size,
    fun i b r info h1 h2 h3 h4 => (hR.lps i b r info h1 h2 h3 h4).mono h.ext (h.block b (hR.lt h1))⟩

/-- Back from a call that was made over the first h rows, read only. -/
theorem back_same {C Ci : Ctx} {h : Nat} (hx : Ext (C.cut h True h) Ci) : Same C.w Ci.w :=
  ⟨hx.os, hx.tape, hx.output, hx.size, fun b hb => hx.block b hb (by
    rintro ⟨i, hi, hi2⟩
    simp only [Ctx.cut] at hi hi2
    split at hi2
    · omega
    · cases hi2)⟩
theorem back_ban {C Ci : Ctx} {h b : Nat} (hx : Ext (C.cut h True h) Ci) (hb : ¬ Ci.ban b) : ¬ (C.at Ci.w).ban b := by
  rintro (⟨i, hi⟩ | hf)
  · by_cases hih : i < h
    · have h2 := (hx.low i hih).2
      simp only [Ctx.cut, hih, if_true] at h2
      exact hb (.inl ⟨i, by rw [h2]; exact hi⟩)
    · refine hb (.inr ?_)
      rw [hx.fo]
      exact .inr ⟨trivial, i, by omega, hi⟩
  · refine hb (.inr ?_)
    rw [hx.fo]
    exact .inl hf
theorem back_row {C Ci : Ctx} {h i : Nat} (hx : Ext (C.cut h True h) Ci) (hi : i < h) : (C.at Ci.w).row? i = Ci.row? i := by
  have h1 := (hx.low i hi).1
  show rowAt C.H i = rowAt Ci.H i
  unfold rowAt
  rw [h1]
  simp only [Ctx.cut]
  rw [List.getElem?_take, if_pos hi]

theorem RV.back {P : Program} {C Ci : Ctx} {h : Nat} (hh : h ≤ C.H.length) (hx : Ext (C.cut h True h) Ci) {p : PV} {V : Value} (hv : RV P Ci p V) : mlt h p = true → RV P (C.at Ci.w) p V := by
  have hρ : ∀ i, i < h → Ci.ρ i = C.ρ i := fun i hi => by have := (hx.low i hi).2; simpa [Ctx.cut, hi] using this
  induction hv with
  | any => intro _; exact .any
  | val => intro _; exact .val
  | ptr hV hk hi hn h1 =>
    rename_i i _ _ _ _
    intro hm
    have hm : i < h := by simpa [mlt] using hm
    refine .ptr hV hk (Nat.lt_of_lt_of_le hm hh) (fun r hr => hn r (by rw [← back_row hx hm]; exact hr)) fun r hr he => ?_
    obtain ⟨b, g1, g2⟩ := h1 r (by rw [← back_row hx hm]; exact hr) he
    exact ⟨b, by show C.ρ i = _; rw [← hρ _ hm]; exact g1, g2⟩
  | lptr cv hb hlt hc hr ht ih =>
    intro _
    exact .lptr cv (back_ban hx hb) hlt hc (fun x p hx' => ih x p hx' (wt_byval ht h _ (List.mem_of_getElem? hx'))) ht
  | sl hV hi hn h1 =>
    rename_i i _ _ _ _
    intro hm
    have hm : i < h := by simpa [mlt] using hm
    refine .sl hV (Nat.lt_of_lt_of_le hm hh) (fun r hr => hn r (by rw [← back_row hx hm]; exact hr)) fun r hr he => ?_
    obtain ⟨g0, a, cap, g1, g2, g3⟩ := h1 r (by rw [← back_row hx hm]; exact hr) he
    refine ⟨g0, a, cap, g1, g2, ?_⟩
    unfold SlAt at *
    split
    · rename_i hnl; rwa [if_pos hnl] at g3
    · rename_i hnl
      rw [if_neg hnl] at g3
      obtain ⟨b, q1, q2⟩ := g3
      exact ⟨b, by show C.ρ _ = _; rw [← hρ _ hm]; exact q1, q2⟩
  | lst b off cv hcap hfull ha hc hr ht ih =>
    intro _
    refine .lst b off cv hcap hfull (fun h0 => ?_) hc (fun x e j p hx' hj => ih x e j p hx' hj (wt_byval (ht e (List.mem_of_getElem? hx')) h _ (List.mem_of_getElem? hj))) ht
    obtain ⟨g1, g2, g3⟩ := ha h0
    exact ⟨g1, back_ban hx g2, g3⟩
  | agg hs _ ih => intro hm; exact .agg hs fun j c v h1 h2 => ih j c v h1 h2 (mlts_get (by simpa [mlt] using hm) h1)
  | tup hs _ ih => intro hm; exact .tup hs fun j c v h1 h2 => ih j c v h1 h2 (mlts_get (by simpa [mlt] using hm) h1)
  | fn h1 h2 _ _ ih3 ih4 =>
    intro hm
    simp only [mlt, Bool.and_eq_true] at hm
    exact .fn h1 h2 (fun j c v g1 g2 => ih3 j c v g1 g2 (mlts_get hm.1 g1)) (fun j c v g1 g2 => ih4 j c v g1 g2 (mlts_get hm.2 g1))
  | ifc _ ih => intro hm; exact .ifc (ih (by simpa [mlt] using hm))
  | yld hi hl hb =>
    rename_i i b
    intro hm
    have hm : i < h := by simpa [mlt] using hm
    obtain ⟨r, info, h1, h2, h3⟩ := hl
    have hlo := (hx.low i hm).1
    simp only [Ctx.cut] at hlo
    rw [List.getElem?_take, if_pos hm] at hlo
    exact .yld (Nat.lt_of_lt_of_le hm hh) ⟨r, info, by rw [← h1]; exact hlo.symm, h2, h3⟩ (by show C.ρ i = _; rw [← hρ i hm]; exact hb)

mutual
/-- New rows that a result names are let go: they are lists from here on. -/
def frz (H : List Row) (h : Nat) : PV → PV
  | .sl i n k len =>
    if h ≤ i then
      match rowAt H i with
      | some r => if r.bv && r.es.length == n then .lst false r.t ((r.es.drop k).take len) else .sl i n k len
      | none => .sl i n k len
    else .sl i n k len
  | .agg cs => .agg (frzs H h cs)
  | .tup cs => .tup (frzs H h cs)
  | p => p
def frzs (H : List Row) (h : Nat) : List PV → List PV
  | [] => []
  | p :: ps => frz H h p :: frzs H h ps
end
theorem frzs_get (H : List Row) (h : Nat) : ∀ (ps : List PV) (j : Nat), (frzs H h ps)[j]? = (ps[j]?).map (frz H h)
  | [], j => by simp [frzs]
  | p :: ps, 0 => by simp [frzs]
  | p :: ps, j + 1 => by simp [frzs, frzs_get H h ps j]
theorem frzs_length (H : List Row) (h : Nat) : ∀ (ps : List PV), (frzs H h ps).length = ps.length
  | [] => rfl
  | p :: ps => by simp [frzs, frzs_length H h ps]

theorem RV.frz {P : Program} {C : Ctx} (hR : RH P C) {h ro : Nat} (hh : h ≤ C.H.length) {p : PV} {V : Value} (hv : RV P C p V) : mlt h (frz C.H h p) = true → RV P (C.cut h False ro) (frz C.H h p) V := by
  induction hv with
  | sl hV hi hn h1 =>
    intro hm
    have hx := RV.sl (P := P) hV hi hn h1
    rename_i i n k len V
    unfold Hx.frz at hm ⊢
    split
    · rename_i hhi
      split
      · rename_i r hr
        split
        · rename_i hc
          simp only [Bool.and_eq_true, beq_iff_eq] at hc
          obtain ⟨hbv, hlen⟩ := hc
          obtain ⟨hk, a, cap, rfl, hcap, hs⟩ := h1 r hr hlen
          have hl : ((r.es.drop k).take len).length = len := by simp; omega
          have e1 : (Value.slice a len cap) = .slice a ((r.es.drop k).take len).length cap := by rw [hl]
          rw [e1]
          unfold SlAt at hs
          split at hs
          · obtain ⟨rfl, rfl⟩ := hs
            have h0 : len = 0 := by omega
            subst h0
            simp only [List.take_zero]
            exact .lst 0 0 (fun _ _ => undef) (by simp) (fun hf => by cases hf) (fun h0 => by simp at h0) (fun x e j p hx => by simp at hx) (fun x e j p hx => by simp at hx) (fun e he => by simp at he)
          · obtain ⟨b, hb, rfl, _⟩ := hs
            have hB := hR.blk i b r hb hr
            obtain ⟨c, fr, cv, m1, m2, m3, m4⟩ := hB.mem
            have hget : ∀ (x : Nat) e, ((r.es.drop k).take len)[x]? = some e → r.es[k + x]? = some e := fun x e he => by
              rw [List.getElem?_take] at he
              split at he
              · rw [List.getElem?_drop] at he; exact he
              · cases he
            refine .lst b (k * r.s) (fun x j => cv (k + x) j) (by omega) (fun hf => by cases hf) (fun _ => ⟨rfl, ?_, hB.lt⟩) (fun x e j p hx hj => ?_) (fun x e j p hx hj => ?_) (fun e he => hB.typed hbv e (List.mem_of_mem_drop (List.mem_of_mem_take he)))
            · rintro (⟨y, hy⟩ | hf | ⟨hf, _⟩)
              · simp only [Ctx.cut] at hy
                split at hy
                · have := hR.inj _ _ _ hy hb; omega
                · cases hy
              · exact hR.nfo _ _ hb hf
              · exact hf
            · obtain ⟨g1, _⟩ := m4 (k + x) e j p (hget x e hx) hj
              rw [show k * r.s + x * P.cellsOf r.t + j = (k + x) * r.s + j by rw [← hB.sz, Nat.add_mul]]
              show C.w.cell? _ = _
              rw [cell_row m1]
              exact g1
            · exact (m4 (k + x) e j p (hget x e hx) hj).2.cut hh (wt_byval (hB.typed hbv e (List.mem_of_getElem? (hget x e hx))) h p (List.mem_of_getElem? hj))
        · rename_i hc
          simp only [hhi, if_true, hr, hc] at hm
          simp [mlt] at hm
          omega
      · rename_i hr
        simp only [hhi, if_true, hr] at hm
        simp [mlt] at hm
        omega
    · rename_i hhi
      exact hx.cut hh (by simp [mlt]; omega)
  | agg hs _ ih =>
    intro hm
    simp only [Hx.frz, mlt] at hm ⊢
    refine .agg (by rw [frzs_length]; exact hs) fun j c v h1 h2 => ?_
    have hmj := mlts_get hm h1
    rw [frzs_get] at h1
    obtain ⟨q, hq, rfl⟩ := Option.map_eq_some_iff.1 h1
    exact ih j q v hq h2 hmj
  | tup hs _ ih =>
    intro hm
    simp only [Hx.frz, mlt] at hm ⊢
    refine .tup (by rw [frzs_length]; exact hs) fun j c v h1 h2 => ?_
    have hmj := mlts_get hm h1
    rw [frzs_get] at h1
    obtain ⟨q, hq, rfl⟩ := Option.map_eq_some_iff.1 h1
    exact ih j q v hq h2 hmj
  | any => intro _; exact .any
  | val => intro _; exact .val
  | ptr hV hk hi hn h1 => intro hm; exact (RV.ptr (P := P) hV hk hi hn h1).cut hh hm
  | lptr cv hb hlt hc hr ht _ => intro hm; exact (RV.lptr (P := P) cv hb hlt hc hr ht).cut hh hm
  | lst b off cv hcap hfull ha hc hr ht _ => intro hm; exact (RV.lst (P := P) b off cv hcap hfull ha hc hr ht).cut hh hm
  | fn h1 h2 h3 h4 _ _ => intro hm; exact (RV.fn (P := P) h1 h2 h3 h4).cut hh hm
  | ifc h1 _ => intro hm; exact (RV.ifc (P := P) h1).cut hh hm
  | yld h1 h2 h3 => intro hm; exact (RV.yld (P := P) h1 h2 h3).cut hh hm
end Go.Hx
