/- Hx: rows that are hidden from a call, and rows whose content is not known. -/
import Derived.Test.YtadcoepikgjgmaaHxCut
namespace Go.Hx

/-! Rows of one shape. -/
def ShpR (r r' : Row) : Prop := r.s = r'.s ∧ r.es.length = r'.es.length ∧ r.nl = r'.nl ∧ r.t = r'.t
/-- Contexts that differ in what their rows hold. -/
structure Shp (C C' : Ctx) : Prop where
  w : C'.w = C.w
  ρ : C'.ρ = C.ρ
  fo : C'.fo = C.fo
  ro : C'.ro = C.ro
  len : C'.H.length = C.H.length
  row : ∀ i r', C'.row? i = some r' → ∃ r, C.row? i = some r ∧ ShpR r r'
  row' : ∀ i r, C.row? i = some r → ∃ r', C'.row? i = some r' ∧ ShpR r r'
  lp : ∀ (i : Nat) r, C.H[i]? = some r → r.live = false → C'.H[i]? = some r
  lp' : ∀ (i : Nat) r, C'.H[i]? = some r → r.live = false → C.H[i]? = some r
theorem Shp.symm {C C' : Ctx} (h : Shp C C') : Shp C' C :=
  ⟨h.w.symm, h.ρ.symm, h.fo.symm, h.ro.symm, h.len.symm, fun i r' hr => let ⟨r, a, b1, b2, b3, b4⟩ := h.row' i r' hr; ⟨r, a, b1.symm, b2.symm, b3.symm, b4.symm⟩,
    fun i r' hr => let ⟨r, a, b1, b2, b3, b4⟩ := h.row i r' hr; ⟨r, a, b1.symm, b2.symm, b3.symm, b4.symm⟩, h.lp', h.lp⟩
theorem RV.shp {P : Program} {C C' : Ctx} (h : Shp C C') {p : PV} {V : Value} (hv : RV P C p V) : RV P C' p V := by
  have hban : ∀ b, C'.ban b → C.ban b := by
    intro b hb
    rcases hb with ⟨i, hi⟩ | hf
    · exact .inl ⟨i, by rw [← h.ρ]; exact hi⟩
    · exact .inr (by rw [← h.fo]; exact hf)
  induction hv with
  | any => exact .any
  | val => exact .val
  | ptr hV hk hi hn h1 =>
    refine .ptr hV hk (by rw [h.len]; exact hi) (fun r' hr' => ?_) fun r' hr' he => ?_
    · obtain ⟨r, a, b1, b2, b3, b4⟩ := h.row _ r' hr'
      rw [← b2]; exact hn r a
    · obtain ⟨r, a, b1, b2, b3, b4⟩ := h.row _ r' hr'
      obtain ⟨b, g1, g2⟩ := h1 r a (by rw [b2]; exact he)
      exact ⟨b, by rw [h.ρ]; exact g1, by rw [← b1]; exact g2⟩
  | lptr cv hb hlt hc hr ht ih => exact .lptr cv (fun hb' => hb (hban _ hb')) (by rw [h.w]; exact hlt) (fun x p hx => by rw [h.w]; exact hc x p hx) ih ht
  | sl hV hi hn h1 =>
    refine .sl hV (by rw [h.len]; exact hi) (fun r' hr' => ?_) fun r' hr' he => ?_
    · obtain ⟨r, a, b1, b2, b3, b4⟩ := h.row _ r' hr'
      rw [← b2]; exact hn r a
    · obtain ⟨r, a, b1, b2, b3, b4⟩ := h.row _ r' hr'
      obtain ⟨g0, ad, cap, g1, g2, g3⟩ := h1 r a (by rw [b2]; exact he)
      refine ⟨g0, ad, cap, g1, g2, ?_⟩
      unfold SlAt at *
      rw [← b3, ← b1]
      split
      · rename_i hnl; rwa [if_pos hnl] at g3
      · rename_i hnl
        rw [if_neg hnl] at g3
        obtain ⟨b, q1, q2, c, e, fr, q3, q4⟩ := g3
        exact ⟨b, by rw [h.ρ]; exact q1, q2, c, e, fr, by rw [h.w]; exact q3, q4⟩
  | lst b off cv hcap hfull ha hc hr ht ih =>
    refine .lst b off cv hcap hfull (fun h0 => ?_) (fun x e j p hx hj => by rw [h.w]; exact hc x e j p hx hj) ih ht
    obtain ⟨g1, g2, g3⟩ := ha h0
    exact ⟨g1, fun hb => g2 (hban _ hb), by rw [h.w]; exact g3⟩
  | agg hs _ ih => exact .agg hs ih
  | tup hs _ ih => exact .tup hs ih
  | fn h1 h2 _ _ ih3 ih4 => exact .fn h1 h2 ih3 ih4
  | ifc _ ih => exact .ifc ih
  | yld hi hl hb =>
    obtain ⟨r, info, h1, h2, h3⟩ := hl
    exact .yld (by rw [h.len]; exact hi) ⟨r, info, h.lp _ r h1 h3, h2, h3⟩ (by rw [h.ρ]; exact hb)

/-- A row whose content is not known. -/
def poisonRow (r : Row) : Row := match r.live with | true => { r with es := r.es.map fun _ => .agg (List.replicate r.s .any), bv := false } | false => r
def poison (R : List Nat) (H : List Row) : List Row := H.zipIdx.map fun x => match R.contains x.2 with | true => poisonRow x.1 | false => x.1
theorem poison_length (R : List Nat) (H : List Row) : (poison R H).length = H.length := by simp [poison]
theorem poison_get (R : List Nat) (H : List Row) (i : Nat) : (poison R H)[i]? = H[i]?.map fun r => if R.contains i then poisonRow r else r := by
  simp only [poison, List.getElem?_map, List.getElem?_zipIdx, Nat.zero_add, Option.map_map]
  congr 1
  funext r
  simp only [Function.comp]
  cases R.contains i <;> rfl
theorem poisonRow_live (r : Row) : (poisonRow r).live = r.live := by unfold poisonRow; split <;> simp_all
theorem poisonRow_shp (r : Row) : ShpR r (poisonRow r) := by unfold poisonRow; split <;> simp [ShpR]
theorem poisonRow_eq {r r' : Row} (h : ShpR r r') (h1 : r.live = true) (h2 : r'.live = true) (h3 : r.lp = r'.lp) : poisonRow r = poisonRow r' := by
  obtain ⟨a1, a2, a3, a4⟩ := h
  cases r with | mk es s t bv live nl lp => cases r' with | mk es' s' t' bv' live' nl' lp' =>
  simp only at a1 a2 a3 a4 h1 h2 h3
  subst a1; subst a3; subst a4; subst h1; subst h2; subst h3
  simp only [poisonRow]
  congr 1
  rw [List.map_const', List.map_const', a2]
def Ctx.poi (C : Ctx) (R : List Nat) : Ctx := { C with H := poison R C.H }
theorem poi_row {C : Ctx} {R : List Nat} (i : Nat) : (C.poi R).row? i = (C.row? i).map fun r => if R.contains i then poisonRow r else r := by
  show rowAt (poison R C.H) i = (rowAt C.H i).map _
  unfold rowAt
  rw [poison_get]
  cases C.H[i]? with
  | none => rfl
  | some r =>
    have e : (if R.contains i = true then poisonRow r else r).live = r.live := by split <;> simp [poisonRow_live]
    show (if (if R.contains i = true then poisonRow r else r).live = true then some (if R.contains i = true then poisonRow r else r) else none) = Option.map _ (if r.live = true then some r else none)
    rw [e]
    by_cases hl : r.live = true
    · rw [if_pos hl, if_pos hl]; rfl
    · rw [if_neg hl, if_neg hl]; rfl
theorem poi_shp (C : Ctx) (R : List Nat) : Shp C (C.poi R) := by
  refine ⟨rfl, rfl, rfl, rfl, poison_length R C.H, fun i r' hr => ?_, fun i r hr => ?_, fun i r hr hl => ?_, fun i r hr hl => ?_⟩
  · rw [poi_row] at hr
    obtain ⟨r, a, rfl⟩ := Option.map_eq_some_iff.1 hr
    refine ⟨r, a, ?_⟩
    split
    · exact poisonRow_shp r
    · exact ⟨rfl, rfl, rfl, rfl⟩
  · refine ⟨_, by rw [poi_row, hr]; rfl, ?_⟩
    dsimp only
    split
    · exact poisonRow_shp r
    · exact ⟨rfl, rfl, rfl, rfl⟩
  · show (poison R C.H)[i]? = _
    rw [poison_get, hr]
    simp only [Option.map_some]
    split
    · unfold poisonRow; rw [hl]
    · rfl
  · have hr' : (poison R C.H)[i]? = some r := hr
    rw [poison_get] at hr'
    obtain ⟨q, a, b⟩ := Option.map_eq_some_iff.1 hr'
    have hq : q = r := by
      split at b
      · have : q.live = false := by rw [← poisonRow_live, b]; exact hl
        unfold poisonRow at b
        rw [this] at b
        exact b
      · exact b
    rw [a, hq]
theorem RB.poison {P : Program} {C : Ctx} {b : Nat} {r : Row} (h : RB P C b r) : RB P C b (poisonRow r) := by
  unfold poisonRow
  split
  · obtain ⟨c, fr, cv, m1, m2, m3, m4⟩ := h.mem
    refine ⟨h.sz, ⟨c, fr, fun k j => c.getD (k * r.s + j) undef, m1, m2, by simpa using m3, fun k e j p hk hj => ?_⟩, fun e he => ?_, fun hb => by cases hb⟩
    · simp only [List.getElem?_map, Option.map_eq_some_iff] at hk
      obtain ⟨e0, hk0, rfl⟩ := hk
      simp only [PV.cells] at hj
      rw [List.getElem?_replicate] at hj
      split at hj
      · rename_i hjs
        cases hj
        have hkl := (List.getElem?_eq_some_iff.1 hk0).1
        have hlt : k * r.s + j < c.size := by
          have h5 : (k + 1) * r.s ≤ r.es.length * r.s := Nat.mul_le_mul_right _ hkl
          rw [Nat.add_mul, Nat.one_mul] at h5
          omega
        have g : c[k * r.s + j]? = some c[k * r.s + j] := Array.getElem?_eq_getElem hlt
        have e2 : c.getD (k * r.s + j) undef = c[k * r.s + j] := by rw [Array.getD_eq_getD_getElem?, g]; rfl
        exact ⟨by simp only [e2]; exact g, .any⟩
      · cases hj
    · simp only [List.mem_map] at he
      obtain ⟨_, _, rfl⟩ := he
      simp [PV.cells]
  · exact h
theorem RB.shp {P : Program} {C C' : Ctx} (h : Shp C C') {b : Nat} {r : Row} (hr : RB P C b r) : RB P C' b r := by
  obtain ⟨c, fr, cv, m1, m2, m3, m4⟩ := hr.mem
  exact ⟨hr.sz, ⟨c, fr, cv, by rw [h.w]; exact m1, m2, m3, fun k e j p hk hj => ⟨(m4 k e j p hk hj).1, (m4 k e j p hk hj).2.shp h⟩⟩, hr.len, hr.typed⟩
theorem LoopB.shp {P : Program} {C C' : Ctx} (h : Shp C C') {b : Nat} {info : LoopI} (hr : LoopB P C b info) : LoopB P C' b info := by
  obtain ⟨⟨rec, h1, h2, h3, h4, h5, h6⟩, ha, hbd⟩ := hr
  exact ⟨⟨rec, by rw [h.w, h1], h2, h3, h4, ⟨h5.1, fun i p v g1 g2 => (h5.2 i p v g1 g2).shp h⟩, h6⟩, ha, hbd⟩
theorem RSl.shp {P : Program} {C C' : Ctx} (h : Shp C C') {S : List PV} {t : Array Value} (hs : RSl P C S t) : RSl P C' S t :=
  ⟨hs.1, fun i p v h1 h2 => (hs.2 i p v h1 h2).shp h⟩
theorem RH.shp {P : Program} {C C' : Ctx} (h : Shp C C') (hR : RH P C) (hb : ∀ i b r, C.ρ i = some b → C'.row? i = some r → RB P C' b r) : RH P C' := by
  refine ⟨fun i j b h1 h2 => hR.inj i j b (by rw [← h.ρ]; exact h1) (by rw [← h.ρ]; exact h2), fun i b h1 => ?_, fun i b r h1 h2 => hb i b r (by rw [← h.ρ]; exact h1) h2, by rw [h.ro, h.len]; exact hR.ro,
    fun i b h1 => by rw [h.fo]; exact hR.nfo i b (by rw [← h.ρ]; exact h1), fun b hb => by rw [h.w]; exact hR.fol b (by rw [← h.fo]; exact hb), fun i b r info h1 h2 h3 h4 => ?_⟩
  · rcases hR.dom i b (by rw [← h.ρ]; exact h1) with ⟨r, hr⟩ | ⟨r, info, g1, g2, g3⟩
    · obtain ⟨r', hr', _⟩ := h.row' i r hr; exact .inl ⟨r', hr'⟩
    · exact .inr ⟨r, info, h.lp i r g1 g3, g2, g3⟩
  · exact (hR.lps i b r info (by rw [← h.ρ]; exact h1) (h.lp' i r h2 h4) h3 h4).shp h
theorem poi_rh {P : Program} {C : Ctx} (hR : RH P C) (R : List Nat) : RH P (C.poi R) := by
  refine hR.shp (poi_shp C R) fun i b r h1 h2 => ?_
  rw [poi_row] at h2
  obtain ⟨r0, a, rfl⟩ := Option.map_eq_some_iff.1 h2
  have hB := hR.blk i b r0 h1 a
  split
  · exact hB.poison.shp (poi_shp C R)
  · exact hB.shp (poi_shp C R)

/-! Rows that a call does not see. -/
def deadRow (_ : Row) : Row := { es := [], s := 0, t := 0, bv := true, live := false }
def maskH (K : List Nat) (H : List Row) : List Row := H.zipIdx.map fun x => match K.contains x.2 with | true => x.1 | false => deadRow x.1
def backH (K : List Nat) (H H' : List Row) : List Row := H.zipIdx.map fun x => match K.contains x.2 with | true => H'.getD x.2 x.1 | false => x.1
theorem maskH_length (K : List Nat) (H : List Row) : (maskH K H).length = H.length := by simp [maskH]
theorem backH_length (K : List Nat) (H H' : List Row) : (backH K H H').length = H.length := by simp [backH]
theorem maskH_get (K : List Nat) (H : List Row) (i : Nat) : (maskH K H)[i]? = H[i]?.map fun r => if K.contains i then r else deadRow r := by
  simp only [maskH, List.getElem?_map, List.getElem?_zipIdx, Nat.zero_add, Option.map_map]
  congr 1
  funext r
  simp only [Function.comp]
  cases K.contains i <;> rfl
theorem backH_get (K : List Nat) (H H' : List Row) (i : Nat) : (backH K H H')[i]? = H[i]?.map fun r => if K.contains i then H'.getD i r else r := by
  simp only [backH, List.getElem?_map, List.getElem?_zipIdx, Nat.zero_add, Option.map_map]
  congr 1
  funext r
  simp only [Function.comp]
  cases K.contains i <;> rfl
def inK (K : List Nat) (h i : Nat) : Prop := i < h ∧ K.contains i = true
instance (K : List Nat) (h i : Nat) : Decidable (inK K h i) := inferInstanceAs (Decidable (_ ∧ _))
/-- Only the first h rows, of these only those of K. -/
def Ctx.mask (C : Ctx) (K : List Nat) (h : Nat) : Ctx :=
  { ρ := fun i => if inK K h i then C.ρ i else none, H := maskH K (C.H.take h), w := C.w, fo := fun b => C.fo b ∨ ∃ i, ¬ inK K h i ∧ C.ρ i = some b, ro := C.ro }
theorem mask_len {C : Ctx} {K : List Nat} {h : Nat} (hh : h ≤ C.H.length) : (C.mask K h).H.length = h := by simp [Ctx.mask, maskH_length]; omega
theorem mask_row {C : Ctx} {K : List Nat} {h i : Nat} : (C.mask K h).row? i = if inK K h i then C.row? i else none := by
  show rowAt (maskH K (C.H.take h)) i = _
  unfold rowAt
  rw [maskH_get, List.getElem?_take]
  by_cases hk : inK K h i
  · rw [if_pos hk, if_pos hk.1]
    simp only [hk.2, if_true]
    cases hC : C.H[i]? with
    | none => simp [Ctx.row?, rowAt, hC]
    | some r => simp [Ctx.row?, rowAt, hC]
  · rw [if_neg hk]
    by_cases hi : i < h
    · rw [if_pos hi]
      have hc : K.contains i = false := by
        cases hc : K.contains i with
        | false => rfl
        | true => exact absurd ⟨hi, hc⟩ hk
      simp only [hc, Bool.false_eq_true, if_false]
      cases C.H[i]? with
      | none => rfl
      | some r => simp [deadRow]
    · rw [if_neg hi]; rfl
theorem mask_ban {C : Ctx} {K : List Nat} {h b : Nat} (hb : ¬ C.ban b) : ¬ (C.mask K h).ban b := by
  rintro (⟨i, hi⟩ | hf | ⟨i, _, hi⟩)
  · simp only [Ctx.mask] at hi
    split at hi
    · exact hb (.inl ⟨i, hi⟩)
    · cases hi
  · exact hb (.inr hf)
  · exact hb (.inl ⟨i, hi⟩)

/-- From one context to another, for what names no row. -/
theorem RV.free {P : Program} {C C' : Ctx} (hb : ∀ b, C'.ban b → C.ban b) (hw : C'.w = C.w) {p : PV} {V : Value} (hv : RV P C p V) : mlt 0 p = true → RV P C' p V := by
  induction hv with
  | any => intro _; exact .any
  | val => intro _; exact .val
  | ptr => intro hm; simp [mlt] at hm
  | sl => intro hm; simp [mlt] at hm
  | yld => intro hm; simp [mlt] at hm
  | lptr cv hbn hlt hc hr ht ih =>
    intro _
    exact .lptr cv (fun h => hbn (hb _ h)) (by rw [hw]; exact hlt) (fun x p hx => by rw [hw]; exact hc x p hx) (fun x p hx => ih x p hx (wt_byval ht 0 _ (List.mem_of_getElem? hx))) ht
  | lst b off cv hcap hfull ha hc hr ht ih =>
    intro _
    refine .lst b off cv hcap hfull (fun h0 => ?_) (fun x e j p hx hj => by rw [hw]; exact hc x e j p hx hj) (fun x e j p hx hj => ih x e j p hx hj (wt_byval (ht e (List.mem_of_getElem? hx)) 0 _ (List.mem_of_getElem? hj))) ht
    obtain ⟨g1, g2, g3⟩ := ha h0
    exact ⟨g1, fun h => g2 (hb _ h), by rw [hw]; exact g3⟩
  | agg hs _ ih => intro hm; exact .agg hs fun j c v h1 h2 => ih j c v h1 h2 (mlts_get (by simpa [mlt] using hm) h1)
  | tup hs _ ih => intro hm; exact .tup hs fun j c v h1 h2 => ih j c v h1 h2 (mlts_get (by simpa [mlt] using hm) h1)
  | fn h1 h2 _ _ ih3 ih4 =>
    intro hm
    simp only [mlt, Bool.and_eq_true] at hm
    exact .fn h1 h2 (fun j c v g1 g2 => ih3 j c v g1 g2 (mlts_get hm.1 g1)) (fun j c v g1 g2 => ih4 j c v g1 g2 (mlts_get hm.2 g1))
  | ifc _ ih => intro hm; exact .ifc (ih (by simpa [mlt] using hm))

/-- Arguments of a call that sees only some rows. -/
def argOk (h : Nat) : PV → Bool
  | .ptr i _ _ _ => decide (i < h)
  | p => mlt 0 p
theorem mask_arg {P : Program} {C : Ctx} {K : List Nat} {h : Nat} (hh : h ≤ C.H.length) {p : PV} {V : Value} (hv : RV P C p V) (ho : argOk h p = true) : RV P (C.mask K h) p V := by
  have hfree : mlt 0 p = true → RV P (C.mask K h) p V := hv.free (fun b hb => Classical.byContradiction fun hn => mask_ban hn hb) rfl
  cases hv with
  | ptr hV hk hi hn h1 =>
    rename_i i _ _ _
    have hm : i < h := by simpa [argOk] using ho
    refine .ptr hV hk (by rw [mask_len hh]; exact hm) (fun r hr => ?_) fun r hr he => ?_
    · rw [mask_row] at hr
      split at hr
      · exact hn r hr
      · cases hr
    · rw [mask_row] at hr
      split at hr
      · rename_i hkk
        obtain ⟨b, g1, g2⟩ := h1 r hr he
        exact ⟨b, by simp [Ctx.mask, hkk, g1], g2⟩
      · cases hr
  | _ => exact hfree (by simpa [argOk] using ho)

theorem mask_rh {P : Program} {C : Ctx} (hR : RH P C) {K : List Nat} {h : Nat} (hh : h ≤ C.H.length) (hro : C.ro ≤ h) (hk : rowsOk 0 (maskH K (C.H.take h)) = true) : RH P (C.mask K h) := by
  refine ⟨fun i j b h1 h2 => ?_, fun i b h1 => ?_, fun i b r h1 h2 => ?_, by rw [mask_len hh]; exact hro, fun i b h1 => ?_, fun b hb => ?_, fun i b r info h1 h2 h3 h4 => ?_⟩
  · simp only [Ctx.mask] at h1 h2
    split at h1 <;> split at h2 <;> first | exact hR.inj _ _ _ h1 h2 | cases h1 | cases h2
  · simp only [Ctx.mask] at h1
    split at h1
    · rename_i hi
      rcases hR.dom i b h1 with ⟨r, hr⟩ | ⟨r, info, g1, g2, g3⟩
      · exact .inl ⟨r, by rw [mask_row, if_pos hi]; exact hr⟩
      · exact .inr ⟨r, info, by simp only [Ctx.mask]; rw [maskH_get, List.getElem?_take, if_pos hi.1, g1]; rw [Option.map_some, if_pos hi.2], g2, g3⟩
    · cases h1
  · have h2' : rowAt (maskH K (C.H.take h)) i = some r := h2
    rw [mask_row] at h2
    split at h2
    · rename_i hi
      simp only [Ctx.mask, hi, if_true] at h1
      have hB := hR.blk i b r h1 h2
      obtain ⟨c, fr, cv, m1, m2, m3, m4⟩ := hB.mem
      refine ⟨hB.sz, ⟨c, fr, cv, m1, m2, m3, fun k e j p hk1 hj1 => ⟨(m4 k e j p hk1 hj1).1, (m4 k e j p hk1 hj1).2.free (fun b hb => Classical.byContradiction fun hn => mask_ban hn hb) rfl ?_⟩⟩, hB.len, hB.typed⟩
      rcases rowsOk_get hk h2' with hb | hb
      · exact wt_byval (hB.typed hb e (List.mem_of_getElem? hk1)) 0 p (List.mem_of_getElem? hj1)
      · exact mlts_get (hb e (List.mem_of_getElem? hk1)) hj1
    · cases h2
  · simp only [Ctx.mask] at h1
    split at h1
    · rename_i hi
      rintro (hf | ⟨j, hj, hj2⟩)
      · exact hR.nfo i b h1 hf
      · have := hR.inj i j b h1 hj2
        subst this
        exact hj hi
    · cases h1
  · rcases hb with hf | ⟨i, _, hi⟩
    · exact hR.fol b hf
    · exact hR.lt hi
  · simp only [Ctx.mask] at h1 h2
    split at h1
    · rename_i hi
      have h5 := rowsOk_lp hk h2 h3
      rw [maskH_get, List.getElem?_take, if_pos hi.1] at h2
      obtain ⟨r0, g1, g2⟩ := Option.map_eq_some_iff.1 h2
      rw [if_pos hi.2] at g2
      subst g2
      obtain ⟨⟨rec, m1, m2, m3, m4, m5, m6⟩, ha, hb⟩ := hR.lps i b r0 info h1 g1 h3 h4
      exact ⟨⟨rec, m1, m2, m3, m4, ⟨m5.1, fun j p v g1 g2 => (m5.2 j p v g1 g2).free (fun b hb => Classical.byContradiction fun hn => mask_ban hn hb) rfl (mlts_get h5 g1)⟩, m6⟩, ha, hb⟩
    · cases h1

/-- Back from such a call. -/
def Ctx.back (C C' : Ctx) (K : List Nat) (h : Nat) : Ctx :=
  { ρ := fun i => if inK K h i then C'.ρ i else C.ρ i, H := (backH K (C.H.take h) C'.H) ++ C.H.drop h, w := C'.w, fo := C.fo, ro := C.ro }
theorem back_get {C C' : Ctx} {K : List Nat} {h : Nat} (hh : h ≤ C.H.length) (hl : h ≤ C'.H.length) (i : Nat) : (C.back C' K h).H[i]? = if inK K h i then C'.H[i]? else C.H[i]? := by
  have hlen : (backH K (C.H.take h) C'.H).length = h := by rw [backH_length, List.length_take]; omega
  show (backH K (C.H.take h) C'.H ++ C.H.drop h)[i]? = _
  rw [List.getElem?_append, hlen]
  by_cases hi : i < h
  · rw [if_pos hi, backH_get, List.getElem?_take, if_pos hi]
    have hC : C.H[i]? = some (C.H[i]'(by omega)) := List.getElem?_eq_getElem _
    have hC' : C'.H[i]? = some (C'.H[i]'(by omega)) := List.getElem?_eq_getElem _
    rw [hC, hC']
    simp only [Option.map_some]
    by_cases hk : K.contains i = true
    · rw [if_pos hk, if_pos ⟨hi, hk⟩, List.getD_eq_getElem?_getD, hC']; rfl
    · rw [if_neg hk, if_neg (fun hh => hk hh.2)]
  · rw [if_neg hi, if_neg (fun hh => hi hh.1), List.getElem?_drop]
    congr 1; omega
theorem back_rowm {C C' : Ctx} {K : List Nat} {h : Nat} (hh : h ≤ C.H.length) (hl : h ≤ C'.H.length) (i : Nat) : (C.back C' K h).row? i = if inK K h i then C'.row? i else C.row? i := by
  unfold Ctx.row? rowAt
  rw [back_get hh hl]
  by_cases hk : inK K h i
  · rw [if_pos hk, if_pos hk]
  · rw [if_neg hk, if_neg hk]
theorem backm_ban {C C' : Ctx} {K : List Nat} {h : Nat} (hx : Ext (C.mask K h) C') (b : Nat) (hb : (C.back C' K h).ban b) : C'.ban b := by
  rcases hb with ⟨i, hi⟩ | hf
  · simp only [Ctx.back] at hi
    split at hi
    · exact .inl ⟨i, hi⟩
    · rename_i hk
      refine .inr ?_
      rw [hx.fo]
      exact .inr ⟨i, hk, hi⟩
  · refine .inr ?_
    rw [hx.fo]
    exact .inl hf
theorem mask_own {C : Ctx} (hR : ∀ i j b, C.ρ i = some b → C.ρ j = some b → i = j) {K : List Nat} {h i b : Nat} (hk : ¬ inK K h i) (hi : C.ρ i = some b) : ¬ (C.mask K h).own b := by
  rintro ⟨j, _, hj⟩
  simp only [Ctx.mask] at hj
  split at hj
  · rename_i hkj
    exact hk (by rw [hR i j b hi hj]; exact hkj)
  · cases hj
theorem backm_ext {P : Program} {C C' : Ctx} (_hR : RH P C) {K : List Nat} {h : Nat} (hh : h ≤ C.H.length) (hx : Ext (C.mask K h) C') : Ext C (C.back C' K h) := by
  have hl : h ≤ C'.H.length := by have := hx.len; rwa [mask_len hh] at this
  refine ⟨hx.os, hx.tape, hx.output, hx.size, fun b hb ho => hx.block b hb fun hm => ho ?_, hx.shape, ?_, fun i r' hi hr => ?_, fun b hb => ?_, fun b hb => ?_, rfl, rfl, fun i hi => ?_, fun i r info h1 h2 h3 => ?_, hx.loop⟩
  · obtain ⟨i, hir, hi⟩ := hm
    simp only [Ctx.mask] at hi hir
    split at hi
    · exact ⟨i, hir, hi⟩
    · cases hi
  · show C.H.length ≤ (backH K (C.H.take h) C'.H ++ C.H.drop h).length
    rw [List.length_append, backH_length, List.length_take, List.length_drop]; omega
  · rw [back_rowm hh hl] at hr
    split at hr
    · rename_i hk
      obtain ⟨r, a1, a2, a3, a4, a5⟩ := hx.rows i r' (by rw [mask_len hh]; exact hk.1) hr
      rw [mask_row, if_pos hk] at a1
      exact ⟨r, a1, a2, a3, a4, fun e => ⟨(a5 e).1, fun b hb => by
        show (if inK K h i then C'.ρ i else C.ρ i) = some b
        rw [if_pos hk]
        exact (a5 e).2 b (by simp [Ctx.mask, hk, hb])⟩⟩
    · rename_i hk
      exact ⟨r', hr, rfl, rfl, Nat.le_refl _, fun _ => ⟨rfl, fun b hb => by
        show (if inK K h i then C'.ρ i else C.ρ i) = some b
        rw [if_neg hk]; exact hb⟩⟩
  · obtain ⟨i, hi⟩ := hb
    simp only [Ctx.back] at hi
    split at hi
    · rcases hx.fresh b ⟨i, hi⟩ with ⟨j, hj⟩ | hs
      · simp only [Ctx.mask] at hj
        split at hj
        · exact .inl ⟨j, hj⟩
        · cases hj
      · exact .inr hs
    · exact .inl ⟨i, hi⟩
  · obtain ⟨i, hir, hi⟩ := hb
    simp only [Ctx.back] at hi hir
    split at hi
    · rcases hx.freshOwn b ⟨i, by rw [hx.ro]; exact hir, hi⟩ with ⟨j, hjr, hj⟩ | hs
      · simp only [Ctx.mask] at hj hjr
        split at hj
        · exact .inl ⟨j, hjr, hj⟩
        · cases hj
      · exact .inr hs
    · exact .inl ⟨i, hir, hi⟩
  · obtain ⟨g1, g2⟩ := hx.low i hi
    refine ⟨?_, ?_⟩
    · rw [back_get hh hl]
      split
      · rename_i hk
        rw [g1]
        simp only [Ctx.mask]
        rw [maskH_get, List.getElem?_take, if_pos hk.1]
        simp only [hk.2, if_true]
        cases C.H[i]? <;> rfl
      · rfl
    · show (if inK K h i then C'.ρ i else C.ρ i) = _
      split
      · rename_i hk
        rw [g2]
        simp [Ctx.mask, hk]
      · rfl
  · by_cases hk : inK K h i
    · obtain ⟨⟨r', st, a1, a2, a3⟩, a4⟩ := hx.lp i r info (by simp only [Ctx.mask]; rw [maskH_get, List.getElem?_take, if_pos hk.1, h1]; rw [Option.map_some, if_pos hk.2]) h2 h3
      refine ⟨⟨r', st, by rw [back_get hh hl, if_pos hk]; exact a1, a2, a3⟩, fun b hb => ?_⟩
      show (if inK K h i then C'.ρ i else C.ρ i) = _
      rw [if_pos hk]
      exact a4 b (by simp [Ctx.mask, hk, hb])
    · refine ⟨⟨r, info.st, by rw [back_get hh hl, if_neg hk]; exact h1, h2, h3⟩, fun b hb => ?_⟩
      show (if inK K h i then C'.ρ i else C.ρ i) = _
      rw [if_neg hk]; exact hb
theorem backm_rh {P : Program} {C C' : Ctx} (hR : RH P C) {K : List Nat} {h : Nat} (hh : h ≤ C.H.length) (hx : Ext (C.mask K h) C') (hR' : RH P C') (hk : rowsOk 0 (maskH K (C'.H.take h)) = true) : RH P (C.back C' K h) := by
  have hl : h ≤ C'.H.length := by have := hx.len; rwa [mask_len hh] at this
  have hxe := backm_ext hR hh hx
  have hfree : ∀ {p V}, RV P C' p V → mlt 0 p = true → RV P (C.back C' K h) p V := fun hv hm => hv.free (backm_ban hx) rfl hm
  have hfo : ∀ b, C'.fo b ↔ C.fo b ∨ ∃ i, ¬ inK K h i ∧ C.ρ i = some b := fun b => by rw [hx.fo]; rfl
  have hold : ∀ i b, ¬ inK K h i → C.ρ i = some b → C'.w.heap[b]? = C.w.heap[b]? := fun i b hk hi => hx.block b (hR.lt hi) (mask_own hR.inj hk hi)
  have hKrow : ∀ i r, inK K h i → C'.row? i = some r → r.bv = true ∨ ∀ e ∈ r.es, mlts 0 e.cells = true := by
    intro i r hki hr
    refine rowsOk_get hk (i := i) ?_
    have := hr
    unfold Ctx.row? rowAt at this
    unfold rowAt
    rw [maskH_get, List.getElem?_take, if_pos hki.1]
    simp only [if_pos hki.2]
    cases hc : C'.H[i]? with
    | none => rw [hc] at this; cases this
    | some q => rw [hc] at this; exact this
  refine ⟨fun i j b h1 h2 => ?_, fun i b h1 => ?_, fun i b r h1 h2 => ?_, Nat.le_trans hR.ro hxe.len, fun i b h1 => ?_, fun b hb => Nat.lt_of_lt_of_le (hR.fol b hb) hxe.size, fun i b r info h1 h2 h3 h4 => ?_⟩
  · simp only [Ctx.back] at h1 h2
    split at h1 <;> split at h2
    · exact hR'.inj i j b h1 h2
    · rename_i hi hj; exact absurd ((hfo b).2 (.inr ⟨j, hj, h2⟩)) (hR'.nfo i b h1)
    · rename_i hi hj; exact absurd ((hfo b).2 (.inr ⟨i, hi, h1⟩)) (hR'.nfo j b h2)
    · exact hR.inj i j b h1 h2
  · simp only [Ctx.back] at h1
    split at h1
    · rename_i hki
      rcases hR'.dom i b h1 with ⟨r, hr⟩ | ⟨r, info, g1, g2, g3⟩
      · exact .inl ⟨r, by rw [back_rowm hh hl, if_pos hki]; exact hr⟩
      · exact .inr ⟨r, info, by rw [back_get hh hl, if_pos hki]; exact g1, g2, g3⟩
    · rename_i hki
      rcases hR.dom i b h1 with ⟨r, hr⟩ | ⟨r, info, g1, g2, g3⟩
      · exact .inl ⟨r, by rw [back_rowm hh hl, if_neg hki]; exact hr⟩
      · exact .inr ⟨r, info, by rw [back_get hh hl, if_neg hki]; exact g1, g2, g3⟩
  · rw [back_rowm hh hl] at h2
    simp only [Ctx.back] at h1
    split at h1
    · rename_i hki
      rw [if_pos hki] at h2
      have hB := hR'.blk i b r h1 h2
      obtain ⟨c, fr, cv, m1, m2, m3, m4⟩ := hB.mem
      refine ⟨hB.sz, ⟨c, fr, cv, m1, m2, m3, fun k e j p hk1 hj1 => ⟨(m4 k e j p hk1 hj1).1, hfree (m4 k e j p hk1 hj1).2 ?_⟩⟩, hB.len, hB.typed⟩
      rcases hKrow i r hki h2 with hb | hb
      · exact wt_byval (hB.typed hb e (List.mem_of_getElem? hk1)) 0 p (List.mem_of_getElem? hj1)
      · exact mlts_get (hb e (List.mem_of_getElem? hk1)) hj1
    · rename_i hki
      rw [if_neg hki] at h2
      exact (hR.blk i b r h1 h2).mono hxe (hold i b hki h1)
  · simp only [Ctx.back] at h1 ⊢
    split at h1
    · exact fun hf => hR'.nfo i b h1 ((hfo b).2 (.inl hf))
    · exact hR.nfo i b h1
  · rw [back_get hh hl] at h2
    simp only [Ctx.back] at h1
    split at h1
    · rename_i hki
      rw [if_pos hki] at h2
      obtain ⟨⟨rec, m1, m2, m3, m4, m5, m6⟩, ha, hb⟩ := hR'.lps i b r info h1 h2 h3 h4
      have h5 : mlts 0 info.k.S0 = true := by
        refine rowsOk_lp hk (i := i) (r := r) ?_ h3
        rw [maskH_get, List.getElem?_take, if_pos hki.1, h2]; rw [Option.map_some, if_pos hki.2]
      exact ⟨⟨rec, m1, m2, m3, m4, ⟨m5.1, fun j p v g1 g2 => hfree (m5.2 j p v g1 g2) (mlts_get h5 g1)⟩, m6⟩, ha, hb⟩
    · rename_i hki
      rw [if_neg hki] at h2
      exact (hR.lps i b r info h1 h2 h3 h4).mono hxe (hold i b hki h1)
end Go.Hx
