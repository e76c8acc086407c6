/- Hx: what a reader reads of an argument is a value of the machine. -/
import Derived.Test.YtliaeiggcleoaaaPart5
import Derived.ProofKit
import Derived.OpenShut
import Derived.ShutString
import Derived.ChangeOld
import Derived.Below
namespace Go.Hx
open Go.ChangeShapes Go.WideShapes Go.RowKit

inductive Fit : PV → Prop
  | int {k : IntKind} {n : Int} (h : (Lit.int k n).wf = true) : Fit (.val (.int k n))
  | bool {b : Bool} : Fit (.val (.bool b))
  | str {s : ByteArray} (h : s.size ≤ maxLen) : Fit (.val (.string s))
  | lst {f : Bool} {t : TypeId} {es : List PV} (hl : es.length ≤ maxLen) (h : ∀ e, e ∈ es → ∀ c, c ∈ e.cells → Fit c) : Fit (.lst f t es)

def Ctx.of (w : World) : Ctx := { ρ := fun _ => none, H := [], w := w }
theorem glb_none {P : Program} {C : Ctx} (h : (List.range P.globals.size).all (fun g => !isLaid P g) = true) : Glb P C := fun g hl => by
  have hg : g < P.globals.size := by
    unfold isLaid at hl
    split at hl
    · rename_i G hG; exact (Array.getElem?_eq_some_iff.1 hG).1
    · cases hl
  have := List.all_eq_true.1 h g (List.mem_range.2 hg)
  rw [hl] at this; cases this
theorem of_rh (P : Program) (w : World) (hg : Glb P (Ctx.of w)) : RH P (Ctx.of w) :=
  ⟨fun _ _ _ h => (by cases h), fun _ _ h => (by cases h), fun _ _ _ h => (by cases h), Nat.le_refl _, fun _ _ h => (by cases h), fun _ (h : False) => h.elim, fun _ _ _ _ h => (by cases h), hg⟩
theorem of_ban (w : World) (b : Nat) : ¬ (Ctx.of w).ban b := by
  rintro (⟨i, hi⟩ | hf)
  · cases hi
  · exact hf

theorem wtcs_append : ∀ {k1 k2 : List Kind} {p1 p2 : List PV}, wtcs k1 p1 = true → wtcs k2 p2 = true → wtcs (k1 ++ k2) (p1 ++ p2) = true
  | [], _, [], _, _, h => h
  | [], _, _ :: _, _, h, _ => by simp [wtcs] at h
  | _ :: _, _, [], _, h, _ => by simp [wtcs] at h
  | k :: ks, k2, p :: ps, p2, h, g => by
    simp only [wtcs, Bool.and_eq_true, List.cons_append] at h ⊢
    exact ⟨h.1, wtcs_append h.2 g⟩

def CellsOk (P : Program) (w : World) (ks : List Kind) (cs : List Value) (ps : List PV) : Prop :=
  ps.length = cs.length ∧ wtcs ks ps = true ∧ (∀ (j : Nat) p v, ps[j]? = some p → cs[j]? = some v → RV P (Ctx.of w) p v) ∧ ∀ p, p ∈ ps → Fit p
theorem CellsOk.app {P : Program} {w : World} {k1 k2 : List Kind} {c1 c2 : List Value} {p1 p2 : List PV} (h : CellsOk P w k1 c1 p1) (g : CellsOk P w k2 c2 p2) : CellsOk P w (k1 ++ k2) (c1 ++ c2) (p1 ++ p2) := by
  refine ⟨by simp [h.1, g.1], wtcs_append h.2.1 g.2.1, fun j p v hp hv => ?_, fun p hp => ?_⟩
  · rw [List.getElem?_append] at hp hv
    rw [← h.1] at hv
    split at hp
    · rename_i hj; rw [if_pos hj] at hv; exact h.2.2.1 j p v hp hv
    · rename_i hj; rw [if_neg hj] at hv; exact g.2.2.1 _ p v hp hv
  · rcases List.mem_append.1 hp with hp | hp
    · exact h.2.2.2 p hp
    · exact g.2.2.2 p hp

def cont : List (Nat × Nat × List Kind) → Nat → Nat → Bool
  | [], o, n => o == n
  | (o', s, ks) :: l, o, n => o' == o && ks.length == s && cont l (o + s) n
theorem segs_ok {P : Program} {w : World} {cs : List Value} : ∀ (l : List (Nat × Nat × List Kind)) (o : Nat), cont l o cs.length = true → (∀ x, x ∈ l → ∃ ps, CellsOk P w x.2.2 ((cs.drop x.1).take x.2.1) ps) →
    ∃ ps, CellsOk P w (l.flatMap fun x => x.2.2) (cs.drop o) ps
  | [], o, h, _ => by
    simp only [cont, beq_iff_eq] at h
    subst h
    exact ⟨[], by simp, rfl, fun j p v hp => (by simp at hp), fun p hp => (by cases hp)⟩
  | (o', s, ks) :: l, o, h, hx => by
    simp only [cont, Bool.and_eq_true, beq_iff_eq] at h
    obtain ⟨⟨rfl, hs⟩, hc⟩ := h
    obtain ⟨p1, h1⟩ := hx (o', s, ks) (by simp)
    obtain ⟨p2, h2⟩ := segs_ok l (o' + s) hc fun x hm => hx x (by simp [hm])
    refine ⟨p1 ++ p2, ?_⟩
    have hsplit : cs.drop o' = (cs.drop o').take s ++ cs.drop (o' + s) := by
      rw [← List.drop_drop]; exact (List.take_append_drop s (cs.drop o')).symm
    rw [hsplit]
    exact h1.app h2

def flatB (P : Program) : Nat → Nat → TypeId → Bool
  | 0, _, _ => false
  | _ + 1, 0, _ => false
  | n + 1, d + 1, t =>
    match P.underlying t with
    | some (.int _) => true
    | some .bool => true
    | some .string => true
    | some (.slice e) => flatB P n 12 e && decide (0 < P.cellsOf e) && (kinds P e).length == P.cellsOf e
    | some (.struct fs) => fs.toList.all (fun f => flatB P n d f.type) && cont (fs.toList.map fun f => (f.offset, P.cellsOf f.type, kindsAt P d f.type)) 0 (P.cellsOf t)
    | some (.array m e) => flatB P n d e && cont ((List.range m).map fun i => (i * P.cellsOf e, P.cellsOf e, kindsAt P d e)) 0 (P.cellsOf t)
    | _ => false

def mkE (P : Program) (t : TypeId) (ps : List PV) : PV := if isAggT P t then .agg ps else ps.getD 0 .any
theorem mkE_cells {P : Program} {t : TypeId} {ks : List Kind} {ps : List PV} (h : wtcs ks ps = true) (hl : ks.length = P.cellsOf t) (h1 : isAggT P t = false → P.cellsOf t = 1) : (mkE P t ps).cells = ps := by
  unfold mkE
  split
  · rfl
  · rename_i ha
    have hl1 := h1 (by simpa using ha)
    have hp := wtcs_length h
    match ps, hp with
    | [p], _ =>
      match ks, h with
      | [k], h =>
        simp only [wtcs, Bool.and_true] at h
        show PV.cells p = [p]
        unfold wtc at h
        split at h <;> first | rfl | cases h
    | [], hp => simp at hp; omega
    | _ :: _ :: _, hp => simp at hp; omega

theorem cells?_get {w : World} {a : Addr} {n : Nat} {cs : List Value} (h : w.cells? 0 a n = some cs) : cs.length = n ∧ ∀ (x : Nat) v, cs[x]? = some v → w.cell? (a.add x) = some v := by
  obtain ⟨h1, h2, h3⟩ := World.cells?_some h
  refine ⟨by simpa using h2, fun x v hx => ?_⟩
  have hlt : x < cs.length := (List.getElem?_eq_some_iff.1 hx).1
  have := h3 x (by omega)
  rw [this, ← hx]

section
variable {H : Type} {enc : TypeId × Value → H} {P : Program} {w : World} {sp : Nat → Bool} {held : Bool}
theorem trod_int1 {k : IntKind} {t : TypeId} (hu : P.underlying t = some (.int k)) {fuel : Nat} {cs : List Value} {x : DataW H × List MemPlace} (hx : DataW.trod enc P w 0 sp held fuel t cs = some x) : ∃ n, cs = [.int k n] ∧ (Lit.int k n).wf = true := by
  cases fuel with
  | zero => simp [DataW.trod] at hx
  | succ m =>
    unfold DataW.trod at hx
    rw [hu] at hx
    split at hx <;> simp_all
theorem trod_bool1 {t : TypeId} (hu : P.underlying t = some .bool) {fuel : Nat} {cs : List Value} {x : DataW H × List MemPlace} (hx : DataW.trod enc P w 0 sp held fuel t cs = some x) : ∃ b, cs = [.bool b] := by
  cases fuel with
  | zero => simp [DataW.trod] at hx
  | succ m =>
    unfold DataW.trod at hx
    rw [hu] at hx
    split at hx <;> simp_all
theorem trod_string1 {t : TypeId} (hu : P.underlying t = some .string) {fuel : Nat} {cs : List Value} {x : DataW H × List MemPlace} (hx : DataW.trod enc P w 0 sp held fuel t cs = some x) : ∃ s : ByteArray, cs = [.string s] ∧ s.size ≤ maxLen := by
  cases fuel with
  | zero => simp [DataW.trod] at hx
  | succ m =>
    unfold DataW.trod at hx
    rw [hu] at hx
    split at hx <;> simp_all
theorem trod_cells : ∀ (n d : Nat) (t : TypeId), flatB P n d t = true → ∀ (fuel : Nat) (cs : List Value) (x : DataW H × List MemPlace), DataW.trod enc P w 0 sp held fuel t cs = some x → ∃ ps, CellsOk P w (kindsAt P d t) cs ps
  | 0, _, _, h => fun _ _ _ _ => by simp [flatB] at h
  | n + 1, 0, _, h => fun _ _ _ _ => by simp [flatB] at h
  | n + 1, d + 1, t, h => by
    intro fuel cs x hx
    have scalar : ∀ {p : PV} {v : Value} {k : Kind}, cs = [v] → kindsAt P (d + 1) t = [k] → wtc k p = true → RV P (Ctx.of w) p v → Fit p → ∃ ps, CellsOk P w (kindsAt P (d + 1) t) cs ps := by
      intro p v k hc hk hw hr hf
      subst hc
      rw [hk]
      exact ⟨[p], rfl, by simp [wtcs, hw], fun j q u h1 h2 => by
        match j with
        | 0 => simp at h1 h2; subst h1; subst h2; exact hr
        | j + 1 => simp at h1
        , fun q hq => (by simp at hq; subst hq; exact hf)⟩
    unfold flatB at h
    split at h
    · rename_i k hu
      obtain ⟨n, hc, hwf⟩ := trod_int1 hu hx
      exact scalar (k := .int k) hc (by simp [kindsAt, hu]) (by simp [wtc]) .val (.int hwf)
    · rename_i hu
      obtain ⟨b, hc⟩ := trod_bool1 hu hx
      exact scalar (k := .bool) hc (by simp [kindsAt, hu]) rfl .val .bool
    · rename_i hu
      obtain ⟨b, hc, hs⟩ := trod_string1 hu hx
      exact scalar (k := .str) hc (by simp [kindsAt, hu]) rfl .val (.str hs)
    · rename_i e hu
      simp only [Bool.and_eq_true, decide_eq_true_eq, beq_iff_eq] at h
      obtain ⟨⟨he, hpos⟩, hlen⟩ := h
      have hk : kindsAt P (d + 1) t = [.sl e] := by simp [kindsAt, hu]
      rcases DataW.trod_slice hu hx with ⟨rfl, _⟩ | ⟨a, len, cap, elems, rest, m, _, rfl, _, _, hl, hm, hlen2, hel, _, _⟩
      · refine scalar rfl hk (p := .lst false e []) (by simp [wtc]) ?_ (.lst (Nat.zero_le _) fun e' he' => by cases he')
        exact .lst (es := []) 0 0 (fun _ _ => undef) (Nat.le_refl _) (fun h => by cases h) (fun h => by simp at h) (fun x e' j p h => by simp at h) (fun x e' j p h => by simp at h) (fun e' h => by cases h)
      · -- the elements
        have one1 : isAggT P e = false → P.cellsOf e = 1 := by
          intro ha
          have : ∀ D, flatB P n 12 e = true → isAggT P e = false → (kindsAt P 12 e).length = D → D = 1 := by
            intro D hf ha hD
            cases n with
            | zero => simp [flatB] at hf
            | succ n' =>
              unfold flatB at hf
              unfold isAggT at ha
              split at hf <;> rename_i hu2 <;> simp_all [kindsAt]
          exact this _ he ha (by rw [← hlen]; rfl)
        have each : ∀ i, i < len → ∃ (cs' : List Value) (ps : List PV), w.cells? 0 (a.add (i * P.cellsOf e)) (P.cellsOf e) = some cs' ∧ CellsOk P w (kindsAt P 12 e) cs' ps := by
          intro i hi
          have h1 := hel i hi
          have h2 : elems[i]? = some (elems[i]'(by omega)) := List.getElem?_eq_getElem _
          rw [h2] at h1
          obtain ⟨cs', g1, g2⟩ := Option.bind_eq_some_iff.1 h1
          obtain ⟨ps, g3⟩ := trod_cells n 12 e he _ _ _ g2
          exact ⟨cs', ps, g1, g3⟩
        have pick : ∃ (F : Nat → List Value) (G : Nat → List PV), ∀ i, i < len → w.cells? 0 (a.add (i * P.cellsOf e)) (P.cellsOf e) = some (F i) ∧ CellsOk P w (kindsAt P 12 e) (F i) (G i) := by
          have : ∀ i, ∃ y : List Value × List PV, i < len → w.cells? 0 (a.add (i * P.cellsOf e)) (P.cellsOf e) = some y.1 ∧ CellsOk P w (kindsAt P 12 e) y.1 y.2 := by
            intro i
            by_cases hi : i < len
            · obtain ⟨c, p, g1, g2⟩ := each i hi; exact ⟨(c, p), fun _ => ⟨g1, g2⟩⟩
            · exact ⟨([], []), fun h => absurd h hi⟩
          obtain ⟨f, hf⟩ := Classical.axiomOfChoice this
          exact ⟨fun i => (f i).1, fun i => (f i).2, hf⟩
        obtain ⟨F, G, hFG⟩ := pick
        have hcells : ∀ i, i < len → (mkE P e (G i)).cells = G i := fun i hi => mkE_cells (hFG i hi).2.2.1 hlen one1
        have hget : ∀ (i : Nat) q, ((List.range len).map fun i => mkE P e (G i))[i]? = some q → i < len ∧ q = mkE P e (G i) := by
          intro i q hq
          simp only [List.getElem?_map, Option.map_eq_some_iff] at hq
          obtain ⟨j, hj, rfl⟩ := hq
          have hjl : i < len := by
            rcases Nat.lt_or_ge i len with h | h
            · exact h
            · rw [List.getElem?_eq_none (by simpa using h)] at hj; cases hj
          rw [List.getElem?_range hjl] at hj
          cases hj
          exact ⟨hjl, rfl⟩
        have hspot : 0 < len → a.spot = none := by
          intro h0
          obtain ⟨g1, g2⟩ := hFG 0 h0
          obtain ⟨q1, q2⟩ := cells?_get g1
          have hc0 : (F 0)[0]? = some ((F 0)[0]'(by omega)) := List.getElem?_eq_getElem _
          have hz := q2 0 _ hc0
          rw [Nat.zero_mul, show (a.add 0).add 0 = a from rfl] at hz
          exact World.cell?_spot hz
        have hcell : ∀ (i x : Nat) v, i < len → (F i)[x]? = some v → w.cell? ⟨a.block, a.off + i * P.cellsOf e + x, none⟩ = some v := by
          intro i x v hi hv
          have hs := hspot (by omega)
          have := (cells?_get (hFG i hi).1).2 x v hv
          obtain ⟨b, off, spot⟩ := a
          simp only at hs
          subst hs
          have ha : ((⟨b, off, none⟩ : Addr).add (i * P.cellsOf e)).add x = ⟨b, off + i * P.cellsOf e + x, none⟩ := by
            unfold Addr.add
            split <;> split <;> simp_all
          rw [ha] at this
          exact this
        refine scalar rfl hk (p := .lst false e ((List.range len).map fun i => mkE P e (G i))) (by simp [wtc]) ?_ (.lst (by simp; omega) fun e' he' c hc => ?_)
        · have hRV : RV P (Ctx.of w) (.lst false e ((List.range len).map fun i => mkE P e (G i))) (.slice (some a) ((List.range len).map fun i => mkE P e (G i)).length cap) := by
            refine .lst a.block a.off (fun i j => (F i).getD j undef) (by simpa using hl) (fun h => by cases h) (fun h0 => ?_) (fun i q j p hq hj => ?_) (fun i q j p hq hj => ?_) (fun q hq => ?_)
            · have h0' : 0 < len := by simpa using h0
              have hs := hspot h0'
              refine ⟨by obtain ⟨b, off, spot⟩ := a; simp only at hs; subst hs; rfl, of_ban w _, ?_⟩
              obtain ⟨g1, g2⟩ := hFG 0 h0'
              have hc0 : (F 0)[0]? = some ((F 0)[0]'(by rw [(cells?_get g1).1]; omega)) := List.getElem?_eq_getElem _
              have := hcell 0 0 _ h0' hc0
              simp only [World.cell?] at this
              split at this
              · rename_i hb; exact (Array.getElem?_eq_some_iff.1 hb).1
              · cases this
            · obtain ⟨hi, rfl⟩ := hget i q hq
              rw [hcells i hi] at hj
              have hjl : j < (F i).length := by rw [← (hFG i hi).2.1]; exact (List.getElem?_eq_some_iff.1 hj).1
              have hv : (F i)[j]? = some ((F i)[j]) := List.getElem?_eq_getElem hjl
              show w.cell? _ = _
              rw [hcell i j _ hi hv]
              simp [List.getD, hv]
            · obtain ⟨hi, rfl⟩ := hget i q hq
              rw [hcells i hi] at hj
              have hjl : j < (F i).length := by rw [← (hFG i hi).2.1]; exact (List.getElem?_eq_some_iff.1 hj).1
              have hv : (F i)[j]? = some ((F i)[j]) := List.getElem?_eq_getElem hjl
              have := (hFG i hi).2.2.2.1 j p _ hj hv
              simpa [List.getD, hv] using this
            · obtain ⟨i, hiq⟩ := List.getElem?_of_mem hq
              obtain ⟨hi, rfl⟩ := hget i q hiq
              simp only [wt, Bool.and_eq_true, beq_iff_eq]
              exact ⟨by rw [hcells i hi]; exact (hFG i hi).2.2.1, hlen⟩
          simpa using hRV
        · obtain ⟨i, hiq⟩ := List.getElem?_of_mem he'
          obtain ⟨hi, rfl⟩ := hget i e' hiq
          rw [hcells i hi] at hc
          exact (hFG i hi).2.2.2.2 c hc
    · rename_i fs hu
      simp only [Bool.and_eq_true, List.all_eq_true] at h
      obtain ⟨xs, m, _, _, hl, hxs, hf⟩ := DataW.trod_struct hu hx
      have := segs_ok (P := P) (w := w) (cs := cs) (fs.toList.map fun f => (f.offset, P.cellsOf f.type, kindsAt P d f.type)) 0 (by rw [hl]; exact h.2) fun y hy => ?_
      · obtain ⟨ps, hp⟩ := this
        refine ⟨ps, ?_⟩
        have hk : kindsAt P (d + 1) t = (fs.toList.map fun f => (f.offset, P.cellsOf f.type, kindsAt P d f.type)).flatMap fun x => x.2.2 := by
          simp only [kindsAt, hu, List.flatMap_map]
        rw [hk]
        simpa using hp
      · simp only [List.mem_map] at hy
        obtain ⟨f, hfm, rfl⟩ := hy
        obtain ⟨i, hi⟩ := List.getElem?_of_mem hfm
        have hfi : fs[i]? = some f := by simpa using hi
        have h1 := hf i f hfi
        have hil : i < xs.length := by rw [hxs]; exact (Array.getElem?_eq_some_iff.1 hfi).1
        rw [List.getElem?_eq_getElem hil] at h1
        exact trod_cells n d f.type (h.1 f hfm) _ _ _ h1
    · rename_i m e hu
      simp only [Bool.and_eq_true] at h
      obtain ⟨xs, mm, _, _, hl, hxs, hf⟩ := DataW.trod_array hu hx
      have := segs_ok (P := P) (w := w) (cs := cs) ((List.range m).map fun i => (i * P.cellsOf e, P.cellsOf e, kindsAt P d e)) 0 (by rw [hl]; exact h.2) fun y hy => ?_
      · obtain ⟨ps, hp⟩ := this
        refine ⟨ps, ?_⟩
        have hk : kindsAt P (d + 1) t = ((List.range m).map fun i => (i * P.cellsOf e, P.cellsOf e, kindsAt P d e)).flatMap fun x => x.2.2 := by
          simp only [kindsAt, hu, List.flatMap_map]
          rw [List.flatten_eq_flatMap]
          clear hp hf hxs hx
          have : ∀ (l : List Nat) (k : List Kind), (List.replicate l.length k).flatMap id = l.flatMap fun _ => k := by
            intro l k
            induction l with
            | nil => rfl
            | cons a l ih => simp only [List.length_cons, List.replicate_succ, List.flatMap_cons, id, ih]
          have h2 := this (List.range m) (kindsAt P d e)
          rwa [List.length_range] at h2
        rw [hk]
        simpa using hp
      · simp only [List.mem_map, List.mem_range] at hy
        obtain ⟨i, hi, rfl⟩ := hy
        have h1 := hf i hi
        rw [List.getElem?_eq_getElem (by rw [hxs]; exact hi)] at h1
        exact trod_cells n d e h.1 _ _ _ h1
    · cases h
end
section
variable {H : Type} {enc : TypeId × Value → H} {P : Program} {w : World} {sp : Nat → Bool} {held : Bool} {base : Nat}
theorem arg_rv {t : TypeId} {v : Value} {d : DataW H} {p : List MemPlace} (hval : Value.okWide P w .any base t v) (h : DataW.Trod enc P w 0 sp held t v d p) (hf : flatB P 20 12 t = true) :
    ∃ ps, wtcs (kinds P t) ps = true ∧ (∀ p, p ∈ ps → Fit p) ∧ RV P (Ctx.of w) (mkE P t ps) v := by
  have hd := h
  obtain ⟨fuel, hx⟩ := h
  obtain ⟨ps, h1, h2, h3, h4⟩ := trod_cells 20 12 t hf _ _ _ hx
  refine ⟨ps, h2, h4, ?_⟩
  have scalar : v.cells.toList = [v] → isAggT P t = false → RV P (Ctx.of w) (mkE P t ps) v := by
    intro hc ha
    rw [hc] at h1 h3
    match ps, h1 with
    | [q], _ =>
      have := h3 0 q v rfl rfl
      simpa [mkE, ha] using this
  unfold flatB at hf
  split at hf
  · rename_i k hu
    obtain ⟨n, rfl, _⟩ := open_int hu hval hd
    exact scalar rfl (by simp [isAggT, hu])
  · rename_i hu
    obtain ⟨b, rfl, _⟩ := open_bool hu hval hd
    exact scalar rfl (by simp [isAggT, hu])
  · rename_i hu
    obtain ⟨b, rfl⟩ := okWide_string hu hval
    exact scalar rfl (by simp [isAggT, hu])
  · rename_i e hu
    obtain ⟨a, len, cap, rfl⟩ := okWide_slice hu hval
    exact scalar rfl (by simp [isAggT, hu])
  · rename_i fs hu
    obtain ⟨cs, rfl, hl⟩ := okWide_struct hu hval
    have ha : isAggT P t = true := by simp [isAggT, hu]
    unfold mkE
    rw [if_pos ha]
    exact .agg (by simpa [Value.cells] using h1.symm) fun j c u g1 g2 => h3 j c u g1 (by simpa [Value.cells] using g2)
  · rename_i m e hu
    unfold Value.okWide at hval
    rw [hu] at hval
    obtain ⟨cs, rfl, hl, _⟩ := hval
    have ha : isAggT P t = true := by simp [isAggT, hu]
    unfold mkE
    rw [if_pos ha]
    exact .agg (by simpa [Value.cells] using h1.symm) fun j c u g1 g2 => h3 j c u g1 (by simpa [Value.cells] using g2)
  · cases hf
end
theorem Same.below {w w' : World} (h : Same w w') : Below w.heap.size w w' := ⟨h.os, h.tape, h.output, h.size, h.block⟩
theorem law_calls {P : Program} {k : FuncId} {args : List PV} {Vs : Array Value} {w : World} (h : PCall P k args (.val (.bool true))) (hv : Cs P (Ctx.of w) args Vs) (hg : Glb P (Ctx.of w) := by exact glb_none (by decide +kernel)) : Calls P k Vs w fun e w' => e = .returned (.bool true) ∧ Below w.heap.size w w' := by
  refine (h (Ctx.of w) (of_rh P w hg) Vs hv).mono ?_
  rintro e w' ⟨V, rfl, hs, hrv⟩
  cases hrv
  exact ⟨rfl, hs.below⟩
end Go.Hx
