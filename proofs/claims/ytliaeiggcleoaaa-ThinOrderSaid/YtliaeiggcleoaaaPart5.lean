/- Hx: maps: what is in them, look-ups, updates, new maps, their length. -/
import Derived.Test.YtliaeiggcleoaaaPart4
import Derived.MapKept
import Derived.WideKeyRuns
import Derived.Shelf.SortM.Plain
import Derived.Shelf.SortM.SortNone
namespace Go.Hx
open Go.MapKept

def ceq : PV → PV → Bool
  | .val (.int _ a), .val (.int _ b) => a == b
  | .val (.bool a), .val (.bool b) => a == b
  | .val (.string a), .val (.string b) => a.toList == b.toList
  | _, _ => false
def leqC : List PV → List PV → Bool
  | [], [] => true
  | a :: ags, b :: bs => ceq a b && leqC ags bs
  | _, _ => false
def keq (a b : PV) : Bool := leqC a.cells b.cells
def mhas : List (PV × PV) → PV → Bool
  | [], _ => false
  | (a, _) :: D, k => keq k a || mhas D k
def mget (z : PV) : List (PV × PV) → PV → PV
  | [], _ => z
  | (a, v) :: D, k => bif keq k a then v else mget z D k
def mput : List (PV × PV) → PV → PV → List (PV × PV)
  | [], k, v => [(k, v)]
  | (a, w) :: D, k, v => bif keq k a then (k, v) :: D else (a, w) :: mput D k v
def midx : List (PV × PV) → PV → Option Nat
  | [], _ => none
  | (a, _) :: D, k => bif keq k a then some 0 else (midx D k).map (· + 1)

def sc : Value → Bool
  | .int _ _ | .bool _ | .string _ => true
  | _ => false
theorem wtc_cell {k : Kind} {p : PV} (h : wtc k p = true) (hp : p.flat = true) : ∃ v, p = .val v ∧ sc v = true := by
  unfold wtc at h
  split at h
  · exact ⟨_, rfl, rfl⟩
  · exact ⟨_, rfl, rfl⟩
  · exact ⟨_, rfl, rfl⟩
  · simp [PV.flat] at hp
  · cases h
theorem wtcs_cells : ∀ {ks : List Kind} {ps : List PV}, wtcs ks ps = true → (∀ p ∈ ps, p.flat = true) → ∀ p ∈ ps, ∃ v, p = .val v ∧ sc v = true
  | [], [], _, _, p, hp => by cases hp
  | [], _ :: _, h, _, _, _ => by simp [wtcs] at h
  | _ :: _, [], h, _, _, _ => by simp [wtcs] at h
  | k :: ks, q :: ps, h, hf, p, hp => by
    simp only [wtcs, Bool.and_eq_true] at h
    rcases List.mem_cons.1 hp with rfl | hp
    · exact wtc_cell h.1 (hf _ (List.mem_cons_self ..))
    · exact wtcs_cells h.2 (fun x hx => hf x (List.mem_cons_of_mem _ hx)) p hp
theorem mv_cells {P : Program} {T : TypeId} {p : PV} (h : mvOk P T p = true) : ∀ c ∈ p.cells, ∃ v, c = .val v ∧ sc v = true := by
  simp only [mvOk, wt, Bool.and_eq_true, beq_iff_eq] at h
  obtain ⟨⟨hf, hw, _⟩, _⟩ := h
  refine wtcs_cells hw fun c hc => ?_
  unfold PV.cells at hc
  split at hc
  · simp only [PV.flat, List.all_eq_true] at hf
    have := hf c hc
    split at this
    · rfl
    · cases this
  · obtain ⟨x, _, rfl⟩ := List.mem_map.1 hc; rfl
  · rw [List.mem_singleton] at hc; rw [hc]; exact hf
theorem mv_val {P : Program} {C : Ctx} {T : TypeId} {p : PV} {V : Value} (h : mvOk P T p = true) (hv : RV P C p V) :
    V.cells.toList.map PV.val = p.cells ∧ (if isAggT P T then V = .agg V.cells else V.cells = #[V]) ∧ ∀ v ∈ V.cells.toList, sc v = true := by
  have hc := mv_cells h
  have hag : p.isAgg = isAggT P T := by simp only [mvOk, Bool.and_eq_true, beq_iff_eq] at h; exact h.2
  have hflat := flat_of_mv h
  cases hv with
  | val =>
    cases V with
    | agg a =>
      have e : isAggT P T = true := by rw [← hag]; rfl
      rw [if_pos e]
      refine ⟨by simp [Value.cells, PV.cells], rfl, fun v hv => ?_⟩
      obtain ⟨u, hu, hs⟩ := hc (.val v) (by simp only [PV.cells]; exact List.mem_map.2 ⟨v, by simpa [Value.cells] using hv, rfl⟩)
      cases hu; exact hs
    | _ =>
      have e : isAggT P T = false := by rw [← hag]; rfl
      rw [if_neg (by simp [e])]
      refine ⟨by simp [Value.cells, PV.cells], rfl, fun v hv => ?_⟩
      obtain ⟨u, hu, hs⟩ := hc _ (by simp only [PV.cells]; exact List.mem_singleton.2 rfl)
      cases hu
      simp only [Value.cells, List.mem_singleton] at hv
      rw [hv]; exact hs
  | agg hs hh =>
    rename_i cs a
    have e : isAggT P T = true := by rw [← hag]; rfl
    rw [if_pos e]
    have key : ∀ (j : Nat) v, a[j]? = some v → cs[j]? = some (.val v) ∧ sc v = true := fun j v hv => by
      have hj : j < cs.length := by rw [← hs]; exact (Array.getElem?_eq_some_iff.1 hv).1
      have h1 : cs[j]? = some cs[j] := List.getElem?_eq_getElem hj
      obtain ⟨u, hu, hsc⟩ := hc cs[j] (by simp only [PV.cells]; exact List.getElem_mem hj)
      have := hh j _ _ h1 hv
      rw [hu] at this h1
      cases this
      exact ⟨h1, hsc⟩
    refine ⟨?_, rfl, fun v hv => ?_⟩
    · simp only [Value.cells, PV.cells]
      refine List.ext_getElem? fun j => ?_
      rw [List.getElem?_map, Array.getElem?_toList]
      cases hj : a[j]? with
      | none => rw [Option.map_none, List.getElem?_eq_none (by rw [← hs]; exact Array.getElem?_eq_none_iff.1 hj)]
      | some v => rw [Option.map_some, (key j v hj).1]
    · simp only [Value.cells] at hv
      obtain ⟨j, hj⟩ := List.getElem?_of_mem hv
      exact (key j v (by rw [Array.getElem?_toList] at hj; exact hj)).2
  | _ => simp [PV.flat] at hflat
theorem mv_agg {P : Program} {C : Ctx} {T : TypeId} {p : PV} {V : Value} (h : mvOk P T p = true) (hv : RV P C p V) (ha : isAggT P T = true) : V.cells.toList.map PV.val = p.cells ∧ V = .agg V.cells := by
  obtain ⟨a1, a2, _⟩ := mv_val h hv
  rw [if_pos ha] at a2
  exact ⟨a1, a2⟩
theorem mv_inj {P : Program} {C : Ctx} {T : TypeId} {p q : PV} {V U : Value} (h : mvOk P T p = true) (k : mvOk P T q = true) (hv : RV P C p V) (hu : RV P C q U) (e : p.cells = q.cells) : V = U := by
  obtain ⟨a1, a2, _⟩ := mv_val h hv
  obtain ⟨b1, b2, _⟩ := mv_val k hu
  have : V.cells.toList = U.cells.toList := List.map_inj_right (fun x y hxy => by cases hxy; rfl) |>.1 (a1.trans (e.trans b1.symm))
  have hc : V.cells = U.cells := Array.ext' this
  by_cases hag : isAggT P T = true
  · rw [if_pos hag] at a2 b2; rw [a2, b2, hc]
  · rw [if_neg hag] at a2 b2
    rw [a2, b2] at hc
    simpa using hc
theorem ceq_eq {k : Kind} {a b : PV} (ha : wtc k a = true) (hb : wtc k b = true) (h : ceq a b = true) : a = b := by
  unfold ceq at h
  split at h
  · rename_i k1 x k2 y
    unfold wtc at ha hb
    cases k <;> simp at ha hb
    subst ha; subst hb
    simp only [beq_iff_eq] at h; rw [h]
  · simp only [beq_iff_eq] at h; rw [h]
  · rename_i x y
    simp only [beq_iff_eq] at h
    rw [ByteArray.toList_eq, ByteArray.toList_eq] at h
    rw [show x = y from ByteArray.ext (Array.ext' h)]
  · cases h
theorem leqC_eq : ∀ {ks : List Kind} {ags bs : List PV}, wtcs ks ags = true → wtcs ks bs = true → leqC ags bs = true → ags = bs
  | [], [], [], _, _, _ => rfl
  | [], _ :: _, _, h, _, _ => by simp [wtcs] at h
  | [], [], _ :: _, _, h, _ => by simp [wtcs] at h
  | _ :: _, [], _, h, _, _ => by simp [wtcs] at h
  | _ :: _, _ :: _, [], _, h, _ => by simp [wtcs] at h
  | k :: ks, a :: ags, b :: bs, h1, h2, h3 => by
    simp only [wtcs, leqC, Bool.and_eq_true] at h1 h2 h3
    rw [ceq_eq h1.1 h2.1 h3.1, leqC_eq h1.2 h2.2 h3.2]
theorem mv_wt {P : Program} {T : TypeId} {p : PV} (h : mvOk P T p = true) : wtcs (kinds P T) p.cells = true ∧ (kinds P T).length = P.cellsOf T := by
  simp only [mvOk, wt, Bool.and_eq_true, beq_iff_eq] at h; exact h.1.2
theorem keq_eq {P : Program} {T : TypeId} {p q : PV} (h : mvOk P T p = true) (k : mvOk P T q = true) (e : keq p q = true) : p.cells = q.cells := leqC_eq (mv_wt h).1 (mv_wt k).1 e
theorem sameBits_sc {v : Value} (n : Nat) (h : sc v = true) : Instr.sameBits n v v = true := by
  cases v <;> simp [sc] at h <;> cases n <;> simp [Instr.sameBits, beq_toListBytes]
theorem run_stays {P : Program} {C : Ctx} {T : TypeId} {p : PV} {V : Value} (h : mvOk P T p = true) (hv : RV P C p V) (w : World) : (Instr.keyThatStays V V).run P w = .ok V w := by
  obtain ⟨a1, a2, a3⟩ := mv_val h hv
  have : Instr.sameBits 10000 V V = true := by
    by_cases hag : isAggT P T = true
    · rw [if_pos hag] at a2
      rw [a2]
      show ((V.cells.size == V.cells.size) && (V.cells.toList.zip V.cells.toList).all fun x => Instr.sameBits 9999 x.1 x.2) = true
      rw [Bool.and_eq_true]
      refine ⟨by simp, List.all_eq_true.2 fun x hx => ?_⟩
      rw [List.zip_eq_zipWith, List.zipWith_self] at hx
      obtain ⟨y, hy, rfl⟩ := List.mem_map.1 hx
      exact sameBits_sc _ (a3 y hy)
    · rw [if_neg hag] at a2
      exact sameBits_sc _ (a3 V (by rw [a2]; simp))
  unfold Instr.keyThatStays
  rw [if_pos this]
  rfl

structure KeyOK (P : Program) (K : TypeId) : Prop where
  check : ∀ (C : Ctx) (p : PV) (V : Value), mvOk P K p = true → RV P C p V → ∀ (em : Bool) (w : World), (Instr.checkKey em 10000 K V).run P w = .ok () w
  find : ∀ (C : Ctx) (p : PV) (V : Value), mvOk P K p = true → RV P C p V → ∀ (D : List (PV × PV)) (es : List MapEntry), es.length = D.length → (∀ x ∈ D, mvOk P K x.1 = true) →
    (∀ (i : Nat) k v e, D[i]? = some (k, v) → es[i]? = some e → RV P C k e.key) → ∀ w, (Instr.findKey K V es).run P w = .ok ((midx D p).bind fun i => es[i]?.map fun e => (i, e.val)) w
theorem map_bind_succ {α : Type} (m : Option Nat) (e : MapEntry) (es : List MapEntry) (f : Nat → MapEntry → α) : ((m.map (· + 1)).bind fun j => ((e :: es)[j]?).map fun x => f j x) = m.bind fun j => (es[j]?).map fun x => f (j + 1) x := by
  cases m <;> simp
theorem asking_run {P : Program} {C : Ctx} {K : TypeId} {p : PV} {V : Value} {w : World} (he : ∀ q U, mvOk P K q = true → RV P C q U → (Op.equal K V U).run P w = .ok (keq p q) w) : ∀ (D : List (PV × PV)) (es : List MapEntry) (i : Nat), es.length = D.length →
    (∀ x ∈ D, mvOk P K x.1 = true) → (∀ (i : Nat) k v e, D[i]? = some (k, v) → es[i]? = some e → RV P C k e.key) → (Instr.findAsking K V es i).run P w = .ok ((midx D p).bind fun j => es[j]?.map fun e => (i + j, e.val)) w
  | [], [], i, _, _, _ => by simp [Instr.findAsking, midx]
  | [], _ :: _, _, h, _, _ => by simp at h
  | _ :: _, [], _, h, _, _ => by simp at h
  | (a, v) :: D, e :: es, i, hl, hk, hr => by
    have h1 := he a e.key (hk (a, v) (List.mem_cons_self ..)) (hr 0 a v e rfl rfl)
    have ih := asking_run he D es (i + 1) (by simpa using hl) (fun x hx => hk x (List.mem_cons_of_mem _ hx)) (fun j k v e g1 g2 => hr (j + 1) k v e (by simpa using g1) (by simpa using g2))
    simp only [Instr.findAsking, Sem.run_bind, h1, Result.andThen_ok]
    unfold midx
    cases hq : keq p a with
    | true => simp
    | false =>
      simp only [Bool.false_eq_true, if_false, cond_false, ih, map_bind_succ (f := fun j x => (i + j, x.val))]
      congr 2
      funext j
      rw [show i + 1 + j = i + (j + 1) by omega]
theorem now_run {P : Program} {C : Ctx} {K : TypeId} {d : TypeDesc} {p : PV} {V : Value} (he : ∀ q U, mvOk P K q = true → RV P C q U → Instr.sameNow d V U = some (keq p q)) : ∀ (D : List (PV × PV)) (es : List MapEntry) (i : Nat), es.length = D.length →
    (∀ x ∈ D, mvOk P K x.1 = true) → (∀ (i : Nat) k v e, D[i]? = some (k, v) → es[i]? = some e → RV P C k e.key) → Instr.findNow d V es i = some ((midx D p).bind fun j => es[j]?.map fun e => (i + j, e.val))
  | [], [], i, _, _, _ => by simp [Instr.findNow, midx]
  | [], _ :: _, _, h, _, _ => by simp at h
  | _ :: _, [], _, h, _, _ => by simp at h
  | (a, v) :: D, e :: es, i, hl, hk, hr => by
    have h1 := he a e.key (hk (a, v) (List.mem_cons_self ..)) (hr 0 a v e rfl rfl)
    have ih := now_run he D es (i + 1) (by simpa using hl) (fun x hx => hk x (List.mem_cons_of_mem _ hx)) (fun j k v e g1 g2 => hr (j + 1) k v e (by simpa using g1) (by simpa using g2))
    simp only [Instr.findNow, h1]
    unfold midx
    cases hq : keq p a with
    | true => simp
    | false =>
      simp only [cond_false, ih, map_bind_succ (f := fun j x => (i + j, x.val))]
      congr 2
      funext j
      rw [show i + 1 + j = i + (j + 1) by omega]
theorem KeyOK.wide {P : Program} {K : TypeId} (hw : isAggT P K = true) (hc : ∀ (C : Ctx) (p : PV) (V : Value), mvOk P K p = true → RV P C p V → ∀ (em : Bool) (w : World), (Instr.checkKey em 10000 K V).run P w = .ok () w)
    (he : ∀ (xs ys : List PV), wtcs (kinds P K) xs = true → wtcs (kinds P K) ys = true → eqAt P 40 K xs ys = some (leqC xs ys)) : KeyOK P K where
  check := hc
  find := fun C p V hp hv D es hl hk hr w => by
    have hwide : (match P.underlying K with | some (.array _ _) | some (.struct _) => true | _ => false) = true := by
      unfold isAggT at hw; revert hw; cases P.underlying K with
      | none => simp
      | some d => cases d <;> simp
    rw [run_findKey_eq w hwide]
    have := asking_run (P := P) (C := C) (K := K) (p := p) (V := V) (w := w) (fun q U hq hu => ?_) D es 0 hl hk hr
    · rw [this]; simp only [Nat.zero_add]
    · obtain ⟨a1, a2, _⟩ := mv_val hp hv
      obtain ⟨b1, b2, _⟩ := mv_val hq hu
      rw [if_pos hw] at a2 b2
      have cs : ∀ {p : PV} {V : Value}, V.cells.toList.map PV.val = p.cells → Cs P C p.cells V.cells := fun {p V} h => by
        rw [← h]
        refine ⟨by simp, fun j c v h1 h2 => ?_⟩
        rw [List.getElem?_map, Array.getElem?_toList, h2] at h1
        cases h1; exact .val
      have hs := eqAt_sound (P := P) 40 (he p.cells q.cells (mv_wt hp).1 (mv_wt hq).1) _ _ (cs a1) (cs b1) 10000 w (by decide)
      unfold vOf at hs
      rw [if_pos hw, if_pos hw, ← a2, ← b2] at hs
      exact hs
theorem kinds_int {P : Program} {K : TypeId} {q : IntKind} (hu : P.underlying K = some (.int q)) : kinds P K = [.int q] := by unfold kinds kindsAt; rw [hu]
theorem mv_int {P : Program} {K : TypeId} {q : IntKind} (hu : P.underlying K = some (.int q)) {C : Ctx} {p : PV} {V : Value} (h : mvOk P K p = true) (hv : RV P C p V) : ∃ n, p.cells = [.val (.int q n)] ∧ V = .int q n := by
  have hw := (mv_wt h).1
  rw [kinds_int hu] at hw
  obtain ⟨a1, a2, _⟩ := mv_val h hv
  rw [if_neg (by simp [isAggT, hu])] at a2
  rw [a2] at a1
  have e : p.cells = [.val V] := by rw [← a1]; rfl
  rw [e] at hw
  simp only [wtcs, Bool.and_true] at hw
  unfold wtc at hw
  cases V <;> simp at hw
  subst hw
  exact ⟨_, e, rfl⟩
theorem KeyOK.int {P : Program} {K : TypeId} {q : IntKind} (hu : P.underlying K = some (.int q)) : KeyOK P K where
  check := fun C p V hp hv em w => by
    obtain ⟨n, _, rfl⟩ := mv_int hu hp hv
    exact run_checkKey hu (by simp [IsKey]) em 9999
  find := fun C p V hp hv D es hl hk hr w => by
    have := now_run (P := P) (C := C) (K := K) (d := .int q) (p := p) (V := V) (fun q' U hq hu' => ?_) D es 0 hl hk hr
    · rw [run_findKey hu this]; simp only [Nat.zero_add]
    · obtain ⟨n, e1, rfl⟩ := mv_int hu hp hv
      obtain ⟨m, e2, rfl⟩ := mv_int hu hq hu'
      unfold keq
      rw [e1, e2]
      simp [Instr.sameNow, leqC, ceq]

theorem mhas_idx : ∀ (D : List (PV × PV)) (k : PV), mhas D k = (midx D k).isSome
  | [], _ => rfl
  | (a, v) :: D, k => by
    unfold mhas midx
    cases keq k a with
    | true => rfl
    | false => rw [Bool.false_or, cond_false, mhas_idx D k]; cases midx D k <;> rfl
theorem midx_some : ∀ {D : List (PV × PV)} {k : PV} {j : Nat}, midx D k = some j → ∃ a v, D[j]? = some (a, v) ∧ keq k a = true ∧ (∀ z, mget z D k = v) ∧ ∀ w, mput D k w = D.set j (k, w)
  | [], _, _, h => by simp [midx] at h
  | (a, v) :: D, k, j, h => by
    unfold midx at h
    cases hq : keq k a with
    | true =>
      rw [hq] at h
      cases h
      exact ⟨a, v, rfl, hq, fun z => by simp [mget, hq], fun w => by simp [mput, hq]⟩
    | false =>
      rw [hq, cond_false] at h
      obtain ⟨i, hi, rfl⟩ := Option.map_eq_some_iff.1 h
      obtain ⟨b, u, h1, h2, h3, h4⟩ := midx_some hi
      exact ⟨b, u, by simpa using h1, h2, fun z => by simp [mget, hq, h3 z], fun w => by simp [mput, hq, h4 w]⟩
theorem midx_none : ∀ {D : List (PV × PV)} {k : PV}, midx D k = none → (∀ z, mget z D k = z) ∧ ∀ w, mput D k w = D ++ [(k, w)]
  | [], _, _ => ⟨fun _ => rfl, fun _ => rfl⟩
  | (a, v) :: D, k, h => by
    unfold midx at h
    cases hq : keq k a with
    | true => rw [hq] at h; cases h
    | false =>
      rw [hq, cond_false] at h
      obtain ⟨h1, h2⟩ := midx_none (Option.map_eq_none_iff.1 h)
      exact ⟨fun z => by simp [mget, hq, h1 z], fun w => by simp [mput, hq, h2 w]⟩
def expT (P : Program) (T : TypeId) (p : PV) : PV := if isAggT P T then .agg ((List.range (P.cellsOf T)).map fun x => expc ((kinds P T).getD x .other) (p.cellAt x)) else expc ((kinds P T).getD 0 .other) (p.cellAt 0)
theorem wtcs_wtc {ks : List Kind} {ps : List PV} (h : wtcs ks ps = true) {j : Nat} {p : PV} (hp : ps[j]? = some p) : wtc (ks.getD j .other) p = true := by
  have hl := wtcs_length h
  have hj : j < ks.length := by rw [← hl]; exact (List.getElem?_eq_some_iff.1 hp).1
  have hk : ks[j]? = some ks[j] := List.getElem?_eq_getElem hj
  have := wtcs_get h hk hp
  rw [List.getD_eq_getElem?_getD, hk]; exact this
theorem expc_val {k : Kind} {v : Value} (h : wtc k (.val v) = true) : expc k (.val v) = .val v := by
  unfold wtc at h
  cases k <;> cases v <;> simp at h <;> simp [expc, PV.getI, PV.getB, PV.getS, h]
theorem RV.expT {P : Program} {C : Ctx} {T : TypeId} {p : PV} {V : Value} (h : mvOk P T p = true) (hv : RV P C p V) : RV P C (expT P T p) V := by
  obtain ⟨a1, a2, _⟩ := mv_val h hv
  obtain ⟨hw, hl⟩ := mv_wt h
  have hcell : ∀ (j : Nat) v, V.cells[j]? = some v → Hx.expc ((kinds P T).getD j .other) (p.cellAt j) = .val v := fun j v hj => by
    have h1 : p.cells[j]? = some (.val v) := by rw [← a1, List.getElem?_map, Array.getElem?_toList, hj]; rfl
    have h2 : p.cellAt j = .val v := by unfold PV.cellAt; rw [List.getD_eq_getElem?_getD, h1]; rfl
    rw [h2]; exact expc_val (wtcs_wtc hw h1)
  unfold Hx.expT
  by_cases hag : isAggT P T = true
  · rw [if_pos hag] at a2 ⊢
    rw [a2]
    have hsz : V.cells.size = P.cellsOf T := by rw [← hl, ← wtcs_length hw, ← a1]; simp
    refine .agg (by simp [hsz]) fun j c v h1 h2 => ?_
    rw [List.getElem?_map] at h1
    obtain ⟨x, hx, rfl⟩ := Option.map_eq_some_iff.1 h1
    have hj : j < V.cells.size := (Array.getElem?_eq_some_iff.1 h2).1
    rw [List.getElem?_range (by rw [← hsz]; exact hj)] at hx
    cases hx
    rw [hcell j v h2]; exact .val
  · rw [if_neg hag] at a2 ⊢
    rw [hcell 0 V (by rw [a2]; rfl)]; exact .val

def mapAt (H : List Row) (i : Nat) : Option (LoopK × TypeId × TypeId × List (PV × PV)) :=
  match H[i]? with
  | some r => match r.live, r.lp with | false, some ⟨k, .map K E D⟩ => some (k, K, E, D) | _, _ => none
  | none => none
theorem mapAt_some {H : List Row} {i : Nat} {k : LoopK} {K E : TypeId} {D : List (PV × PV)} (h : mapAt H i = some (k, K, E, D)) : ∃ r, H[i]? = some r ∧ r.live = false ∧ r.lp = some ⟨k, .map K E D⟩ := by
  unfold mapAt at h
  split at h
  · rename_i r hr
    split at h
    · rename_i hl hp; cases h; exact ⟨r, hr, hl, hp⟩
    · cases h
  · cases h
def k0 : LoopK := ⟨0, [], #[], .skip, .skip⟩
def mapRow (k : LoopK) (K E : TypeId) (D : List (PV × PV)) : Row := { es := [], s := 0, t := 0, bv := true, live := false, lp := some ⟨k, .map K E D⟩ }

theorem map_blk {P : Program} {C : Ctx} (hR : RH P C) {i : Nat} {V : Value} (hv : RV P C (.mp i) V) {k : LoopK} {K E : TypeId} {D : List (PV × PV)} (h : mapAt C.H i = some (k, K, E, D)) : ∃ b, V = .map (some b) ∧ C.ρ i = some b ∧ MapB P C b K E D := by
  obtain ⟨r, h1, h2, h3⟩ := mapAt_some h
  cases hv with
  | mp hi hl hb => exact ⟨_, rfl, hb, (hR.lps i _ r _ hb h1 h3 h2).map K E D rfl⟩

theorem setMap_sound {P : Program} {C : Ctx} (hR : RH P C) {i b : Nat} {k : LoopK} {K E : TypeId} {D D' : List (PV × PV)} (h : mapAt C.H i = some (k, K, E, D)) (hρ : C.ρ i = some b) (hro : C.ro ≤ i) {es es' : Array MapEntry} {c c' : Nat} (hes : C.w.heap[b]? = some (.map es c))
    (hm : ∀ C' : Ctx, C'.w.heap[b]? = some (.map es' c') → MapB P C' b K E D') : Turn P C { C with H := C.H.set i (mapRow k K E D'), w := C.w.putObj b (.map es' c') } (C.H.set i (mapRow k K E D')) := by
  obtain ⟨r, g1, g3, g2⟩ := mapAt_some h
  have hi : i < C.H.length := (List.getElem?_eq_some_iff.1 g1).1
  have hblt : b < C.w.heap.size := hR.lt hρ
  have hb' : ∀ (x : Nat), x ≠ b → (C.w.putObj b (.map es' c')).heap[x]? = C.w.heap[x]? := fun x hx => World.putObj_heap_other hx
  have hrowi : C.row? i = none := by unfold Ctx.row? rowAt; rw [g1]; simp [g3]
  have hrow : ∀ x, rowAt (C.H.set i (mapRow k K E D')) x = C.row? x := by
    intro x
    unfold rowAt
    rw [List.getElem?_set]
    by_cases hx : i = x
    · subst hx
      simp only [if_true, hi, mapRow, Bool.false_eq_true, if_false, hrowi]
    · rw [if_neg hx]; rfl
  have hx : Ext C { C with H := C.H.set i (mapRow k K E D'), w := C.w.putObj b (.map es' c') } := by
    refine ⟨rfl, rfl, rfl, by simp, fun x hx ho => hb' x (fun e => ho ⟨i, hro, e ▸ hρ⟩), fun x c e fr hh => ?_, by simp, fun x r' _ hr => ⟨r', by rw [← hr]; exact (hrow x).symm, rfl, rfl, Nat.le_refl _, fun _ => ⟨rfl, fun _ h => h⟩⟩, fun _ h => .inl h, fun _ h => .inl h, rfl, rfl, fun x hx => ⟨?_, rfl⟩, fun x q info' q1 q2 q3 => ⟨?_, fun _ h => h⟩, fun x rc hh => ?_⟩
    · have hne : x ≠ b := fun e => by subst e; rw [hes] at hh; cases hh
      exact ⟨c, fr, by rw [← hh]; exact hb' x hne, rfl⟩
    · show (C.H.set i _)[x]? = _
      rw [List.getElem?_set, if_neg (by omega)]
    · show ∃ r' st, (C.H.set i _)[x]? = some r' ∧ _
      by_cases hxi : i = x
      · subst hxi
        rw [g1] at q1; cases q1
        rw [g2] at q2; cases q2
        exact ⟨mapRow k K E D', _, by rw [List.getElem?_set, if_pos rfl, if_pos hi], rfl, rfl⟩
      · exact ⟨q, info'.st, by rw [List.getElem?_set, if_neg hxi]; exact q1, q2, q3⟩
    · have hne : x ≠ b := fun e => by subst e; rw [hes] at hh; cases hh
      exact ⟨rc, by rw [← hh]; exact hb' x hne⟩
  refine ⟨rfl, hx, hR.inj, fun x c hx' => ?_, fun x c q q1 q2 => ?_, by simpa using hR.ro, hR.nfo, fun x hx' => by simpa using hR.fol x hx', fun x c q info' q1 q2 q3 q4 => ?_, hR.glb.mono hx⟩
  · rcases hR.dom x c hx' with ⟨q, hq⟩ | ⟨q, info', q1, q2, q3⟩
    · exact .inl ⟨q, by rw [← hq]; exact hrow x⟩
    · obtain ⟨⟨q', st', z1, z2, z3⟩, _⟩ := hx.lp x q info' q1 q2 q3
      exact .inr ⟨q', _, z1, z2, z3⟩
  · have q2' : C.row? x = some q := by rw [← q2]; exact (hrow x).symm
    have hB := hR.blk x c q q1 q2'
    have hne : c ≠ b := fun e => by
      subst e
      obtain ⟨cc, fr, cv, hh, _⟩ := hB.mem
      rw [hes] at hh; cases hh
    exact hB.mono hx (hb' c hne)
  · have hq2 : (C.H.set i (mapRow k K E D'))[x]? = some q := q2
    rw [List.getElem?_set] at hq2
    by_cases hxi : i = x
    · subst hxi
      rw [if_pos rfl, if_pos hi] at hq2
      cases hq2
      cases q3
      have hcb : c = b := Option.some.inj ((show C.ρ i = some c from q1).symm.trans hρ)
      subst hcb
      exact ⟨fun hf => by simp [LSt.isMap] at hf, fun K2 E2 D2 he => by cases he; exact hm _ (World.putObj_heap_same hblt)⟩
    · rw [if_neg hxi] at hq2
      have hL := hR.lps x c q info' q1 hq2 q3 q4
      have hne : c ≠ b := fun e => hxi (hR.inj i x b hρ (e ▸ q1))
      exact hL.mono hx (hb' c hne)

theorem newMap_sound {P : Program} {C : Ctx} (hR : RH P C) (K E : TypeId) :
    Ext C ((C.more (mapRow k0 K E [])).bind C.H.length (.map #[] 0)) ∧ RH P ((C.more (mapRow k0 K E [])).bind C.H.length (.map #[] 0)) ∧ RV P ((C.more (mapRow k0 K E [])).bind C.H.length (.map #[] 0)) (.mp C.H.length) (.map (some C.w.heap.size)) := by
  have hx1 := more_ext hR (mapRow k0 K E [])
  have hR1 := more_rh hR (mapRow k0 K E [])
  have hn : (C.more (mapRow k0 K E [])).ρ C.H.length = none := hR.ρ_none (Nat.le_refl _)
  have hx2 := Ctx.bind_ext (C := C.more (mapRow k0 K E [])) hn hR.ro (.map #[] 0)
  have hrow : (C.H ++ [mapRow k0 K E []])[C.H.length]? = some (mapRow k0 K E []) := by simp
  refine ⟨hx1.trans hx2, ⟨fun x y b hx hy => ?_, fun x b hx => ?_, fun x b r' g1 g2 => ?_, hR1.ro, fun x b hx => ?_, fun b hb => Nat.lt_of_lt_of_le (hR1.fol b hb) hx2.size, fun x b r' info g1 g2 g3 g4 => ?_, hR1.glb.mono hx2⟩, ?_⟩
  · simp only [Ctx.bind] at hx hy
    split at hx <;> split at hy
    · omega
    · cases hx; have := hR1.lt hy; exact absurd this (by simp [Ctx.more])
    · cases hy; have := hR1.lt hx; exact absurd this (by simp [Ctx.more])
    · exact hR1.inj x y b hx hy
  · simp only [Ctx.bind] at hx
    split at hx
    · rename_i e; subst e; exact .inr ⟨_, _, hrow, rfl, rfl⟩
    · exact hR1.dom x b hx
  · simp only [Ctx.bind] at g1
    split at g1
    · rename_i e
      subst e
      have : (C.more (mapRow k0 K E [])).row? C.H.length = none := by unfold Ctx.row? rowAt; rw [show (C.more (mapRow k0 K E [])).H[C.H.length]? = _ from hrow]; rfl
      rw [show (C.more (mapRow k0 K E [])).row? C.H.length = some r' from g2] at this
      cases this
    · have hb := hR1.blk x b r' g1 g2
      exact hb.mono hx2 (Go.heap_alloc_old C.w _ hb.lt)
  · simp only [Ctx.bind] at hx ⊢
    split at hx
    · cases hx; exact fun hf => Nat.lt_irrefl _ (hR.fol _ hf)
    · exact hR1.nfo x b hx
  · simp only [Ctx.bind] at g1
    split at g1
    · rename_i e
      subst e
      cases g1
      have g2' : (C.H ++ [mapRow k0 K E []])[C.H.length]? = some r' := g2
      rw [hrow] at g2'
      cases g2'
      cases g3
      exact ⟨fun hf => by simp [LSt.isMap] at hf, fun K2 E2 D2 he => by
        cases he
        exact ⟨⟨#[], 0, heap_alloc_new C.w _, rfl, rfl, fun i k v e g _ => by simp at g⟩, fun p hp => (by cases hp), fun p hp => (by cases hp)⟩⟩
    · have hL := hR1.lps x b r' info g1 g2 g3 g4
      exact hL.mono hx2 (Go.heap_alloc_old C.w _ hL.lt)
  · exact .mp (List.getElem?_eq_some_iff.1 hrow).1 ⟨_, _, hrow, rfl, rfl⟩ (by simp [Ctx.bind]; rfl)

theorem map_entries {P : Program} {C : Ctx} {b : Nat} {K E : TypeId} {D : List (PV × PV)} {es : Array MapEntry} {c : Nat} (h : MapB P C b K E D) (hes : C.w.heap[b]? = some (.map es c)) :
    es.size = D.length ∧ c = D.length ∧ ∀ (i : Nat) k v e, D[i]? = some (k, v) → es[i]? = some e → e.born = i ∧ RV P C k e.key ∧ RV P C v e.val := by
  obtain ⟨es', c', h1, h2, h3, h4⟩ := h.mem
  rw [hes] at h1; cases h1
  exact ⟨h2, h3, h4⟩
theorem find_map {P : Program} {C : Ctx} {b : Nat} {K E : TypeId} {D : List (PV × PV)} (hK : KeyOK P K) (h : MapB P C b K E D) {p : PV} {V : Value} (hp : mvOk P K p = true) (hv : RV P C p V) {es : Array MapEntry} {c : Nat} (hes : C.w.heap[b]? = some (.map es c)) (w : World) :
    (Instr.findKey K V es.toList).run P w = .ok ((midx D p).bind fun i => es[i]?.map fun e => (i, e.val)) w := by
  obtain ⟨h1, h2, h3⟩ := map_entries h hes
  have := hK.find C p V hp hv D es.toList (by simpa using h1) (fun x hx => h.keys x hx) (fun i k v e g1 g2 => (h3 i k v e g1 (by rw [Array.getElem?_toList] at g2; exact g2)).2.1) w
  simpa only [Array.getElem?_toList] using this
theorem mget_ok {P : Program} {E : TypeId} {D : List (PV × PV)} (hv : ∀ x ∈ D, mvOk P E x.2 = true) {z : PV} (hz : mvOk P E z = true) (k : PV) : mvOk P E (mget z D k) = true := by
  cases hm : midx D k with
  | none => rw [(midx_none hm).1]; exact hz
  | some j =>
    obtain ⟨a, v, h1, _, h3, _⟩ := midx_some hm
    rw [h3]; exact hv _ (List.mem_of_getElem? h1)
def lookQ (P : Program) (ks : List TypeId) (H : List Row) (T : TypeId) (x k : PV) (ok : Bool) : Option PV :=
  match P.underlying T, x with
  | some (.map K E), .mp i =>
    match mapAt H i, zeroQ P E with
    | some (_, K', E', D), some z =>
      if ks.contains K && (K == K') && (E == E') && mvOk P K k && mvOk P E (.val z) then
        some (if ok then .tup [expT P E (mget (.val z) D k), .val (.bool (mhas D k))] else expT P E (mget (.val z) D k)) else none
    | _, _ => none
  | _, _ => none
theorem lookQ_sound {P : Program} {ks : List TypeId} (hks : ∀ K, K ∈ ks → KeyOK P K) {C : Ctx} (hR : RH P C) {T : TypeId} {x k p : PV} {X KV : Value} {ok : Bool} (hx : RV P C x X) (hk : RV P C k KV) (h : lookQ P ks C.H T x k ok = some p) :
    ∃ v, (Instr.lookup T X KV ok).run P C.w = .ok v C.w ∧ RV P C p v := by
  unfold lookQ at h
  split at h
  · rename_i K E i hu
    split at h
    · rename_i kk K' E' D z hm hz
      split at h
      · rename_i hc
        simp only [Bool.and_eq_true, beq_iff_eq, List.contains_eq_mem, decide_eq_true_eq] at hc
        obtain ⟨⟨⟨⟨hc1, rfl⟩, rfl⟩, hmk⟩, hmz⟩ := hc
        have hKO := hks _ hc1
        obtain ⟨b, rfl, hρ, hB⟩ := map_blk hR hx hm
        obtain ⟨es, c, hes, _⟩ := hB.mem
        obtain ⟨h1, h2, h3⟩ := map_entries hB hes
        have hf := find_map hKO hB hmk hk hes C.w
        have hch := hKO.check C k KV hmk hk es.isEmpty C.w
        have key : ∃ v, (Instr.lookup T (.map (some b)) KV ok).run P C.w = .ok (if ok then .tuple #[v, .bool (mhas D k)] else v) C.w ∧ RV P C (mget (.val z) D k) v := by
          cases hi : midx D k with
          | none =>
            refine ⟨z, ?_, by rw [(midx_none hi).1]; exact .val⟩
            rw [hi] at hf
            unfold Instr.lookup
            simp only [Sem.run_bind, run_underlying hu, Result.andThen_ok, MapKept.run_getObj_map hes, Sem.run_pure, hch, hf, Option.bind_none, run_zeroQ hz, mhas_idx, hi, Option.isSome_none]
          | some j =>
            obtain ⟨a, v, g1, _, g3, _⟩ := midx_some hi
            have hj : j < es.size := by rw [h1]; exact (List.getElem?_eq_some_iff.1 g1).1
            have he : es[j]? = some es[j] := Array.getElem?_eq_getElem hj
            refine ⟨es[j].val, ?_, by rw [g3]; exact (h3 j a v _ g1 he).2.2⟩
            rw [hi] at hf
            unfold Instr.lookup
            simp only [Sem.run_bind, run_underlying hu, Result.andThen_ok, MapKept.run_getObj_map hes, Sem.run_pure, hch, hf, Option.bind_some, he, Option.map_some, mhas_idx, hi, Option.isSome_some]
        obtain ⟨v, k1, k2⟩ := key
        refine ⟨_, k1, ?_⟩
        have hE := RV.expT (mget_ok (fun x hx => hB.vals x hx) hmz k) k2
        cases h
        cases ok
        · exact hE
        · refine .tup rfl fun j c u g1 g2 => ?_
          match j with
          | 0 => simp at g1 g2; subst g1; subst g2; exact hE
          | 1 => simp at g1 g2; subst g1; subst g2; exact .val
          | j + 2 => simp at g1
      · cases h
    · cases h
  · cases h
def updQ (P : Program) (ks : List TypeId) (ro : Nat) (H : List Row) (T : TypeId) (x k v : PV) : Option (List Row) :=
  match P.underlying T, x with
  | some (.map K E), .mp i =>
    match mapAt H i with
    | some (kk, K', E', D) => if ks.contains K && (K == K') && (E == E') && mvOk P K k && mvOk P E v && decide (ro ≤ i) then some (H.set i (mapRow kk K E (mput D k v))) else none
    | none => none
  | _, _ => none
theorem updQ_sound {P : Program} {ks : List TypeId} (hks : ∀ K, K ∈ ks → KeyOK P K) {C : Ctx} (hR : RH P C) {T : TypeId} {x k v : PV} {X KV VV : Value} {H' : List Row} (hx : RV P C x X) (hk : RV P C k KV) (hv : RV P C v VV) (h : updQ P ks C.ro C.H T x k v = some H') :
    ∃ C', (Instr.mapUpdate T X KV VV).run P C.w = .ok () C'.w ∧ Turn P C C' H' := by
  unfold updQ at h
  split at h
  · rename_i K E i hu
    split at h
    · rename_i kk K' E' D hm
      split at h
      · rename_i hc
        simp only [Bool.and_eq_true, beq_iff_eq, List.contains_eq_mem, decide_eq_true_eq] at hc
        obtain ⟨⟨⟨⟨⟨hc1, rfl⟩, rfl⟩, hmk⟩, hmv⟩, hro⟩ := hc
        cases h
        have hKO := hks _ hc1
        obtain ⟨b, rfl, hρ, hB⟩ := map_blk hR hx hm
        obtain ⟨es, c, hes, _⟩ := hB.mem
        obtain ⟨h1, h2, h3⟩ := map_entries hB hes
        have hf := find_map hKO hB hmk hk hes C.w
        have hch := hKO.check C k KV hmk hk false C.w
        cases hi : midx D k with
        | none =>
          have hrun : (Instr.mapUpdate T (.map (some b)) KV VV).run P C.w = .ok () (C.w.putObj b (.map (es.push { key := KV, val := VV, born := c }) (c + 1))) := by
            unfold Instr.mapUpdate
            rw [hi] at hf
            simp only [Sem.run_bind, run_underlying hu, Result.andThen_ok, MapKept.run_getObj_map hes, hch, hf, Option.bind_none, run_setObj_map _ hes]
            rfl
          refine ⟨{ C with H := C.H.set i (mapRow kk K E (mput D k v)), w := C.w.putObj b (.map (es.push { key := KV, val := VV, born := c }) (c + 1)) }, hrun, ?_⟩
          rw [(midx_none hi).2]
          refine setMap_sound hR hm hρ hro hes fun C' hh => ⟨⟨_, _, hh, by simp [h1], by simp [h2], fun j a u e g1 g2 => ?_⟩, fun p hp => ?_, fun p hp => ?_⟩
          · rw [List.getElem?_append] at g1
            rw [Array.getElem?_push] at g2
            split at g1
            · rename_i hj
              rw [if_neg (by omega)] at g2
              obtain ⟨q1, q2, q3⟩ := h3 j a u e g1 g2
              exact ⟨q1, q2.flat (flat_of_mv (hB.keys _ (List.mem_of_getElem? g1))), q3.flat (flat_of_mv (hB.vals _ (List.mem_of_getElem? g1)))⟩
            · rename_i hj
              have hj2 : j = D.length := by
                have := (List.getElem?_eq_some_iff.1 g1).1
                simp at this; omega
              subst hj2
              simp only [Nat.sub_self, List.getElem?_cons_zero, Option.some.injEq, Prod.mk.injEq] at g1
              rw [if_pos (by omega)] at g2
              obtain ⟨rfl, rfl⟩ := g1
              cases g2
              exact ⟨h2, hk.flat (flat_of_mv hmk), hv.flat (flat_of_mv hmv)⟩
          · rcases List.mem_append.1 hp with hp | hp
            · exact hB.keys p hp
            · rw [List.mem_singleton] at hp; subst hp; exact hmk
          · rcases List.mem_append.1 hp with hp | hp
            · exact hB.vals p hp
            · rw [List.mem_singleton] at hp; subst hp; exact hmv
        | some j =>
          obtain ⟨a, u0, g1, g2, g3, g4⟩ := midx_some hi
          have hj : j < es.size := by rw [h1]; exact (List.getElem?_eq_some_iff.1 g1).1
          have he : es[j]? = some es[j] := Array.getElem?_eq_getElem hj
          have hkey : es[j].key = KV := (mv_inj hmk (hB.keys _ (List.mem_of_getElem? g1)) hk (h3 j a u0 _ g1 he).2.1 (keq_eq hmk (hB.keys _ (List.mem_of_getElem? g1)) g2)).symm
          have hrun : (Instr.mapUpdate T (.map (some b)) KV VV).run P C.w = .ok () (C.w.putObj b (.map (es.modify j fun e => { e with key := KV, val := VV }) c)) := by
            unfold Instr.mapUpdate
            rw [hi] at hf
            simp only [Sem.run_bind, run_underlying hu, Result.andThen_ok, MapKept.run_getObj_map hes, hch, hf, Option.bind_some, he, Option.map_some, Option.getD_some, hkey, run_stays hmk hk, run_setObj_map _ hes]
            rfl
          refine ⟨{ C with H := C.H.set i (mapRow kk K E (mput D k v)), w := C.w.putObj b (.map (es.modify j fun e => { e with key := KV, val := VV }) c) }, hrun, ?_⟩
          rw [g4]
          refine setMap_sound hR hm hρ hro hes fun C' hh => ⟨⟨_, _, hh, by simp [h1], by simp [h2], fun l a' u e k1 k2 => ?_⟩, fun p hp => ?_, fun p hp => ?_⟩
          · rw [Array.getElem?_modify] at k2
            rw [List.getElem?_set] at k1
            by_cases hjl : j = l
            · subst hjl
              rw [if_pos rfl, if_pos (by rw [← h1]; exact hj)] at k1
              cases k1
              rw [if_pos rfl, he] at k2
              cases k2
              exact ⟨(h3 j a u0 _ g1 he).1, hk.flat (flat_of_mv hmk), hv.flat (flat_of_mv hmv)⟩
            · rw [if_neg hjl] at k1 k2
              obtain ⟨q1, q2, q3⟩ := h3 l a' u e k1 k2
              exact ⟨q1, q2.flat (flat_of_mv (hB.keys _ (List.mem_of_getElem? k1))), q3.flat (flat_of_mv (hB.vals _ (List.mem_of_getElem? k1)))⟩
          · rcases List.mem_or_eq_of_mem_set hp with hp | hp
            · exact hB.keys p hp
            · subst hp; exact hmk
          · rcases List.mem_or_eq_of_mem_set hp with hp | hp
            · exact hB.vals p hp
            · subst hp; exact hmv
      · cases h
    · cases h
  · cases h
def mapQ (P : Program) (ks : List TypeId) (ro : Nat) (H : List Row) (f : Operand → PV) : Op → Option (PV × List Row)
  | .makeMap T none => match P.underlying T with | some (.map K E) => some (.mp H.length, H ++ [mapRow k0 K E []]) | _ => none
  | .lookup T x k ok => (lookQ P ks H T (f x) (f k) ok).map fun p => (p, H)
  | .mapUpdate T x k v => (updQ P ks ro H T (f x) (f k) (f v)).map fun H' => (.val undef, H')
  | .call c =>
    match c.callee, c.args.toList, c.argTypes[0]? with
    | .builtin .len, [x], some T =>
      match P.underlying T, f x with
      | some (.map _ _), .mp i => (mapAt H i).map fun r => (.val (.int .i64 (r.2.2.2.length : Int)), H)
      | _, _ => none
    | _, _, _ => none
  | _ => none
theorem set_row {H : List Row} {i : Nat} {k k' : LoopK} {K E K' E' : TypeId} {D D' : List (PV × PV)} (h : mapAt H i = some (k, K, E, D)) (x : Nat) : rowAt (H.set i (mapRow k' K' E' D')) x = rowAt H x := by
  obtain ⟨r, g1, g3, g2⟩ := mapAt_some h
  have hi : i < H.length := (List.getElem?_eq_some_iff.1 g1).1
  unfold rowAt
  rw [List.getElem?_set]
  by_cases hx : i = x
  · subst hx
    rw [if_pos rfl, if_pos hi, g1]
    simp [mapRow, g3]
  · rw [if_neg hx]
theorem mapQ_rows {P : Program} {ks : List TypeId} {ro : Nat} {H : List Row} {f : Operand → PV} {op : Op} {p : PV} {H' : List Row} (h : mapQ P ks ro H f op = some (p, H')) (x : Nat) : rowAt H' x = rowAt H x := by
  cases op <;> simp only [mapQ, reduceCtorEq] at h
  case makeMap T r =>
    cases r with
    | some _ => cases h
    | none =>
      simp only at h
      split at h
      · cases h
        by_cases hx : x < H.length
        · exact rowAt_append hx
        · unfold rowAt
          rw [List.getElem?_append_right (by omega), List.getElem?_eq_none (by omega : H.length ≤ x)]
          cases hm : x - H.length with
          | zero => simp [mapRow]
          | succ n => simp
      · cases h
  case lookup T x k ok =>
    obtain ⟨q, hq, he⟩ := Option.map_eq_some_iff.1 h
    cases he; rfl
  case mapUpdate T y k v =>
    obtain ⟨q, hq, he⟩ := Option.map_eq_some_iff.1 h
    cases he
    unfold updQ at hq
    split at hq
    · split at hq
      · rename_i hm
        split at hq
        · cases hq; exact set_row hm x
        · cases hq
      · cases hq
    · cases hq
  case call c =>
    split at h
    · split at h
      · obtain ⟨q, hq, he⟩ := Option.map_eq_some_iff.1 h
        cases he; rfl
      · cases h
    · cases h
theorem mapQ_sound {P : Program} {ks : List TypeId} (hks : ∀ K, K ∈ ks → KeyOK P K) {ro : Nat} {H : List Row} {f : Operand → PV} {op : Op} {p : PV} {H' : List Row} (h : mapQ P ks ro H f op = some (p, H')) : OprS P ro H f op p H' := by
  intro C g o ho hro hH hR hv
  subst hro; subst hH
  cases op <;> simp only [mapQ, reduceCtorEq] at h
  case makeMap T r =>
    cases r with
    | some _ => cases h
    | none =>
      simp only at h
      split at h
      · rename_i K E hu
        cases h
        obtain ⟨h1, h2, h3⟩ := newMap_sound hR K E
        refine ⟨_, .map (some C.w.heap.size), _, ?_, .inl rfl, ⟨rfl, h1, h2⟩, h3⟩
        unfold execOp
        simp only [ho, Option.map_none, Instr.makeMap, Sem.run_bind, Sem.run_pure, Result.andThen_ok, run_newObj_alloc]
        rfl
      · cases h
  case lookup T x k ok =>
    obtain ⟨q, hq, he⟩ := Option.map_eq_some_iff.1 h
    cases he
    obtain ⟨v, h1, h2⟩ := lookQ_sound hks hR (hv x (by simp [Op.operands])) (hv k (by simp [Op.operands])) hq
    refine ⟨_, v, C, ?_, .inl rfl, ⟨rfl, .refl C, hR⟩, h2⟩
    unfold execOp
    simp only [ho, Sem.run_bind, h1, Result.andThen_ok]
    rfl
  case mapUpdate T x k v =>
    obtain ⟨q, hq, he⟩ := Option.map_eq_some_iff.1 h
    cases he
    obtain ⟨C', h1, h2⟩ := updQ_sound hks hR (hv x (by simp [Op.operands])) (hv k (by simp [Op.operands])) (hv v (by simp [Op.operands])) hq
    refine ⟨_, undef, C', ?_, .inr ⟨rfl, rfl⟩, h2, .val⟩
    unfold execOp
    simp only [ho, Sem.run_bind, h1, Result.andThen_ok]
    rfl
  case call c =>
    split at h
    · rename_i x T hc ha hT
      split at h
      · rename_i K E i hu hfx
        obtain ⟨⟨kk, K', E', D⟩, hm, he⟩ := Option.map_eq_some_iff.1 h
        cases he
        have hca : c.args = #[x] := by apply Array.ext'; simpa using ha
        have hx := hv x (by simp [Op.operands, Call.operands, hc, hca])
        rw [hfx] at hx
        obtain ⟨b, hX, hρ, hB⟩ := map_blk hR hx hm
        obtain ⟨es, c0, hes, _⟩ := hB.mem
        obtain ⟨h1, h2, h3⟩ := map_entries hB hes
        refine ⟨_, .int .i64 (D.length : Int), C, ?_, .inl rfl, ⟨rfl, .refl C, hR⟩, .val⟩
        have hlen : (Builtin.len_ c.argTypes o.type #[g x]).run P C.w = .ok (.int .i64 (D.length : Int)) C.w := by
          rw [hX]
          simp only [Builtin.len_, hT, List.getElem?_toArray, List.getElem?_cons_zero, Sem.run_bind, run_underlying hu, Result.andThen_ok, MapKept.run_getObj_map hes, Sem.run_pure, h1]
          rfl
        simp only [execOp, ho, resolve, hc, hca, Sem.run_bind, Sem.run_pure, Result.andThen_ok, invoke, builtin, List.map_toArray, List.map_cons, List.map_nil, hlen]
      · cases h
    · cases h
def EnvK.addKeys (E : EnvK) (P : Program) (ks : List TypeId) : EnvK := { E with opr := fun ro H f op => match mapQ P ks ro H f op with | some r => some (.leaf r) | none => E.opr ro H f op }
theorem EnvOK.addKeys {P : Program} {E : EnvK} (hE : EnvOK P E.env) {ks : List TypeId} (hks : ∀ K, K ∈ ks → KeyOK P K) : EnvOK P (E.addKeys P ks).env where
  ent := hE.ent
  cal := hE.cal
  ora := hE.ora
  lo := fun f fn b h1 h2 => LoH.mono (E := E.env) (E' := (E.addKeys P ks).env) (fun _ _ _ _ _ _ _ h => h) (hE.lo f fn b h1 h2)
  inp := hE.inp
  sft := hE.sft
  sftE := fun ro H f T x k p H' h => hE.sftE ro H f T x k p H' h
  opr := fun ro H f op p H' h => by
    change (match mapQ P ks ro H f op with | some r => some (DT.leaf r) | none => E.opr ro H f op).bind DT.run = some (p, H') at h
    split at h
    · rename_i r hr
      have : r = (p, H') := by simpa [DT.run] using h
      subst this
      exact ⟨mapQ_sound hks hr, mapQ_rows hr⟩
    · exact hE.opr ro H f op p H' h

def lookD (P : Program) (E : TypeId) (z : PV) (k : PV) (H : List Row) (ok : Bool) : List (PV × PV) → DT (PV × List Row)
  | [] => .leaf (if ok then .tup [expT P E z, .val (.bool false)] else expT P E z, H)
  | (a, v) :: D => .br (keq k a) (.leaf (if ok then .tup [expT P E v, .val (.bool true)] else expT P E v, H)) (lookD P E z k H ok D)
theorem lookD_run {P : Program} {E : TypeId} {z k : PV} {H : List Row} {ok : Bool} : ∀ {D : List (PV × PV)}, (lookD P E z k H ok D).run = some (if ok then .tup [expT P E (mget z D k), .val (.bool (mhas D k))] else expT P E (mget z D k), H)
  | [] => rfl
  | (a, v) :: D => by
    unfold lookD mget mhas
    cases hq : keq k a with
    | true => rfl
    | false =>
      show (lookD P E z k H ok D).run = _
      rw [lookD_run]; rfl
def updD (k : PV) (r : PV × List Row) : List (PV × PV) → DT (PV × List Row)
  | [] => .leaf r
  | (a, _) :: D => .br (keq k a) .no (updD k r D)
theorem updD_run {k : PV} {r q : PV × List Row} : ∀ {D : List (PV × PV)}, (updD k r D).run = some q → q = r ∧ midx D k = none
  | [], h => by cases h; exact ⟨rfl, rfl⟩
  | (a, v) :: D, h => by
    unfold updD at h
    unfold midx
    cases hq : keq k a with
    | true => rw [hq] at h; cases h
    | false =>
      rw [hq] at h
      obtain ⟨h1, h2⟩ := updD_run (D := D) h
      exact ⟨h1, by rw [h2]; rfl⟩
def mapDT (P : Program) (ks bs : List TypeId) (ro : Nat) (H : List Row) (f : Operand → PV) (op : Op) : Option (DT (PV × List Row)) :=
  match op with
  | .lookup T x k ok =>
    match bs.contains T, P.underlying T, f x with
    | true, some (.map K E), .mp i =>
      match mapAt H i, zeroQ P E with
      | some (_, K', E', D), some z =>
        if ks.contains K && (K == K') && (E == E') && mvOk P K (f k) && mvOk P E (.val z) then some (lookD P E (.val z) (f k) H ok D) else none
      | _, _ => none
    | _, _, _ => (mapQ P ks ro H f op).map .leaf
  | .mapUpdate T x k v =>
    match bs.contains T, P.underlying T, f x with
    | true, some (.map K E), .mp i =>
      match mapAt H i with
      | some (kk, K', E', D) =>
        if ks.contains K && (K == K') && (E == E') && mvOk P K (f k) && mvOk P E (f v) && decide (ro ≤ i) then some (updD (f k) (.val undef, H.set i (mapRow kk K E (D ++ [(f k, f v)]))) D) else none
      | _ => none
    | _, _, _ => (mapQ P ks ro H f op).map .leaf
  | _ => (mapQ P ks ro H f op).map .leaf
theorem mapDT_run {P : Program} {ks bs : List TypeId} {ro : Nat} {H : List Row} {f : Operand → PV} {op : Op} {d : DT (PV × List Row)} {r : PV × List Row} (h : mapDT P ks bs ro H f op = some d) (hr : d.run = some r) : mapQ P ks ro H f op = some r := by
  have plain : (mapQ P ks ro H f op).map DT.leaf = some d → mapQ P ks ro H f op = some r := fun h => by
    obtain ⟨q, hq, rfl⟩ := Option.map_eq_some_iff.1 h
    cases hr; exact hq
  unfold mapDT at h
  split at h
  · rename_i T x k ok
    split at h
    · rename_i K E i hb hu hx
      split at h
      · rename_i kk K' E' D z hm hz
        split at h
        · rename_i hc
          cases h
          rw [lookD_run] at hr
          cases hr
          simp only [mapQ, lookQ, hu, hx, hm, hz]
          rw [if_pos hc]
          rfl
        · cases h
      · cases h
    · exact plain h
  · rename_i T x k v
    split at h
    · rename_i K E i hb hu hx
      split at h
      · rename_i kk K' E' D hm
        split at h
        · rename_i hc
          cases h
          obtain ⟨rfl, hi⟩ := updD_run hr
          simp only [mapQ, updQ, hu, hx, hm]
          rw [if_pos hc, (midx_none hi).2]
          rfl
        · cases h
      · cases h
    · exact plain h
  · exact plain h
def EnvK.addMaps (E : EnvK) (P : Program) (ks bs : List TypeId) : EnvK := { E with opr := fun ro H f op => match mapDT P ks bs ro H f op with | some d => some d | none => E.opr ro H f op }
theorem EnvOK.addMaps {P : Program} {E : EnvK} (hE : EnvOK P E.env) {ks bs : List TypeId} (hks : ∀ K, K ∈ ks → KeyOK P K) : EnvOK P (E.addMaps P ks bs).env where
  ent := hE.ent
  cal := hE.cal
  ora := hE.ora
  lo := fun f fn b h1 h2 => LoH.mono (E := E.env) (E' := (E.addMaps P ks bs).env) (fun _ _ _ _ _ _ _ h => h) (hE.lo f fn b h1 h2)
  inp := hE.inp
  sft := hE.sft
  sftE := fun ro H f T x k p H' h => hE.sftE ro H f T x k p H' h
  opr := fun ro H f op p H' h => by
    change (match mapDT P ks bs ro H f op with | some d => some d | none => E.opr ro H f op).bind DT.run = some (p, H') at h
    split at h
    · rename_i d hd
      have hq := mapDT_run hd h
      exact ⟨mapQ_sound hks hq, mapQ_rows hq⟩
    · exact hE.opr ro H f op p H' h

theorem dt_br {α : Type} {b : Bool} {x r : α} (h : (DT.br b (.leaf x) .no).run = some r) : b = true ∧ r = x := by
  cases b
  · cases h
  · cases h; exact ⟨rfl, rfl⟩
end Go.Hx
/- Hx: maps: an entry is found or made, and stored to (m[k] op= v). -/
namespace Go.Hx
open Go.MapKept
def mins (z : PV) (D : List (PV × PV)) (k : PV) : List (PV × PV) := bif mhas D k then D else D ++ [(k, z)]
def midxN (D : List (PV × PV)) (k : PV) : Nat := (midx D k).getD D.length
def mset (D : List (PV × PV)) (j : Nat) (v : PV) : List (PV × PV) := D.set j ((D.getD j (.any, .any)).1, v)
def entDT (P : Program) (ks : List TypeId) (ro : Nat) (H : List Row) (f : Operand → PV) : Op → Option (DT (PV × List Row))
  | .mapEntry T x k =>
    match P.underlying T, f x with
    | some (.map K E), .mp i =>
      match mapAt H i, zeroQ P E with
      | some (kk, K', E', D), some z =>
        if ks.contains K && (K == K') && (E == E') && mvOk P K (f k) && mvOk P E (.val z) && decide (ro ≤ i) then
          some (.leaf (.tup [expT P E (mget (.val z) D (f k)), .val (.int .i64 (midxN D (f k) : Int))], H.set i (mapRow kk K E (mins (.val z) D (f k))))) else none
      | _, _ => none
    | _, _ => none
  | .entryStore _ x s v =>
    match f x, f s with
    | .mp i, .val (.int _ j) =>
      match mapAt H i with
      | some (kk, K, E, D) =>
        if mvOk P E (f v) && decide (ro ≤ i) then some (.br (decide (0 ≤ j) && decide (j < (D.length : Int))) (.leaf (.val undef, H.set i (mapRow kk K E (mset D j.toNat (f v))))) .no) else none
      | none => none
    | _, _ => none
  | _ => none
theorem ent_rows {P : Program} {ks : List TypeId} {ro : Nat} {H : List Row} {f : Operand → PV} {op : Op} {d : DT (PV × List Row)} {p : PV} {H' : List Row} (h : entDT P ks ro H f op = some d) (hr : d.run = some (p, H')) (x : Nat) : rowAt H' x = rowAt H x := by
  cases op <;> simp only [entDT, reduceCtorEq] at h
  case mapEntry T y k =>
    split at h
    · split at h
      · rename_i hm _
        split at h
        · cases h; cases hr; exact set_row hm x
        · cases h
      · cases h
    · cases h
  case entryStore T y s v =>
    split at h
    · split at h
      · rename_i hm
        split at h
        · cases h
          obtain ⟨_, h2⟩ := dt_br hr
          cases h2; exact set_row hm x
        · cases h
      · cases h
    · cases h
theorem ent_sound {P : Program} {ks : List TypeId} (hks : ∀ K, K ∈ ks → KeyOK P K) {ro : Nat} {H : List Row} {f : Operand → PV} {op : Op} {d : DT (PV × List Row)} {p : PV} {H' : List Row} (h : entDT P ks ro H f op = some d) (hr : d.run = some (p, H')) : OprS P ro H f op p H' := by
  intro C g o ho hro hH hR hv
  subst hro; subst hH
  cases op <;> simp only [entDT, reduceCtorEq] at h
  case mapEntry T x k =>
    split at h
    · rename_i K E i hu hfx
      split at h
      · rename_i kk K' E' D z hm hz
        split at h
        · rename_i hc
          simp only [Bool.and_eq_true, beq_iff_eq, List.contains_eq_mem, decide_eq_true_eq] at hc
          obtain ⟨⟨⟨⟨⟨hc1, rfl⟩, rfl⟩, hmk⟩, hmz⟩, hro⟩ := hc
          cases h
          cases hr
          have hKO := hks _ hc1
          have hx := hv x (by simp [Op.operands])
          rw [hfx] at hx
          have hk := hv k (by simp [Op.operands])
          obtain ⟨b, hX, hρ, hB⟩ := map_blk hR hx hm
          obtain ⟨es, c, hes, _⟩ := hB.mem
          obtain ⟨h1, h2, h3⟩ := map_entries hB hes
          have hf := find_map hKO hB hmk hk hes C.w
          have hch := hKO.check C (f k) (g k) hmk hk false C.w
          have hE : ∀ {V : Value}, RV P C (mget (.val z) D (f k)) V → RV P C (expT P E (mget (.val z) D (f k))) V := fun hV => RV.expT (mget_ok (fun x hx => hB.vals x hx) hmz (f k)) hV
          cases hi : midx D (f k) with
          | none =>
            have hrun : (Instr.mapEntry T (.map (some b)) (g k)).run P C.w = .ok (.tuple #[z, goInt c]) (C.w.putObj b (.map (es.push { key := g k, val := z, born := c }) (c + 1))) := by
              unfold Instr.mapEntry
              rw [hi] at hf
              simp only [Sem.run_bind, run_underlying hu, Result.andThen_ok, MapKept.run_getObj_map hes, hch, hf, Option.bind_none, run_zeroQ hz, run_setObj_map _ hes, Sem.run_pure]
              rfl
            have hmz' : mins (.val z) D (f k) = D ++ [(f k, .val z)] := by unfold mins; rw [mhas_idx, hi]; rfl
            have hin : midxN D (f k) = c := by unfold midxN; rw [hi, h2]; rfl
            have hT : Turn P C { C with H := C.H.set i (mapRow kk K E (mins (.val z) D (f k))), w := C.w.putObj b (.map (es.push { key := g k, val := z, born := c }) (c + 1)) } (C.H.set i (mapRow kk K E (mins (.val z) D (f k)))) := by
              rw [hmz']
              refine setMap_sound hR hm hρ hro hes fun C' hh => ⟨⟨_, _, hh, by simp [h1], by simp [h2], fun j a u e g1 g2 => ?_⟩, fun p hp => ?_, fun p hp => ?_⟩
              · rw [List.getElem?_append] at g1
                rw [Array.getElem?_push] at g2
                split at g1
                · rename_i hj
                  rw [if_neg (by omega)] at g2
                  obtain ⟨q1, q2, q3⟩ := h3 j a u e g1 g2
                  exact ⟨q1, q2.flat (flat_of_mv (hB.keys _ (List.mem_of_getElem? g1))), q3.flat (flat_of_mv (hB.vals _ (List.mem_of_getElem? g1)))⟩
                · rename_i hj
                  have hj2 : j = D.length := by
                    have := (List.getElem?_eq_some_iff.1 g1).1
                    simp at this; omega
                  subst hj2
                  simp only [Nat.sub_self, List.getElem?_cons_zero, Option.some.injEq, Prod.mk.injEq] at g1
                  rw [if_pos (by omega)] at g2
                  obtain ⟨rfl, rfl⟩ := g1
                  cases g2
                  exact ⟨h2, hk.flat (flat_of_mv hmk), .val⟩
              · rcases List.mem_append.1 hp with hp | hp
                · exact hB.keys p hp
                · rw [List.mem_singleton] at hp; subst hp; exact hmk
              · rcases List.mem_append.1 hp with hp | hp
                · exact hB.vals p hp
                · rw [List.mem_singleton] at hp; subst hp; exact hmz
            refine ⟨_, .tuple #[z, goInt c], _, ?_, .inl rfl, hT, ?_⟩
            · unfold execOp
              simp only [ho, hX, Sem.run_bind, hrun, Result.andThen_ok]
              rfl
            · have hz1 : RV P C (expT P E (mget (.val z) D (f k))) z := hE (by rw [(midx_none hi).1]; exact .val)
              refine .tup rfl fun j q u g1 g2 => ?_
              match j with
              | 0 => simp at g1 g2; subst g1; subst g2; exact hz1.mono hT.ext
              | 1 => simp at g1 g2; subst g1; subst g2; rw [hin]; exact .val
              | j + 2 => simp at g1
          | some j =>
            obtain ⟨a, u0, g1, g2, g3, g4⟩ := midx_some hi
            have hj : j < es.size := by rw [h1]; exact (List.getElem?_eq_some_iff.1 g1).1
            have he : es[j]? = some es[j] := Array.getElem?_eq_getElem hj
            have hkey : es[j].key = g k := (mv_inj hmk (hB.keys _ (List.mem_of_getElem? g1)) hk (h3 j a u0 _ g1 he).2.1 (keq_eq hmk (hB.keys _ (List.mem_of_getElem? g1)) g2)).symm
            have hrun : (Instr.mapEntry T (.map (some b)) (g k)).run P C.w = .ok (.tuple #[es[j].val, goInt (es[j].born : Int)]) (C.w.putObj b (.map (es.modify j fun e => { e with key := g k }) c)) := by
              unfold Instr.mapEntry
              rw [hi] at hf
              simp only [Sem.run_bind, run_underlying hu, Result.andThen_ok, MapKept.run_getObj_map hes, hch, hf, Option.bind_some, he, Option.map_some, Option.getD_some, hkey, run_stays hmk hk, run_setObj_map _ hes, Sem.run_pure]
              rfl
            have hmz' : mins (.val z) D (f k) = D := by unfold mins; rw [mhas_idx, hi]; rfl
            have hin : midxN D (f k) = j := by unfold midxN; rw [hi]; rfl
            have hT : Turn P C { C with H := C.H.set i (mapRow kk K E (mins (.val z) D (f k))), w := C.w.putObj b (.map (es.modify j fun e => { e with key := g k }) c) } (C.H.set i (mapRow kk K E (mins (.val z) D (f k)))) := by
              rw [hmz']
              refine setMap_sound hR hm hρ hro hes fun C' hh => ⟨⟨_, _, hh, by simp [h1], by simp [h2], fun l a' u e k1 k2 => ?_⟩, fun p hp => hB.keys p hp, fun p hp => hB.vals p hp⟩
              rw [Array.getElem?_modify] at k2
              have fl : ∀ {e' : MapEntry}, e'.born = l ∧ RV P C a' e'.key ∧ RV P C u e'.val → e'.born = l ∧ RV P C' a' e'.key ∧ RV P C' u e'.val := fun ⟨q1, q2, q3⟩ =>
                ⟨q1, q2.flat (flat_of_mv (hB.keys _ (List.mem_of_getElem? k1))), q3.flat (flat_of_mv (hB.vals _ (List.mem_of_getElem? k1)))⟩
              by_cases hjl : j = l
              · subst hjl
                rw [if_pos rfl, he] at k2
                cases k2
                refine fl ?_
                obtain ⟨q1, q2, q3⟩ := h3 j a' u _ k1 he
                exact ⟨q1, by rw [← hkey]; exact q2, q3⟩
              · rw [if_neg hjl] at k2
                exact fl (h3 l a' u e k1 k2)
            refine ⟨_, .tuple #[es[j].val, goInt (es[j].born : Int)], _, ?_, .inl rfl, hT, ?_⟩
            · unfold execOp
              simp only [ho, hX, Sem.run_bind, hrun, Result.andThen_ok]
              rfl
            · have hz1 : RV P C (expT P E (mget (.val z) D (f k))) es[j].val := hE (by rw [g3]; exact (h3 j a u0 _ g1 he).2.2)
              refine .tup rfl fun l q u k1 k2 => ?_
              match l with
              | 0 => simp at k1 k2; subst k1; subst k2; exact hz1.mono hT.ext
              | 1 =>
                simp at k1 k2; subst k1; subst k2
                rw [hin, (h3 j a u0 _ g1 he).1]; exact .val
              | l + 2 => simp at k1
        · cases h
      · cases h
    · cases h
  case entryStore T x s v =>
    split at h
    · rename_i i q j hfx hfs
      split at h
      · rename_i kk K E D hm
        split at h
        · rename_i hc
          simp only [Bool.and_eq_true, decide_eq_true_eq] at hc
          obtain ⟨hmv, hro⟩ := hc
          cases h
          obtain ⟨hj, he0⟩ := dt_br hr
          simp only [Bool.and_eq_true, decide_eq_true_eq] at hj
          cases he0
          have hx := hv x (by simp [Op.operands])
          rw [hfx] at hx
          have hs := hv s (by simp [Op.operands])
          rw [hfs] at hs
          have hvv := hv v (by simp [Op.operands])
          obtain ⟨b, hX, hρ, hB⟩ := map_blk hR hx hm
          obtain ⟨es, c, hes, _⟩ := hB.mem
          obtain ⟨h1, h2, h3⟩ := map_entries hB hes
          have hjs : j.toNat < es.size := by omega
          have hborn : ∀ (l : Nat) (hl : l < es.size), es[l].born = l := fun l hl => by
            have hd : D[l]? = some (D[l]'(by omega)) := List.getElem?_eq_getElem _
            exact (h3 l _ _ _ hd (Array.getElem?_eq_getElem hl)).1
          have hfi : es.findIdx? (fun e => (e.born : Int) == j) = some j.toNat := by
            rw [Array.findIdx?_eq_some_iff_getElem]
            refine ⟨hjs, by rw [hborn _ hjs]; simp; omega, fun l hl => ?_⟩
            rw [hborn l (by omega)]; simp; omega
          generalize hS : g s = S0 at hs
          cases hs
          have hrun : (Instr.entryStore T (.map (some b)) (.int q j) (g v)).run P C.w = .ok () (C.w.putObj b (.map (es.modify j.toNat fun e => { e with val := g v }) c)) := by
            unfold Instr.entryStore
            simp only [Sem.run_bind, Sem.run_pure, Result.andThen_ok, MapKept.run_getObj_map hes, asInt, asIntOf, hfi, run_setObj_map _ hes]
            rfl
          refine ⟨_, undef, { C with H := C.H.set i (mapRow kk K E (mset D j.toNat (f v))), w := C.w.putObj b (.map (es.modify j.toNat fun e => { e with val := g v }) c) }, ?_, .inr ⟨rfl, rfl⟩, ?_, .val⟩
          · unfold execOp
            simp only [ho, hX, hS, Sem.run_bind, hrun, Result.andThen_ok]
            rfl
          · have hDj : D[j.toNat]? = some (D[j.toNat]'(by omega)) := List.getElem?_eq_getElem _
            have hkk : mset D j.toNat (f v) = D.set j.toNat ((D[j.toNat]'(by omega)).1, f v) := by unfold mset; rw [List.getD_eq_getElem?_getD, hDj]; rfl
            rw [hkk]
            refine setMap_sound hR hm hρ hro hes fun C' hh => ⟨⟨_, _, hh, by simp [h1], by simp [h2], fun l a' u e k1 k2 => ?_⟩, fun p hp => ?_, fun p hp => ?_⟩
            · rw [Array.getElem?_modify] at k2
              rw [List.getElem?_set] at k1
              by_cases hjl : j.toNat = l
              · subst hjl
                rw [if_pos rfl, if_pos (by omega)] at k1
                cases k1
                rw [if_pos rfl, Array.getElem?_eq_getElem hjs] at k2
                cases k2
                obtain ⟨q1, q2, _⟩ := h3 j.toNat _ _ _ hDj (Array.getElem?_eq_getElem hjs)
                exact ⟨q1, q2.flat (flat_of_mv (hB.keys _ (List.mem_of_getElem? hDj))), hvv.flat (flat_of_mv hmv)⟩
              · rw [if_neg hjl] at k1 k2
                obtain ⟨q1, q2, q3⟩ := h3 l a' u e k1 k2
                exact ⟨q1, q2.flat (flat_of_mv (hB.keys _ (List.mem_of_getElem? k1))), q3.flat (flat_of_mv (hB.vals _ (List.mem_of_getElem? k1)))⟩
            · rcases List.mem_or_eq_of_mem_set hp with hp | hp
              · exact hB.keys p hp
              · subst hp
                have := hB.keys _ (List.mem_of_getElem? hDj)
                exact this
            · rcases List.mem_or_eq_of_mem_set hp with hp | hp
              · exact hB.vals p hp
              · subst hp; exact hmv
        · cases h
      · cases h
    · cases h
theorem mget_mins (z : PV) (D : List (PV × PV)) (k k' : PV) : mget z (mins z D k') k = mget z D k := by
  unfold mins
  cases mhas D k' with
  | true => rfl
  | false =>
    rw [cond_false]
    induction D with
    | nil => simp only [List.nil_append, mget]; cases keq k k' <;> rfl
    | cons x D ih => simp only [List.cons_append, mget, ih]
theorem mapAt_set {H : List Row} {i : Nat} {k : LoopK} {K E : TypeId} {D D' : List (PV × PV)} (h : mapAt H i = some (k, K, E, D)) (x : Nat) : mapAt (H.set i (mapRow k K E D')) x = if x = i then some (k, K, E, D') else mapAt H x := by
  obtain ⟨r, g1, _, _⟩ := mapAt_some h
  have hi : i < H.length := (List.getElem?_eq_some_iff.1 g1).1
  unfold mapAt
  rw [List.getElem?_set]
  by_cases hx : x = i
  · subst hx; rw [if_pos rfl, if_pos hi, if_pos rfl]; rfl
  · rw [if_neg (fun e => hx e.symm), if_neg hx]
def sftQ (P : Program) (ks : List TypeId) (H : List Row) (f : Operand → PV) : Op → Option PV
  | .lookup T x k false => lookQ P ks H T (f x) (f k) false
  | _ => none
theorem sftQ_sound {P : Program} {ks : List TypeId} (hks : ∀ K, K ∈ ks → KeyOK P K) {H : List Row} {f : Operand → PV} {op : Op} {p : PV} (h : sftQ P ks H f op = some p) : SftS P H f op p := by
  intro C g o ho hH hR hv
  subst hH
  unfold sftQ at h
  split at h
  · rename_i T x k
    obtain ⟨v, h1, h2⟩ := lookQ_sound hks hR (hv x (by simp [Op.operands])) (hv k (by simp [Op.operands])) h
    refine ⟨v, ?_, h2⟩
    unfold execOp
    simp only [ho, Sem.run_bind, h1, Result.andThen_ok]
    rfl
  · cases h
theorem sftQ_ent {P : Program} {ks : List TypeId} {ro : Nat} {H H' : List Row} {f : Operand → PV} {T : TypeId} {x k : Operand} {d : DT (PV × List Row)} {p : PV} (h : entDT P ks ro H f (.mapEntry T x k) = some d) (hr : d.run = some (p, H')) (g : Operand → PV) (op : Op) (q : PV) : sftQ P ks H g op = some q ↔ sftQ P ks H' g op = some q := by
  simp only [entDT] at h
  split at h
  · rename_i K E i hu hfx
    split at h
    · rename_i kk K' E' D z hm hz
      split at h
      · rename_i hc
        simp only [Bool.and_eq_true, beq_iff_eq] at hc
        obtain ⟨⟨⟨⟨⟨_, rfl⟩, rfl⟩, _⟩, _⟩, _⟩ := hc
        cases h
        cases hr
        have key : ∀ (T2 : TypeId) (y u : PV), lookQ P ks H T2 y u false = lookQ P ks (H.set i (mapRow kk K E (mins (.val z) D (f k)))) T2 y u false := fun T2 y u => by
          unfold lookQ
          split
          · rename_i K2 E2 j hu2
            rw [mapAt_set hm]
            by_cases hj : j = i
            · subst hj
              rw [hm, if_pos rfl]
              cases hz2 : zeroQ P E2 with
              | none => rfl
              | some z2 =>
                dsimp only
                by_cases hE : E2 = E
                · subst hE
                  rw [hz] at hz2; cases hz2
                  rw [mget_mins]; simp
                · have : (E2 == E) = false := by simpa using hE
                  simp [this]
            · rw [if_neg hj]
          · rfl
        unfold sftQ
        split
        · rw [key]
        · exact Iff.rfl
      · cases h
    · cases h
  · cases h
def EnvK.addEnt (E : EnvK) (P : Program) (ks : List TypeId) : EnvK := { E with
  opr := fun ro H f op => match isEnt op with | true => entDT P ks ro H f op | false => (match entDT P ks ro H f op with | some d => some d | none => E.opr ro H f op)
  sft := fun H f op => sftQ P ks H f op }
theorem EnvOK.addEnt {P : Program} {E : EnvK} (hE : EnvOK P E.env) {ks : List TypeId} (hks : ∀ K, K ∈ ks → KeyOK P K) : EnvOK P (E.addEnt P ks).env where
  ent := hE.ent
  cal := hE.cal
  ora := hE.ora
  lo := fun f fn b h1 h2 => LoH.mono (E := E.env) (E' := (E.addEnt P ks).env) (fun _ _ _ _ _ _ _ h => h) (hE.lo f fn b h1 h2)
  inp := hE.inp
  sft := fun H f op p h => sftQ_sound hks h
  sftE := fun ro H f T x k p H' h => by
    change (entDT P ks ro H f (.mapEntry T x k)).bind DT.run = some (p, H') at h
    obtain ⟨d, hd, hr⟩ := Option.bind_eq_some_iff.1 h
    exact fun g op q => sftQ_ent hd hr g op q
  opr := fun ro H f op p H' h => by
    change (match isEnt op with | true => entDT P ks ro H f op | false => (match entDT P ks ro H f op with | some d => some d | none => E.opr ro H f op)).bind DT.run = some (p, H') at h
    split at h
    · obtain ⟨d, hd, hr⟩ := Option.bind_eq_some_iff.1 h
      exact ⟨ent_sound hks hd hr, ent_rows hd hr⟩
    · split at h
      · rename_i d hd
        exact ⟨ent_sound hks hd h, ent_rows hd h⟩
      · exact hE.opr ro H f op p H' h
def EnvK.addSoft (E : EnvK) (f : FuncId) (id : Nat) : EnvK := { E with soft := fun g i => bif g == f && i == id then true else E.soft g i }
theorem EnvOK.addSoft {P : Program} {E : EnvK} (hE : EnvOK P E.env) (f : FuncId) (id : Nat) : EnvOK P (E.addSoft f id).env where
  ent := hE.ent
  cal := hE.cal
  ora := hE.ora
  lo := fun g fn b h1 h2 => LoH.mono (E := E.env) (E' := (E.addSoft f id).env) (fun _ _ _ _ _ _ _ h => h) (hE.lo g fn b h1 h2)
  opr := hE.opr
  inp := hE.inp
  sft := hE.sft
  sftE := hE.sftE
end Go.Hx
/- Hx: operations in place: slices up to a row's end, append over what is there, clear with typed zeros. Sizes and bounds must be known. -/
namespace Go.Hx

def sliceIn (P : Program) (H : List Row) (T : TypeId) (x : PV) (lo hi mx : Option PV) : Option PV :=
  match P.underlying T, x, natIx lo, natIx hi, natIx mx with
  | some (.slice e), .sl i n k len, some l, some h, some m =>
    match rowAt H i with
    | some r =>
      if known P e && (r.es.length == n) && (r.s == P.cellsOf e) && !r.nl && (m.isNone || h.isSome) && decide (0 ≤ l.getD 0 ∧ l.getD 0 ≤ h.getD len ∧ h.getD len ≤ m.getD ((n : Int) - k) ∧ m.getD ((n : Int) - k) = (n : Int) - k) then
        some (if l.getD 0 = (n : Int) - k then .lst false e [] else .sl i n (k + (l.getD 0).toNat) (h.getD len - l.getD 0).toNat)
      else none
    | none => none
  | _, _, _, _, _ => none
theorem sliceIn_sound {P : Program} {C : Ctx} {T : TypeId} {x p : PV} {X : Value} {lo hi mx : Option PV} {L Hi M : Option Value} (hx : RV P C x X)
    (hl : ∀ r, natIx lo = some r → Bd L r) (hh : ∀ r, natIx hi = some r → Bd Hi r) (hm : ∀ r, natIx mx = some r → Bd M r) (h : sliceIn P C.H T x lo hi mx = some p) :
    ∃ e, P.underlying T = some (.slice e) ∧ ∃ v, (Instr.slice T X L Hi M).run P C.w = .ok v C.w ∧ RV P C p v := by
  unfold sliceIn at h
  split at h
  · rename_i e i n k len l h' m hu e1 e2 e3
    split at h
    · rename_i r hr
      split at h
      · rename_i hc
        simp only [Bool.and_eq_true, beq_iff_eq, decide_eq_true_eq, Bool.not_eq_true', Bool.or_eq_true] at hc
        obtain ⟨⟨⟨⟨⟨hk, h2⟩, h3⟩, hnl⟩, hmh⟩, g0, g1, g2, g3⟩ := hc
        cases h
        refine ⟨e, hu, ?_⟩
        cases hx with
        | sl hV hi' hle hh2 =>
          obtain ⟨q0, a, cap, rfl, q1, q2⟩ := hh2 r hr h2
          unfold SlAt at q2
          rw [if_neg (by simp [hnl])] at q2
          obtain ⟨b, p1, rfl, c, ee, fr, p2, p3, p4⟩ := q2
          rw [h2] at p4
          obtain ⟨c', hb, hc'⟩ : ∃ c', (Instr.sliceBounds true len cap L Hi M).run P C.w = .ok ((l.getD 0).toNat, (h'.getD len).toNat, c') C.w ∧ n ≤ k + c' ∧ c' ≤ cap := by
            cases m with
            | none =>
              have hM : M = none := by rcases hm _ e3 with ⟨rfl, _⟩ | ⟨_, _, _, hz⟩; rfl; cases hz
              subst hM
              simp only [Option.getD_none] at g2
              exact ⟨cap, run_sliceBounds2 C.w (hl _ e1) (hh _ e2) g0 g1 (by omega), p4, Nat.le_refl _⟩
            | some m =>
              simp only [Option.isNone_some, Bool.false_eq_true, false_or] at hmh
              obtain ⟨h'', rfl⟩ := Option.isSome_iff_exists.1 hmh
              simp only [Option.getD_some] at g1 g2 g3 ⊢
              exact ⟨m.toNat, run_sliceBounds3 C.w (hl _ e1) (hh _ e2) (hm _ e3) g0 g1 g2 (by omega), by omega, by omega⟩
          generalize l.getD 0 = lo' at *
          generalize h'.getD len = hi'' at *
          by_cases hend : lo' = (n : Int) - k
          · rw [if_pos hend]
            refine ⟨.slice _ (hi''.toNat - lo'.toNat) (c' - lo'.toNat), by simp only [Instr.slice, Sem.run_bind, run_underlying hu, Result.andThen_ok, hb, run_sizeOf C.w hk, Sem.run_pure]; rfl, ?_⟩
            have e0 : hi''.toNat - lo'.toNat = ([] : List PV).length := by simp; omega
            rw [e0]
            exact .lst 0 0 (fun _ _ => undef) (by simp) (fun hf => by cases hf) (fun h0 => by simp at h0) (fun x e j p hx => by simp at hx) (fun x e j p hx => by simp at hx) (fun e he => by simp at he)
          · rw [if_neg hend]
            refine ⟨.slice (some ⟨b, (k + lo'.toNat) * r.s, none⟩) (hi'' - lo').toNat (c' - lo'.toNat), ?_, .sl ⟨_, _, rfl⟩ hi' hle fun r' hr' hn => ?_⟩
            · simp only [Instr.slice, Sem.run_bind, run_underlying hu, Result.andThen_ok, hb, run_sizeOf C.w hk, Sem.run_pure]
              rw [if_neg (by omega)]
              simp only [Option.map_some, addr_add, ← h3, ← Nat.add_mul]
              congr 2
              omega
            · have e' : r' = r := Option.some.inj (hr'.symm.trans hr)
              subst e'
              refine ⟨by omega, _, _, rfl, by omega, ?_⟩
              unfold SlAt
              rw [if_neg (by simp [hnl])]
              refine ⟨b, p1, rfl, c, ee, fr, p2, ?_, by omega⟩
              refine Nat.le_trans (Nat.mul_le_mul_right _ ?_) p3
              omega
      · cases h
    · cases h
  · cases h

def appIn (P : Program) (ro : Nat) (H : List Row) (c : Call) (x y : PV) : Option (PV × List Row) :=
  match c.argTypes[0]?, c.argTypes[1]? with
  | some T, some T2 =>
    match P.underlying T, srcT P T T2 H y with
    | some (.slice e), some (ty, t, news) =>
      if known P e && t == e && (zeroQ P e).any (fun z => z.cells.size == P.cellsOf e) && P.bytesOf e != 0 && (ty || cellishAll news) then
        match x with
        | .sl i n 0 len =>
          match rowAt H i with
          | some r =>
            if decide (ro ≤ i) && (r.es.length == n) && decide (len + news.length ≤ n) && r.t == e && r.s == P.cellsOf e && !r.fz && !r.nl then
              some (.sl i n 0 (len + news.length), H.set i { r with es := r.es.take len ++ news ++ r.es.drop (len + news.length), bv := r.bv && ty }) else none
          | none => none
        | _ => none
      else none
    | _, _ => none
  | _, _ => none
theorem src_one {P : Program} {C : Ctx} {t : TypeId} {ty : Bool} {news : List PV} {Y : Value} {us : List Value} (hS : Src P C (P.cellsOf t) t ty news Y us) (hcell : (ty || cellishAll news) = true) : ∀ v ∈ us, v.oneCell' = true := fun v hv => by
  obtain ⟨j, hj⟩ := List.getElem?_of_mem hv
  have hlt : j < news.length * P.cellsOf t := by rw [← hS.len]; exact (List.getElem?_eq_some_iff.1 hj).1
  have hs0 : 0 < P.cellsOf t := by
    rcases Nat.eq_zero_or_pos (P.cellsOf t) with h0 | h0
    · rw [h0] at hlt; simp at hlt
    · exact h0
  have hkk : j / P.cellsOf t < news.length := (Nat.div_lt_iff_lt_mul hs0).2 hlt
  have he := List.getElem?_eq_getElem hkk
  have hmem := List.getElem_mem hkk
  have hmm : j % P.cellsOf t < (news[j / P.cellsOf t]).cells.length := by rw [hS.el _ hmem]; exact Nat.mod_lt _ hs0
  obtain ⟨v', g1, g2⟩ := hS.rel (j / P.cellsOf t) _ (j % P.cellsOf t) _ he (List.getElem?_eq_getElem hmm)
  have e3 : j / P.cellsOf t * P.cellsOf t + j % P.cellsOf t = j := by
    have := Nat.div_add_mod j (P.cellsOf t)
    rw [Nat.mul_comm] at this
    omega
  rw [e3, hj] at g1
  cases g1
  refine g2.oneCell ?_
  rcases (Bool.or_eq_true _ _).mp hcell with hty | hca
  · exact wt_cellish (hS.typed hty _ hmem) _ (List.getElem_mem hmm)
  · have := List.all_eq_true.1 hca _ hmem
    exact List.all_eq_true.1 this _ (List.getElem_mem hmm)
theorem appIn_sound {P : Program} {C : Ctx} {c : Call} {x y p : PV} {X Y : Value} {H' : List Row} (hR : RH P C) (hx : RV P C x X) (hy : RV P C y Y) (h : appIn P C.ro C.H c x y = some (p, H')) (ty0 : TypeId) :
    ∃ v C', (Builtin.append_ c.argTypes ty0 #[X, Y]).run P C.w = .ok v C'.w ∧ Turn P C C' H' ∧ RV P C' p v := by
  unfold appIn at h
  split at h
  · rename_i T T2 hT hT2
    split at h
    · rename_i e ty t news hu hsrc
      have hu2 := srcT_under hsrc
      split at h
      · rename_i hc
        simp only [Bool.and_eq_true, beq_iff_eq, bne_iff_ne] at hc
        obtain ⟨⟨⟨⟨hk, rfl⟩, hz⟩, hby⟩, hcell⟩ := hc
        obtain ⟨i, d, hinfo, hd, hsz⟩ := info_of_known hk
        obtain ⟨us, hS⟩ := srcT_sound hR hy hsrc
        split at h
        · rename_i ii n len
          split at h
          · rename_i r hr
            split at h
            · rename_i hc2
              simp only [Bool.and_eq_true, beq_iff_eq, decide_eq_true_eq, Bool.not_eq_true'] at hc2
              obtain ⟨⟨⟨⟨⟨⟨hro, hn⟩, hle5⟩, hrt⟩, hrs⟩, hfz⟩, hnl⟩ := hc2
              cases h
              have hlive := live_of hr
              cases hx with
              | sl hV hi hle hh =>
                obtain ⟨q0, a, cap, rfl, hcap, hs⟩ := hh r hr hn
                unfold SlAt at hs
                rw [if_neg (by simp [hnl])] at hs
                obtain ⟨b, hb, rfl, c0, e0, fr0, hh1, hh2, hh3⟩ := hs
                rw [hn] at hh3
                have hN : Rel3 P C r.s news us := by rw [hrs]; exact hS.rel3
                obtain ⟨C', g1, g2⟩ := set_range (ty := ty) hR hi hro hr hfz hb (k := len) (by omega) hN (src_one hS hcell) (fun hty e he => by rw [hrt]; exact hS.typed hty e he)
                have hrun := run_append_room' (P := P) (n := len) (cap := cap) (m := news.length) (Y := Y) (a := some ⟨b, 0 * r.s, none⟩) C.w hT hT2 hu hu2 hS.shape hinfo (by omega) ty0
                have hf := hS.first news.length rfl
                rw [hsz] at hf
                rw [hf] at hrun
                simp only [Result.andThen_ok, addr_add, Nat.zero_mul, Nat.zero_add, ← hsz] at hrun
                rw [← hrs, g1] at hrun
                simp only [Result.andThen_ok] at hrun
                refine ⟨.slice (some ⟨b, 0, none⟩) (len + news.length) cap, C', by rw [Nat.zero_mul]; exact hrun, g2, ?_⟩
                generalize hr2 : ({ r with es := r.es.take len ++ news ++ r.es.drop (len + news.length), bv := r.bv && ty } : Row) = r2 at g2
                have hlen2 : r2.es.length = n := by rw [← hr2]; simp; omega
                have hrow : C'.row? ii = some r2 := by
                  show rowAt C'.H ii = some r2
                  rw [g2.H, rowAt_set hi (by rw [← hr2]; exact hlive)]; simp
                refine .sl ⟨_, _, rfl⟩ (by rw [g2.H, List.length_set]; exact hi) (fun r' hr' => ?_) fun r' hr' _ => ?_
                · have : r' = r2 := Option.some.inj (hr'.symm.trans hrow)
                  rw [this, hlen2]; exact Nat.le_refl _
                · have : r' = r2 := Option.some.inj (hr'.symm.trans hrow)
                  subst this
                  refine ⟨by omega, _, _, rfl, by omega, ?_⟩
                  unfold SlAt
                  rw [if_neg (by rw [← hr2]; simp [hnl])]
                  obtain ⟨c2, fr2, k1, k2⟩ := g2.ext.shape b c0 e0 fr0 hh1
                  obtain ⟨r3, z1, _, _, _, z2⟩ := g2.ext.rows ii r' hi hrow
                  have : r3 = r := Option.some.inj (z1.symm.trans hr)
                  subst this
                  refine ⟨b, (z2 (by rw [hlen2, hn])).2 b hb, by simp, c2, e0, fr2, k1, ?_, by rw [hlen2]; omega⟩
                  rw [k2, show r'.s = r3.s by rw [← hr2]]; exact hh2
            · cases h
          · cases h
        · cases h
      · cases h
    · cases h
  · cases h

def zCell : Kind → Value → PV
  | .sl t, .slice none 0 0 => .lst false t []
  | _, v => .val v
def zeroE (P : Program) (e : TypeId) (z : Value) : PV := .agg ((List.range z.cells.size).map fun j => zCell ((kinds P e).getD j .other) (z.cells.getD j undef))
theorem zCell_rv {P : Program} {C : Ctx} (k : Kind) (v : Value) : RV P C (zCell k v) v := by
  unfold zCell
  split
  · exact .lst (es := []) 0 0 (fun _ _ => undef) (by simp) (fun hf => by cases hf) (fun h0 => by simp at h0) (fun x e j p hx => by simp at hx) (fun x e j p hx => by simp at hx) (fun e he => by simp at he)
  · exact .val
theorem zeroE_cells (P : Program) (e : TypeId) (z : Value) : (zeroE P e z).cells = (List.range z.cells.size).map fun j => zCell ((kinds P e).getD j .other) (z.cells.getD j undef) := rfl
theorem zeroE_rel {P : Program} {C : Ctx} {e : TypeId} {z : Value} (hz : z.cells.size = P.cellsOf e) (len : Nat) : Rel3 P C (P.cellsOf e) (List.replicate len (zeroE P e z)) (Builtin.zeroCells z.cells len).toList := by
  refine ⟨by simp [Builtin.zeroCells, hz], fun p hp => ?_, fun k p j q h1 h2 => ?_⟩
  · have := List.eq_of_mem_replicate hp; subst this
    rw [zeroE_cells]; simp [hz]
  · rw [List.getElem?_replicate] at h1
    split at h1
    · rename_i hk
      cases h1
      rw [zeroE_cells, List.getElem?_map] at h2
      obtain ⟨x, hx, rfl⟩ := Option.map_eq_some_iff.1 h2
      have hj : j < z.cells.size := by
        have := (List.getElem?_eq_some_iff.1 hx).1
        simpa using this
      rw [List.getElem?_range hj] at hx
      cases hx
      have hz2 : z.cells.getD j undef = z.cells[j] := by simp [hj]
      refine ⟨z.cells[j], ?_, by rw [hz2]; exact zCell_rv _ _⟩
      have hlt : k * P.cellsOf e + j < len * z.cells.size := by
        have h5 : (k + 1) * P.cellsOf e ≤ len * P.cellsOf e := Nat.mul_le_mul_right _ (by omega)
        rw [Nat.add_mul, Nat.one_mul] at h5
        rw [hz] at hj ⊢
        omega
      unfold Builtin.zeroCells
      rw [Array.getElem?_toList, Array.getElem?_map, ← Array.getElem?_toList, Array.toList_range, List.getElem?_range hlt]
      simp only [Option.map_some, Option.some.injEq, hz]
      rw [Nat.mul_comm, Nat.mul_add_mod, Nat.mod_eq_of_lt (by omega)]
      simp [hj]
    · cases h1
def clrIn (P : Program) (ro : Nat) (H : List Row) (c : Call) (x : PV) : Option (PV × List Row) :=
  match c.argTypes[0]? with
  | some T =>
    match P.underlying T with
    | some (.slice e) =>
      match zeroQ P e with
      | some z =>
        match x with
        | .sl i n k (len + 1) =>
          match rowAt H i with
          | some r =>
            if decide (ro ≤ i) && r.t == e && clearOk P e z && !r.fz && (r.es.length == n) && !r.nl then
              some (.val (.tuple #[]), H.set i { r with es := r.es.take k ++ List.replicate (len + 1) (zeroE P e z) ++ r.es.drop (k + (len + 1)), bv := r.bv && wt P e (zeroE P e z) }) else none
          | none => none
        | _ => none
      | none => none
    | _ => none
  | none => none
theorem clrIn_sound {P : Program} {C : Ctx} {c : Call} {x p : PV} {X : Value} {H' : List Row} (hR : RH P C) (hx : RV P C x X) (h : clrIn P C.ro C.H c x = some (p, H')) (ty : TypeId) :
    ∃ v C', (Builtin.clear_ c.argTypes ty #[X]).run P C.w = .ok v C'.w ∧ Turn P C C' H' ∧ RV P C' p v := by
  unfold clrIn at h
  split at h
  · rename_i T hT
    split at h
    · rename_i e hu
      split at h
      · rename_i z hz
        split at h
        · rename_i i n k m
          split at h
          · rename_i r hr
            split at h
            · rename_i hc
              simp only [Bool.and_eq_true, beq_iff_eq, decide_eq_true_eq, Bool.not_eq_true'] at hc
              obtain ⟨⟨⟨⟨⟨hro, ht⟩, hok⟩, hfz⟩, hn⟩, hnl⟩ := hc
              unfold clearOk at hok
              simp only [Bool.and_eq_true, beq_iff_eq] at hok
              obtain ⟨⟨⟨hkn, hzs⟩, hzc⟩, hzo⟩ := hok
              cases h
              cases hx with
              | sl hV hi hle hh =>
                obtain ⟨hk, a, cap, rfl, hlc, hsl⟩ := hh r hr hn
                unfold SlAt at hsl
                rw [if_neg (by simp [hnl])] at hsl
                obtain ⟨b, hρ, rfl, c0, ee, fr, hheap, hcs⟩ := hsl
                have hB := hR.blk i b r hρ hr
                have hsz : r.s = P.cellsOf e := by rw [hB.sz, ht]
                have hrel := zeroE_rel (P := P) (C := C) (e := e) hzs (m + 1)
                rw [← hsz] at hrel
                obtain ⟨C', g1, g2⟩ := set_range (ty := wt P e (zeroE P e z)) hR hi hro hr hfz hρ (k := k) (by rw [List.length_replicate]; omega) hrel (fun v hv => by
                  have hv2 : v ∈ z.cells := by
                    unfold Builtin.zeroCells at hv
                    simp only [Array.toList_map, List.mem_map, Array.mem_toList_iff, Array.mem_range] at hv
                    obtain ⟨y, hy, rfl⟩ := hv
                    have : y % z.cells.size < z.cells.size := Nat.mod_lt _ (by
                      rcases Nat.eq_zero_or_pos z.cells.size with h0 | h0
                      · rw [h0] at hy; omega
                      · exact h0)
                    rw [getElem!_pos z.cells _ this]
                    exact Array.getElem_mem _
                  exact RV.oneCell (P := P) (C := C) (p := .val v) .val (List.all_eq_true.1 hzc v (by simpa using hv2))) (fun hty p hp => by
                  have := List.eq_of_mem_replicate hp; subst this; rw [ht]; exact hty)
                rw [List.length_replicate] at g2
                refine ⟨_, C', ?_, g2, .val⟩
                simp only [Builtin.clear_, hT, List.getElem?_toArray, List.getElem?_cons_zero, Sem.run_bind, run_underlying hu, Result.andThen_ok, run_zeroQ hz, g1]
                rfl
            · cases h
          · cases h
        · cases h
      · cases h
    · cases h
  · cases h

def inQ (P : Program) (ro : Nat) (H : List Row) (f : Operand → PV) : Op → Option (PV × List Row)
  | .slice t x lo hi mx => (sliceIn P H t (f x) (lo.map f) (hi.map f) (mx.map f)).map fun p => (p, H)
  | .call c =>
    match c.callee with
    | .builtin .append => match c.args.toList with | [x, y] => appIn P ro H c (f x) (f y) | _ => none
    | .builtin .clear => match c.args.toList with | [x] => clrIn P ro H c (f x) | _ => none
    | _ => none
  | _ => none
theorem inQ_sound {P : Program} {ro : Nat} {H : List Row} {f : Operand → PV} {op : Op} {p : PV} {H' : List Row} (h : inQ P ro H f op = some (p, H')) : OprS P ro H f op p H' := by
  intro C g o ho hro hH hR hv
  subst hro; subst hH
  obtain ⟨dst, op', type, pos, after, guard⟩ := o
  simp only at ho
  subst ho
  cases op' <;> simp only [inQ, reduceCtorEq] at h
  case slice t x lo hi mx =>
    obtain ⟨q, hq, he⟩ := Option.map_eq_some_iff.1 h
    cases he
    have bd : ∀ (o : Option Operand), (∀ y ∈ o, RV P C (f y) (g y)) → ∀ r, natIx (o.map f) = some r → Bd (o.map g) r := fun o ho r hr =>
      natIx_sound (P := P) (C := C) hr (by cases o <;> rfl) (fun p v g1 g2 => by cases o with | none => cases g1 | some y => cases g1; cases g2; exact ho y rfl)
    have bl := bd lo (fun y hy => hv y (by cases hy; simp [Op.operands]))
    have bh := bd hi (fun y hy => hv y (by cases hy; simp [Op.operands]))
    have bm := bd mx (fun y hy => hv y (by cases hy; simp [Op.operands]))
    obtain ⟨e, hu, v, h1, h2⟩ := sliceIn_sound (hv x (by simp [Op.operands])) bl bh bm hq
    refine ⟨_, v, C, ?_, .inl rfl, ⟨rfl, .refl C, hR⟩, h2⟩
    simp only [execOp, Instr.sliceAt, Sem.run_bind, run_underlying hu, Result.andThen_ok, h1, Sem.run_pure]
  case call c =>
    split at h
    · rename_i hc
      split at h
      · rename_i x y hargs
        have hca : c.args = #[x, y] := by apply Array.ext'; simpa using hargs
        obtain ⟨v, C', g1, g2, g3⟩ := appIn_sound hR (hv x (by simp [Op.operands, Call.operands, hc, hca])) (hv y (by simp [Op.operands, Call.operands, hc, hca])) h type
        refine ⟨_, v, C', ?_, .inl rfl, g2, g3⟩
        simp only [execOp, resolve, hc, hca, Sem.run_bind, Sem.run_pure, Result.andThen_ok, invoke, builtin, List.map_toArray, List.map_cons, List.map_nil, g1]
      · cases h
    · rename_i hc
      split at h
      · rename_i x hargs
        have hca : c.args = #[x] := by apply Array.ext'; simpa using hargs
        obtain ⟨v, C', g1, g2, g3⟩ := clrIn_sound hR (hv x (by simp [Op.operands, Call.operands, hc, hca])) h type
        refine ⟨_, v, C', ?_, .inl rfl, g2, g3⟩
        simp only [execOp, resolve, hc, hca, Sem.run_bind, Sem.run_pure, Result.andThen_ok, invoke, builtin, List.map_toArray, List.map_cons, List.map_nil, g1]
      · cases h
    · cases h
def EnvK.addIn (E : EnvK) (P : Program) : EnvK := { E with inp := fun ro H f op => match inQ P ro H f op with | some r => some r | none => E.inp ro H f op }
theorem EnvOK.addIn {P : Program} {E : EnvK} (hE : EnvOK P E.env) : EnvOK P (E.addIn P).env where
  ent := hE.ent
  cal := hE.cal
  ora := hE.ora
  lo := fun f fn b h1 h2 => LoH.mono (E := E.env) (E' := (E.addIn P).env) (fun _ _ _ _ _ _ _ h => h) (hE.lo f fn b h1 h2)
  opr := hE.opr
  sft := hE.sft
  sftE := hE.sftE
  inp := fun ro H f op p H' h => by
    change (match inQ P ro H f op with | some r => some r | none => E.inp ro H f op) = some (p, H') at h
    split at h
    · rename_i r hr
      cases h
      exact inQ_sound hr
    · exact hE.inp ro H f op p H' h
def EnvK.addPiv (E : EnvK) (f : FuncId) (id j : Nat) : EnvK := { E with piv := fun g i => bif g == f && i == id then some j else E.piv g i }
theorem EnvOK.addPiv {P : Program} {E : EnvK} (hE : EnvOK P E.env) (f : FuncId) (id j : Nat) : EnvOK P (E.addPiv f id j).env where
  ent := hE.ent
  cal := hE.cal
  ora := hE.ora
  lo := fun g fn b h1 h2 => LoH.mono (E := E.env) (E' := (E.addPiv f id j).env) (fun _ _ _ _ _ _ _ h => h) (hE.lo g fn b h1 h2)
  opr := hE.opr
  inp := hE.inp
  sft := hE.sft
  sftE := hE.sftE
end Go.Hx
/- Hx: loops by contract: states by their shapes, the rounds of a loop. -/
namespace Go.Hx

def DT.map {α β : Type} (g : α → β) : DT α → DT β
  | .leaf a => .leaf (g a)
  | .no => .no
  | .br b x y => .br b (x.map g) (y.map g)
theorem DT.run_map {α β : Type} {g : α → β} {r : β} : ∀ {d : DT α}, (d.map g).run = some r → ∃ a, d.run = some a ∧ g a = r
  | .leaf a, h => ⟨a, rfl, Option.some.inj h⟩
  | .no, h => by cases h
  | .br b x y, h => by
    cases b
    · exact DT.run_map (d := y) h
    · exact DT.run_map (d := x) h
inductive Lf where
  | i (n : Int) | b (b : Bool) | n (n : Nat) | l (f : Bool) (es : List PV) | t (s : ByteArray)
inductive CS where
  | int (k : IntKind) | bool | lst (t : TypeId) | str
def CS.get : CS → PV → Option Lf
  | .int k, .val (.int k' n) => if k == k' then some (.i n) else none
  | .bool, .val (.bool v) => some (.b v)
  | .lst t, .lst f t' es => if t == t' then some (.l f es) else none
  | .str, .val (.string s) => some (.t s)
  | _, _ => none
def CS.put : CS → Lf → PV
  | .int k, .i n => .val (.int k n)
  | .bool, .b v => .val (.bool v)
  | .lst t, .l f es => .lst f t es
  | .str, .t s => .val (.string s)
  | _, _ => .any
theorem CS.get_put {c : CS} {p : PV} {x : Lf} (h : c.get p = some x) : p = c.put x := by
  unfold CS.get at h
  split at h
  · split at h
    · cases h; simp_all [CS.put]
    · cases h
  · cases h; rfl
  · split at h
    · cases h; simp_all [CS.put]
    · cases h
  · cases h; rfl
  · cases h
theorem CS.inj {c : CS} {p q : PV} {x : Lf} (h : c.get p = some x) (k : c.get q = some x) : p = q := by rw [CS.get_put h, CS.get_put k]
def getCs : List CS → List PV → Option (List Lf)
  | [], [] => some []
  | c :: cs, p :: ps => match c.get p, getCs cs ps with | some x, some xs => some (x :: xs) | _, _ => none
  | _, _ => none
theorem getCs_len : ∀ {cs : List CS} {ps : List PV} {xs : List Lf}, getCs cs ps = some xs → xs.length = cs.length
  | [], [], xs, h => by simp only [getCs, Option.some.injEq] at h; subst h; rfl
  | [], _ :: _, _, h => by simp [getCs] at h
  | _ :: _, [], _, h => by simp [getCs] at h
  | c :: cs, p :: ps, xs, h => by
    simp only [getCs] at h
    split at h
    · rename_i h1 h2; cases h; simp [getCs_len h2]
    · cases h
theorem getCs_inj : ∀ {cs : List CS} {ps qs : List PV} {xs : List Lf}, getCs cs ps = some xs → getCs cs qs = some xs → ps = qs
  | [], [], [], _, _, _ => rfl
  | [], _ :: _, _, _, h, _ => by simp [getCs] at h
  | [], _, _ :: _, _, _, h => by simp [getCs] at h
  | _ :: _, [], _, _, h, _ => by simp [getCs] at h
  | _ :: _, _ :: _, [], _, _, h => by simp [getCs] at h
  | c :: cs, p :: ps, q :: qs, xs, h, k => by
    simp only [getCs] at h k
    split at h
    · rename_i h1 h2
      cases h
      split at k
      · rename_i k1 k2
        cases k
        rw [CS.inj h1 k1, getCs_inj h2 k2]
      · cases k
    · cases h

inductive Sh where
  | any | cell (c : CS) | agg (cs : List CS) | ptr (i n k j : Nat) | sl (i : Nat) | nil
def Sh.len : Sh → Nat
  | .any => 0 | .cell _ => 1 | .agg cs => cs.length | .ptr _ _ _ _ => 0 | .sl _ => 2 | .nil => 0
def Sh.get : Sh → PV → Option (List Lf)
  | .any, .any => some []
  | .cell c, p => (c.get p).map fun x => [x]
  | .agg cs, .agg ps => getCs cs ps
  | .ptr i n k j, .ptr i' n' k' j' => if i == i' && n == n' && k == k' && j == j' then some [] else none
  | .sl i, .sl i' n k l => if i == i' && k == 0 then some [.n n, .n l] else none
  | .nil, .val (.slice none 0 0) => some []
  | _, _ => none
theorem Sh.get_len {s : Sh} {p : PV} {xs : List Lf} (h : s.get p = some xs) : xs.length = s.len := by
  cases s with
  | any => simp only [Sh.get] at h; split at h <;> simp_all [Sh.len]
  | cell c => simp only [Sh.get] at h; obtain ⟨x, _, rfl⟩ := Option.map_eq_some_iff.1 h; rfl
  | agg cs => cases p <;> simp only [Sh.get, reduceCtorEq] at h; exact getCs_len h
  | ptr i n k j => simp only [Sh.get] at h; split at h <;> simp_all [Sh.len]
  | sl i => simp only [Sh.get] at h; split at h <;> simp_all [Sh.len]; rw [← h.2]; rfl
  | nil => unfold Sh.get at h; split at h <;> simp_all [Sh.len]
theorem Sh.get_inj {s : Sh} {p q : PV} {xs : List Lf} (h : s.get p = some xs) (k : s.get q = some xs) : p = q := by
  cases s with
  | any => cases p <;> simp only [Sh.get, reduceCtorEq] at h; cases q <;> simp only [Sh.get, reduceCtorEq] at k; rfl
  | cell c =>
    simp only [Sh.get] at h k
    obtain ⟨x, h1, rfl⟩ := Option.map_eq_some_iff.1 h
    obtain ⟨y, k1, e⟩ := Option.map_eq_some_iff.1 k
    cases e
    exact CS.inj h1 k1
  | agg cs =>
    cases p <;> simp only [Sh.get, reduceCtorEq] at h
    cases q <;> simp only [Sh.get, reduceCtorEq] at k
    rw [getCs_inj h k]
  | ptr i n m j =>
    cases p <;> simp only [Sh.get, reduceCtorEq] at h
    cases q <;> simp only [Sh.get, reduceCtorEq] at k
    split at h
    · split at k
      · simp_all
      · cases k
    · cases h
  | sl i =>
    cases p <;> simp only [Sh.get, reduceCtorEq] at h
    cases q <;> simp only [Sh.get, reduceCtorEq] at k
    split at h
    · split at k
      · have e := (Option.some.inj h).trans (Option.some.inj k).symm
        simp only [List.cons.injEq, Lf.n.injEq, and_true] at e
        simp_all
      · cases k
    · cases h
  | nil =>
    have key : ∀ {p : PV} {xs : List Lf}, Sh.nil.get p = some xs → p = .val (.slice none 0 0) := by
      intro p xs h
      unfold Sh.get at h
      split at h <;> simp_all
    rw [key h, key k]

inductive RS where
  | one (t s : Nat) (h : Sh) | many (t s : Nat) | dead
def RS.len : RS → Nat | .one _ _ h => h.len | .many _ _ => 1 | .dead => 0
def rowBase (r : Row) (t s : Nat) : Bool := r.t == t && r.s == s && r.bv && r.live && r.lp.isNone && !r.fz
def RS.get : RS → Row → Option (List Lf)
  | .one t s h, r => if rowBase r t s && !r.nl then (match r.es with | [e] => h.get e | _ => none) else none
  | .many t s, r => if rowBase r t s then some [.l r.nl r.es] else none
  | .dead, _ => none
theorem RS.get_len {s : RS} {p : Row} {xs : List Lf} (h : s.get p = some xs) : xs.length = s.len := by
  cases s with
  | one t s g =>
    simp only [RS.get] at h
    split at h
    · split at h
      · exact Sh.get_len h
      · cases h
    · cases h
  | many t s =>
    simp only [RS.get] at h
    split at h
    · cases h; rfl
    · cases h
  | dead => simp [RS.get] at h
theorem rowBase_eq {r : Row} {t s : Nat} (h : rowBase r t s = true) : r = { es := r.es, s, t, bv := true, nl := r.nl } := by
  simp only [rowBase, Bool.and_eq_true, beq_iff_eq, Option.isNone_iff_eq_none, Bool.not_eq_true'] at h
  obtain ⟨⟨⟨⟨⟨h1, h2⟩, h3⟩, h4⟩, h5⟩, h6⟩ := h
  cases r
  simp_all
theorem RS.get_inj {s : RS} {p q : Row} {xs : List Lf} (h : s.get p = some xs) (k : s.get q = some xs) : p = q := by
  cases s with
  | one t s g =>
    simp only [RS.get] at h k
    split at h
    · rename_i hb
      split at k
      · rename_i kb
        simp only [Bool.and_eq_true, Bool.not_eq_true'] at hb kb
        split at h
        · rename_i e he
          split at k
          · rename_i f hf
            rw [rowBase_eq hb.1, rowBase_eq kb.1, he, hf, hb.2, kb.2, Sh.get_inj h k]
          · cases k
        · cases h
      · cases k
    · cases h
  | many t s =>
    simp only [RS.get] at h k
    split at h
    · rename_i hb
      split at k
      · rename_i kb
        have e := (Option.some.inj h).trans (Option.some.inj k).symm
        simp only [List.cons.injEq, Lf.l.injEq, and_true] at e
        rw [rowBase_eq hb, rowBase_eq kb, e.1, e.2]
      · cases k
    · cases h
  | dead => simp [RS.get] at h

def getS (shs : List (Nat × Sh)) : Nat → Nat → List PV → Option (List Lf)
  | 0, _, [] => some []
  | n + 1, x, p :: S =>
    match ((shs.lookup x).getD .any).get p, getS shs n (x + 1) S with
    | some a, some b => some (a ++ b)
    | _, _ => none
  | _, _, _ => none
theorem getS_inj {shs : List (Nat × Sh)} : ∀ {n x : Nat} {S T : List PV} {xs : List Lf}, getS shs n x S = some xs → getS shs n x T = some xs → S = T
  | 0, _, [], [], _, _, _ => rfl
  | 0, _, _ :: _, _, _, h, _ => by simp [getS] at h
  | 0, _, _, _ :: _, _, _, h => by simp [getS] at h
  | _ + 1, _, [], _, _, h, _ => by simp [getS] at h
  | _ + 1, _, _ :: _, [], _, _, h => by simp [getS] at h
  | n + 1, x, p :: S, q :: T, xs, h, k => by
    simp only [getS] at h k
    split at h
    · rename_i a b h1 h2
      split at k
      · rename_i a' b' k1 k2
        cases h
        have he := Option.some.inj k
        obtain ⟨e1, e2⟩ := List.append_inj he (by rw [Sh.get_len k1, Sh.get_len h1])
        subst e1; subst e2
        rw [Sh.get_inj h1 k1, getS_inj h2 k2]
      · cases k
    · cases h
def getH : List RS → List Row → Option (List Lf)
  | [], [] => some []
  | s :: ss, r :: H => match s.get r, getH ss H with | some a, some b => some (a ++ b) | _, _ => none
  | _, _ => none
theorem getH_inj : ∀ {ss : List RS} {H K : List Row} {xs : List Lf}, getH ss H = some xs → getH ss K = some xs → H = K
  | [], [], [], _, _, _ => rfl
  | [], _ :: _, _, _, h, _ => by simp [getH] at h
  | [], _, _ :: _, _, _, h => by simp [getH] at h
  | _ :: _, [], _, _, h, _ => by simp [getH] at h
  | _ :: _, _ :: _, [], _, _, h => by simp [getH] at h
  | s :: ss, p :: S, q :: T, xs, h, k => by
    simp only [getH] at h k
    split at h
    · rename_i a b h1 h2
      split at k
      · rename_i a' b' k1 k2
        cases h
        have he := Option.some.inj k
        obtain ⟨e1, e2⟩ := List.append_inj he (by rw [RS.get_len k1, RS.get_len h1])
        subst e1; subst e2
        rw [RS.get_inj h1 k1, getH_inj h2 k2]
      · cases k
    · cases h
structure St where
  n : Nat
  S : List (Nat × Sh)
  H : List RS
def St.get (s : St) (S : List PV) (H : List Row) : Option (List Lf × List Lf) :=
  match getS s.S s.n 0 S, getH s.H H with | some a, some b => some (a, b) | _, _ => none
theorem St.inj {s : St} {S T : List PV} {H K : List Row} {x : List Lf × List Lf} (h : s.get S H = some x) (k : s.get T K = some x) : S = T ∧ H = K := by
  unfold St.get at h k
  split at h
  · rename_i h1 h2
    split at k
    · rename_i k1 k2
      cases h
      cases k
      exact ⟨getS_inj h1 k1, getH_inj h2 k2⟩
    · cases k
  · cases h
def tm (n : Nat) (l : List (Nat × PV)) : List PV := (List.range n).map fun x => (l.lookup x).getD .any
abbrev r1 (t s : Nat) (e : PV) : Row := { es := [e], s, t, bv := true }
abbrev rN (t s : Nat) (nl : Bool) (es : List PV) : Row := { es, s, t, bv := true, nl }

def nrmRow (r : Row) : Row := match r.live with | true => { r with es := r.es.map nrm } | false => r
theorem nrm_cells (p : PV) : (nrm p).cells = p.cells := by
  unfold nrm
  split
  · rfl
  · rfl
theorem nrmRow_live (r : Row) : (nrmRow r).live = r.live := by unfold nrmRow; split <;> simp_all
theorem nrmRow_shp (r : Row) : ShpR r (nrmRow r) := by unfold nrmRow; split <;> simp [ShpR]
theorem RB.nrm {P : Program} {C : Ctx} {b : Nat} {r : Row} (h : RB P C b r) : RB P C b (nrmRow r) := by
  unfold nrmRow
  split
  · obtain ⟨c, fr, cv, m1, m2, m3, m4⟩ := h.mem
    refine ⟨h.sz, ⟨c, fr, cv, m1, m2, by simpa using m3, fun k e j p hk hj => ?_⟩, fun e he => ?_, fun hb e he => ?_⟩
    · simp only [List.getElem?_map, Option.map_eq_some_iff] at hk
      obtain ⟨e0, hk0, rfl⟩ := hk
      rw [nrm_cells] at hj
      exact m4 k e0 j p hk0 hj
    · simp only [List.mem_map] at he
      obtain ⟨e0, he0, rfl⟩ := he
      rw [nrm_cells]; exact h.len e0 he0
    · simp only [List.mem_map] at he
      obtain ⟨e0, he0, rfl⟩ := he
      have := h.typed hb e0 he0
      simp only [wt, nrm_cells] at this ⊢
      exact this
  · exact h
theorem Ext.shp0 {C C1 C' : Ctx} (h : Shp C C1) (hro : C.ro = 0) (hx : Ext C1 C') : Ext C C' := by
  have own : ∀ b, C1.own b → C.own b := by
    rintro b ⟨i, hi, hb⟩
    exact ⟨i, by rw [← h.ro]; exact hi, by rw [← h.ρ]; exact hb⟩
  have own' : ∀ b, C.own b → C1.own b := by
    rintro b ⟨i, hi, hb⟩
    exact ⟨i, by rw [h.ro]; exact hi, by rw [h.ρ]; exact hb⟩
  refine ⟨by rw [hx.os, h.w], by rw [hx.tape, h.w], by rw [hx.output, h.w], by rw [← h.w]; exact hx.size, fun b hb ho => by rw [← h.w] at hb ⊢; exact hx.block b hb fun hh => ho (own b hh), fun b c e fr hb => hx.shape b c e fr (by rw [h.w]; exact hb), by rw [← h.len]; exact hx.len,
    fun i r' hi hr => ?_, fun b hb => ?_, fun b hb => ?_, by rw [hx.fo, h.fo], by rw [hx.ro, h.ro], fun i hi => (by rw [hro] at hi; cases hi), fun i r info h1 h2 h3 => ?_, fun b rec hb => hx.loop b rec (by rw [h.w]; exact hb)⟩
  · obtain ⟨r1, a1, a2, a3, a4, a5⟩ := hx.rows i r' (by rw [h.len]; exact hi) hr
    obtain ⟨r, b1, c1, c2, c3, c4⟩ := h.row i r1 a1
    exact ⟨r, b1, c1.trans a2, c4.trans a3, by omega, fun e => ⟨c3.trans (a5 (by omega)).1, fun b hb => (a5 (by omega)).2 b (by rw [h.ρ]; exact hb)⟩⟩
  · rcases hx.fresh b hb with ⟨i, hi⟩ | hs
    · exact .inl ⟨i, by rw [← h.ρ]; exact hi⟩
    · exact .inr (by rw [← h.w]; exact hs)
  · rcases hx.freshOwn b hb with ho | hs
    · exact .inl (own b ho)
    · exact .inr (by rw [← h.w]; exact hs)
  · obtain ⟨g1, g2⟩ := hx.lp i r info (h.lp i r h1 h3) h2 h3
    exact ⟨g1, fun b hb => g2 b (by rw [h.ρ]; exact hb)⟩
theorem rounds_of {P : Program} {b : Code} {ro : Nat} {x : PX} {S' : List PV} {H' : List Row} (hx : x ≠ .normal) : ∀ (n : Nat) (Sf : Nat → List PV) (Hf : Nat → List Row), (∀ k, k < n → WpTo P b ro (Sf k) (Hf k) .normal (Sf (k + 1)) (Hf (k + 1))) → WpTo P b ro (Sf n) (Hf n) x S' H' →
    ∀ (r : Option Nat) (C : Ctx) (a : Act), C.H = Hf 0 → C.ro = ro → RH P C → RSl P C (Sf 0) a.tmps → RoundOK r C.w → ∀ Q : Exit → Act → World → Prop,
      (∀ (a' : Act) (C' : Ctx), Dfs C.w a C'.w a' → C'.H = H' → Ext C C' → RH P C' → RSl P C' S' a'.tmps → Q (XOut x) a' C'.w) → Code.roundsIn (Fr r) 0 P b Q (n + 1) a C.w
  | 0, Sf, Hf, _, hl => by
    intro r C a hH hro hR hs hro2 Q hQ
    rw [roundsIn_succ]
    refine hl r C a hH hro hR hs hro2 _ fun a' C' hd hH' hxt hR' hs' => ?_
    have hq := hQ a' C' hd hH' hxt hR' hs'
    cases x with
    | normal => exact absurd rfl hx
    | exit id => exact hq
    | ret => exact hq
  | n + 1, Sf, Hf, h, hl => by
    intro r C a hH hro hR hs hro2 Q hQ
    rw [roundsIn_succ]
    refine h 0 (by omega) r C a hH hro hR hs hro2 _ fun a' C' hd hH' hxt hR' hs' => ?_
    show Code.roundsIn (Fr r) 0 P b Q (n + 1) a' C'.w
    exact rounds_of hx n (fun k => Sf (k + 1)) (fun k => Hf (k + 1)) (fun k hk => h (k + 1) (by omega)) hl r C' a' hH' (by rw [hxt.ro]; exact hro) hR' hs' (hro2.mono hxt) Q fun a2 C2 hd2 hH2 hx2 hR2 hs2 => hQ a2 C2 (hd.trans hxt.size hR' hx2 hd2) hH2 (hxt.trans hx2) hR2 hs2
theorem loop_of {P : Program} {b : Code} {ro : Nat} {x : PX} {S' : List PV} {H' : List Row} (hx : x ≠ .normal) (n : Nat) (Sf : Nat → List PV) (Hf : Nat → List Row) (h : ∀ k, k < n → WpTo P b ro (Sf k) (Hf k) .normal (Sf (k + 1)) (Hf (k + 1))) (hl : WpTo P b ro (Sf n) (Hf n) x S' H') :
    WpTo P (.loop b) ro (Sf 0) (Hf 0) x S' H' :=
  fun r C a hH hro hR hs hro2 Q hQ => wpIn_loop_rounds (n + 1) (rounds_of hx n Sf Hf h hl r C a hH hro hR hs hro2 Q hQ)
theorem loop_go {P : Program} {b : Code} {ro : Nat} {x : PX} {S S1 S' : List PV} {H H1 H' : List Row} (h : WpTo P b ro S H .normal S1 H1) (k : ∃ n, ∃ Sf : Nat → List PV, ∃ Hf : Nat → List Row, Sf 0 = S1 ∧ Hf 0 = H1 ∧ (∀ k, k < n → WpTo P b ro (Sf k) (Hf k) .normal (Sf (k + 1)) (Hf (k + 1))) ∧ WpTo P b ro (Sf n) (Hf n) x S' H') :
    ∃ n, ∃ Sf : Nat → List PV, ∃ Hf : Nat → List Row, Sf 0 = S ∧ Hf 0 = H ∧ (∀ k, k < n → WpTo P b ro (Sf k) (Hf k) .normal (Sf (k + 1)) (Hf (k + 1))) ∧ WpTo P b ro (Sf n) (Hf n) x S' H' := by
  obtain ⟨n, Sf, Hf, e1, e2, g1, g2⟩ := k
  refine ⟨n + 1, fun k => match k with | 0 => S | k + 1 => Sf k, fun k => match k with | 0 => H | k + 1 => Hf k, rfl, rfl, fun k hk => ?_, g2⟩
  match k with
  | 0 => show WpTo P b ro S H .normal (Sf 0) (Hf 0); rw [e1, e2]; exact h
  | k + 1 => exact g1 k (by omega)
inductive Rnds (P : Program) (b : Code) (ro : Nat) (x : PX) (S' : List PV) (H' : List Row) : List PV → List Row → Prop
  | stop {S : List PV} {H : List Row} (h : WpTo P b ro S H x S' H') : Rnds P b ro x S' H' S H
  | go {S S1 : List PV} {H H1 : List Row} (h : WpTo P b ro S H .normal S1 H1) (k : Rnds P b ro x S' H' S1 H1) : Rnds P b ro x S' H' S H
theorem Rnds.loop {P : Program} {b : Code} {ro : Nat} {x : PX} {S S' : List PV} {H H' : List Row} (hx : x ≠ .normal) (h : Rnds P b ro x S' H' S H) : WpTo P (.loop b) ro S H x S' H' := by
  have : ∃ n, ∃ Sf : Nat → List PV, ∃ Hf : Nat → List Row, Sf 0 = S ∧ Hf 0 = H ∧ (∀ k, k < n → WpTo P b ro (Sf k) (Hf k) .normal (Sf (k + 1)) (Hf (k + 1))) ∧ WpTo P b ro (Sf n) (Hf n) x S' H' := by
    induction h with
    | stop h => exact ⟨0, fun _ => _, fun _ => _, rfl, rfl, fun k hk => by omega, h⟩
    | go h _ ih => exact loop_go h ih
  obtain ⟨n, Sf, Hf, rfl, rfl, g1, g2⟩ := this
  exact loop_of hx n Sf Hf g1 g2

theorem trimF_sound {P : Program} {C : Ctx} (hR : RH P C) {S : List PV} {t : Array Value} {h ro : Nat} (hh : h ≤ C.H.length) (hs : RSl P C S t) : RSl P (C.cut h False ro) (trimS h (frzs C.H h S)) t := by
  refine ⟨by simp [trimS, frzs_length]; exact hs.1, fun i p v h1 h2 => ?_⟩
  simp only [trimS, List.getElem?_map, Option.map_eq_some_iff] at h1
  obtain ⟨q, hq, rfl⟩ := h1
  rw [frzs_get] at hq
  obtain ⟨q0, hq0, rfl⟩ := Option.map_eq_some_iff.1 hq
  split
  · rename_i hm; exact (hs.2 i q0 v hq0 h2).frz hR hh hm
  · exact .any
def runB (P : Program) (E : EnvK) (n : Nat) (f : FuncId) (b : Code) (l l' : List Tmp) (S : List PV) (H : List Row) : Option (PX × List PV × List Row) :=
  execK P E n 0 f b S H fun x S1 H1 =>
    need (decide (H.length ≤ H1.length) && rowsOk H.length (H1.take H.length))
      (match x with
      | .normal => frzsK H1 H.length (keepS (some l) S1) fun S2 => some (.normal, trimS H.length S2, H1.take H.length)
      | .exit i => frzsK H1 H.length (keepS (some l') S1) fun S2 => some (.exit i, trimS H.length S2, H1.take H.length)
      | .ret => frzsK H1 H.length (keepS (some l') S1) fun S2 => some (.ret, trimS H.length S2, H1.take H.length))
theorem runB_sound {P : Program} {E : EnvK} (hE : EnvOK P E.env) {n : Nat} {f : FuncId} {b : Code} {l l' : List Tmp} {S S' : List PV} {H H' : List Row} {x : PX} (hb : SubCode P f b) (h : runB P E n f b l l' S H = some (x, S', H')) : WpTo P b 0 S H x S' H' := by
  obtain ⟨x1, S1, H1, h1, h2⟩ := execK_ref n _ _ _ _ _ _ _ h
  obtain ⟨h3, h4⟩ := need_some h2
  simp only [Bool.and_eq_true, decide_eq_true_eq] at h3
  have hw := exec_ok hE n _ _ _ _ _ _ _ _ h1 hb
  have key : ∀ L : List Tmp, S' = trimS H.length (frzs H1 H.length (keepS (some L) S1)) → H' = H1.take H.length → WpTo P b 0 S H x1 S' H' := by
    rintro L rfl rfl
    intro r C a hH hro hR hs hro2 Q hQ
    refine hw r C a hH hro hR hs hro2 Q fun a' C' hd hH' hxt hR' hs' => ?_
    subst hH
    subst hH'
    exact hQ a' (C'.cut C.H.length False C'.ro) hd rfl (hxt.cut (Nat.le_refl _) h3.1 hR.ro) (hR'.cut h3.1 (by rw [hxt.ro]; exact hR.ro) h3.2) (trimF_sound hR' h3.1 (keepS_sound (some L) hs'))
  cases x1 with
  | normal => cases frzsK_some h4; exact key l rfl rfl
  | exit i => cases frzsK_some h4; exact key l' rfl rfl
  | ret => cases frzsK_some h4; exact key l' rfl rfl
end Go.Hx
/- Hx: a loop's contract by a model of its rounds: states of a type, what one round does, what all come to. -/
namespace Go.Hx
noncomputable def bod (fn : Func) : Code := fn.body.getD .skip
noncomputable def lpb (fn : Func) (i : Nat) : Code := ((loops (bod fn)).filter fun b => rid b == i).headD .skip
theorem run_br {α : Type} {b : Bool} {a r : α} (h : (DT.br b (.leaf a) .no).run = some r) : b = true ∧ a = r := by
  cases b
  · cases h
  · exact ⟨rfl, Option.some.inj h⟩
abbrev i64 : Sh := .cell (.int .i64)
def nrmIf (b : Bool) (r : Row) : Row := match b with | true => nrmRow r | false => r
def nrmA (sel : List Bool) (H : List Row) : List Row := H.zipIdx.map fun x => nrmIf (sel.getD x.2 false) x.1
theorem nrmA_get (sel : List Bool) (H : List Row) (i : Nat) : (nrmA sel H)[i]? = H[i]?.map (nrmIf (sel.getD i false)) := by
  simp only [nrmA, List.getElem?_map, List.getElem?_zipIdx, Nat.zero_add, Option.map_map]
  congr 1
theorem nrmIf_live (b : Bool) (r : Row) : (nrmIf b r).live = r.live := by cases b <;> simp [nrmIf, nrmRow_live]
theorem nrmIf_shp (b : Bool) (r : Row) : ShpR r (nrmIf b r) := by
  cases b
  · exact ⟨rfl, rfl, rfl, rfl⟩
  · exact nrmRow_shp r
theorem nrmIf_dead {b : Bool} {r : Row} (h : r.live = false) : nrmIf b r = r := by
  cases b
  · rfl
  · show nrmRow r = r
    unfold nrmRow; rw [h]
theorem nrmA_row {C : Ctx} (sel : List Bool) (i : Nat) : ({ C with H := nrmA sel C.H } : Ctx).row? i = (C.row? i).map (nrmIf (sel.getD i false)) := by
  show rowAt (nrmA sel C.H) i = (rowAt C.H i).map _
  unfold rowAt
  rw [nrmA_get]
  cases C.H[i]? with
  | none => rfl
  | some r =>
    show (if (nrmIf _ r).live = true then some (nrmIf _ r) else none) = Option.map _ (if r.live = true then some r else none)
    rw [nrmIf_live]
    by_cases hl : r.live = true
    · rw [if_pos hl, if_pos hl]; rfl
    · rw [if_neg hl, if_neg hl]; rfl
theorem nrmA_shp (sel : List Bool) (C : Ctx) : Shp C { C with H := nrmA sel C.H } := by
  refine ⟨rfl, rfl, rfl, rfl, by simp [nrmA], fun i r' hr => ?_, fun i r hr => ?_, fun i r hr hl => ?_, fun i r hr hl => ?_⟩
  · rw [nrmA_row] at hr
    obtain ⟨r, a, rfl⟩ := Option.map_eq_some_iff.1 hr
    exact ⟨r, a, nrmIf_shp _ r⟩
  · exact ⟨_, by rw [nrmA_row, hr]; rfl, nrmIf_shp _ r⟩
  · show (nrmA sel C.H)[i]? = _
    rw [nrmA_get, hr, Option.map_some, nrmIf_dead hl]
  · have hr' : (nrmA sel C.H)[i]? = some r := hr
    rw [nrmA_get] at hr'
    obtain ⟨q, a, b⟩ := Option.map_eq_some_iff.1 hr'
    have : q.live = false := by rw [← nrmIf_live (sel.getD i false), b]; exact hl
    rw [nrmIf_dead this] at b
    rw [a]
    exact congrArg some b
theorem wpTo_nrmA {P : Program} {c : Code} (sel : List Bool) {S S' : List PV} {H H' : List Row} {x : PX} (h : WpTo P c 0 S (nrmA sel H) x S' H') : WpTo P c 0 S H x S' H' := by
  intro r C a hH hro hR hs hro2 Q hQ
  subst hH
  have hR1 : RH P { C with H := nrmA sel C.H } := hR.shp (nrmA_shp sel C) fun i b q h1 h2 => by
    rw [nrmA_row] at h2
    obtain ⟨q0, a0, rfl⟩ := Option.map_eq_some_iff.1 h2
    have hB := hR.blk i b q0 h1 a0
    have hB2 : RB P C b (nrmIf (sel.getD i false) q0) := by
      cases sel.getD i false
      · exact hB
      · exact hB.nrm
    exact hB2.shp (nrmA_shp sel C)
  exact h r { C with H := nrmA sel C.H } a rfl hro hR1 (hs.shp (nrmA_shp sel C)) hro2 Q fun a' C' hd hH' hx hR' hs' => hQ a' C' hd hH' (Ext.shp0 (nrmA_shp sel C) hro hx) hR' hs'

def byModel {σ : Type} (sel : List Bool) (get : List PV → List Row → Option σ) (pre : σ → Bool) (fin : σ → DT (PX × List PV × List Row)) : Nat → List PV → List Row → Option (DT (PX × List PV × List Row))
  | 0, S, H => match get S (nrmA sel H) with | some s => some (.br (pre s) (fin s) .no) | none => none
  | _ + 1, _, _ => none
theorem loopW {P : Program} {E : EnvK} (hE : EnvOK P E.env) {n : Nat} {f : FuncId} {b : Code} (l l' : List Tmp) {σ : Type} {sel : List Bool} (emb : σ → List PV × List Row) {get : List PV → List Row → Option σ}
    (hget : ∀ S H s, get S H = some s → S = (emb s).1 ∧ H = (emb s).2) {pre : σ → Bool} (m : σ → Nat) {fin : σ → DT (PX × List PV × List Row)}
    (hstep : ∀ s r, pre s = true → (fin s).run = some r → r.1 ≠ .normal ∧ (runB P E n f b l l' (emb s).1 (emb s).2 = some r ∨
      ∃ s', runB P E n f b l l' (emb s).1 (emb s).2 = some (.normal, emb s') ∧ pre s' = true ∧ m s' < m s ∧ (fin s').run = some r)) :
    SubCode P f (.loop b) → ∀ (ro : Nat) (S : List PV) (H : List Row) (d : DT (PX × List PV × List Row)) (x : PX) (S' : List PV) (H' : List Row), byModel sel get pre fin ro S H = some d → d.run = some (x, S', H') → WpTo P (.loop b) ro S H x S' H' := by
  intro hsub ro S H d x S' H' hc hd
  cases ro with
  | succ ro => cases hc
  | zero =>
  change (match get S (nrmA sel H) with | some s => some (DT.br (pre s) (fin s) DT.no) | none => none) = some d at hc
  split at hc
  · rename_i s hs
    obtain rfl := Option.some.inj hc
    obtain ⟨e1, e2⟩ := hget _ _ _ hs
    have hp : pre s = true ∧ (fin s).run = some (x, S', H') := by
      change (match pre s with | true => (fin s).run | false => DT.no.run) = _ at hd
      cases hq : pre s with
      | true => rw [hq] at hd; exact ⟨rfl, hd⟩
      | false => rw [hq] at hd; cases hd
    obtain ⟨hp, hr⟩ := hp
    clear hc hd hs
    have hbody := hsub.sub (.loop .here)
    refine wpTo_nrmA sel ?_
    rw [e2, e1]
    clear e1 e2
    have hx := (hstep s _ hp hr).1
    refine Rnds.loop hx ?_
    generalize hm : m s = k
    induction k using Nat.strongRecOn generalizing s with
    | _ k ih =>
      rcases (hstep s _ hp hr).2 with h1 | ⟨s', h1, h2, h3, h4⟩
      · exact .stop (runB_sound hE hbody h1)
      · exact .go (runB_sound hE hbody h1) (ih (m s') (by omega) s' h2 h4 rfl)
  · cases hc

end Go.Hx
/- Hx: contracts of calls that see only the rows whose pointers they get. -/
namespace Go.Hx

def posOf : List Nat → Nat → Option Nat
  | [], _ => none
  | k :: ks, i => match k == i with | true => some 0 | false => (posOf ks i).map (· + 1)
theorem posOf_get : ∀ {K : List Nat} {i j : Nat}, posOf K i = some j → K[j]? = some i
  | [], i, j, h => by simp [posOf] at h
  | k :: ks, i, j, h => by
    simp only [posOf] at h
    split at h
    · rename_i hk; cases h; simpa using hk
    · obtain ⟨m, hm, rfl⟩ := Option.map_eq_some_iff.1 h
      simpa using posOf_get hm
theorem posOf_none : ∀ {K : List Nat} {i : Nat}, posOf K i = none → i ∉ K
  | [], i, _ => by simp
  | k :: ks, i, h => by
    simp only [posOf] at h
    split at h
    · cases h
    · rename_i hk
      have : posOf ks i = none := by simpa using h
      have h1 := posOf_none this
      have h2 : k ≠ i := by simpa using hk
      simp only [List.mem_cons, not_or]
      exact ⟨fun e => h2 e.symm, h1⟩
theorem posOf_of {K : List Nat} (hn : K.Nodup) {i j : Nat} (h : K[j]? = some i) : posOf K i = some j := by
  cases hp : posOf K i with
  | none => exact absurd (List.mem_of_getElem? h) (posOf_none hp)
  | some m =>
    have := posOf_get hp
    have e := (List.getElem?_inj (List.getElem?_eq_some_iff.1 h).1 hn).1 (h.trans this.symm)
    rw [e]

def Ctx.pick (C : Ctx) (K : List Nat) (Hs : List Row) (m : Nat) : Ctx :=
  { ρ := fun j => (K[j]?).bind C.ρ, H := Hs, w := C.w, fo := fun b => C.fo b ∨ ∃ i, i ∉ K ∧ C.ρ i = some b, ro := m }
structure Picks (C : Ctx) (K : List Nat) (Hs : List Row) (m : Nat) : Prop where
  nodup : K.Nodup
  len : Hs.length = K.length
  get : ∀ (j : Nat) i, K[j]? = some i → C.H[i]? = Hs[j]? ∧ (m ≤ j → C.ro ≤ i)
  most : m ≤ Hs.length
theorem Picks.lt {C : Ctx} {K : List Nat} {Hs : List Row} {m : Nat} (h : Picks C K Hs m) {i : Nat} (hi : i ∈ K) : i < C.H.length := by
  obtain ⟨j, hj⟩ := List.getElem?_of_mem hi
  have h1 := (h.get j i hj).1
  have h2 : j < Hs.length := by rw [h.len]; exact (List.getElem?_eq_some_iff.1 hj).1
  rw [List.getElem?_eq_getElem h2] at h1
  exact (List.getElem?_eq_some_iff.1 h1).1
theorem pick_row {C : Ctx} {K : List Nat} {Hs : List Row} {m : Nat} (h : Picks C K Hs m) {j i : Nat} (hj : K[j]? = some i) : (C.pick K Hs m).row? j = C.row? i := by
  show rowAt Hs j = rowAt C.H i
  unfold rowAt
  rw [(h.get j i hj).1]
theorem pick_ban {C : Ctx} {K : List Nat} {Hs : List Row} {m : Nat} {b : Nat} (hb : ¬ C.ban b) : ¬ (C.pick K Hs m).ban b := by
  rintro (⟨j, hj⟩ | hf | ⟨i, _, hi⟩)
  · simp only [Ctx.pick] at hj
    obtain ⟨i, _, hi⟩ := Option.bind_eq_some_iff.1 hj
    exact hb (.inl ⟨i, hi⟩)
  · exact hb (.inr hf)
  · exact hb (.inl ⟨i, hi⟩)
theorem rowAt_some {H : List Row} {i : Nat} {r : Row} (h : rowAt H i = some r) : H[i]? = some r := by
  unfold rowAt at h
  split at h
  · rename_i r' hr'
    split at h
    · cases h; exact hr'
    · cases h
  · cases h

theorem pick_rh {P : Program} {C : Ctx} (hR : RH P C) {K : List Nat} {Hs : List Row} {m : Nat} (h : Picks C K Hs m) (hk : rowsOk 0 Hs = true) : RH P (C.pick K Hs m) := by
  have hfree : ∀ {p V}, RV P C p V → mlt 0 p = true → RV P (C.pick K Hs m) p V := fun hv hm => hv.free (fun b hb => Classical.byContradiction fun hn => pick_ban hn hb) rfl hm
  refine ⟨fun j j' b h1 h2 => ?_, fun j b h1 => ?_, fun j b r h1 h2 => ?_, h.most, fun j b h1 => ?_, fun b hb => ?_, fun j b r info h1 h2 h3 h4 => ?_, fun g hl => ⟨pick_ban (hR.glb g hl).1, (hR.glb g hl).2⟩⟩
  · obtain ⟨i, k1, k2⟩ := Option.bind_eq_some_iff.1 h1
    obtain ⟨i', k1', k2'⟩ := Option.bind_eq_some_iff.1 h2
    have := hR.inj i i' b k2 k2'
    subst this
    have e1 := posOf_of h.nodup k1
    have e2 := posOf_of h.nodup k1'
    rw [e1] at e2
    exact Option.some.inj e2
  · obtain ⟨i, k1, k2⟩ := Option.bind_eq_some_iff.1 h1
    rcases hR.dom i b k2 with ⟨r, hr⟩ | ⟨r, info, g1, g2, g3⟩
    · exact .inl ⟨r, by rw [pick_row h k1]; exact hr⟩
    · exact .inr ⟨r, info, by show Hs[j]? = _; rw [← (h.get j i k1).1]; exact g1, g2, g3⟩
  · obtain ⟨i, k1, k2⟩ := Option.bind_eq_some_iff.1 h1
    have h2' : rowAt Hs j = some r := h2
    rw [pick_row h k1] at h2
    have hB := hR.blk i b r k2 h2
    obtain ⟨c, fr, cv, m1, m2, m3, m4⟩ := hB.mem
    refine ⟨hB.sz, ⟨c, fr, cv, m1, m2, m3, fun k e j' p hk1 hj1 => ⟨(m4 k e j' p hk1 hj1).1, hfree (m4 k e j' p hk1 hj1).2 ?_⟩⟩, hB.len, hB.typed⟩
    rcases rowsOk_get hk h2' with hb | hb
    · exact wt_byval (hB.typed hb e (List.mem_of_getElem? hk1)) 0 p (List.mem_of_getElem? hj1)
    · exact mlts_get (hb e (List.mem_of_getElem? hk1)) hj1
  · obtain ⟨i, k1, k2⟩ := Option.bind_eq_some_iff.1 h1
    rintro (hf | ⟨i', hi', hj2⟩)
    · exact hR.nfo i b k2 hf
    · have := hR.inj i i' b k2 hj2
      subst this
      exact hi' (List.mem_of_getElem? k1)
  · rcases hb with hf | ⟨i, _, hi⟩
    · exact hR.fol b hf
    · exact hR.lt hi
  · obtain ⟨i, k1, k2⟩ := Option.bind_eq_some_iff.1 h1
    have h2' : Hs[j]? = some r := h2
    have h5 := rowsOk_lp hk h2' h3
    rw [← (h.get j i k1).1] at h2'
    refine (hR.lps i b r info k2 h2' h3 h4).via (fun hl => ?_) (fun _ _ h => h)
    obtain ⟨⟨rec, m1, m2, m3, m4, m5, m6⟩, ha, hb⟩ := hl
    exact ⟨⟨rec, m1, m2, m3, m4, ⟨m5.1, fun j p v g1 g2 => hfree (m5.2 j p v g1 g2) (mlts_get h5 g1)⟩, m6⟩, ha, hb⟩

def putRows (K : List Nat) (H Hs : List Row) : List Row := H.zipIdx.map fun x => match posOf K x.2 with | some j => Hs.getD j x.1 | none => x.1
theorem putRows_get (K : List Nat) (H Hs : List Row) (i : Nat) : (putRows K H Hs)[i]? = H[i]?.map fun r => match posOf K i with | some j => Hs.getD j r | none => r := by
  simp only [putRows, List.getElem?_map, List.getElem?_zipIdx, Nat.zero_add, Option.map_map]
  congr 1
def Ctx.unpick (C C' : Ctx) (K : List Nat) : Ctx :=
  { ρ := fun i => match posOf K i with | some j => C'.ρ j | none => C.ρ i, H := putRows K C.H C'.H, w := C'.w, fo := C.fo, ro := C.ro }
section
variable {P : Program} {C C' : Ctx} {K : List Nat} {Hs : List Row} {m : Nat}
theorem unpick_len (h : Picks C K Hs m) (hx : Ext (C.pick K Hs m) C') : K.length ≤ C'.H.length := by have := hx.len; simp only [Ctx.pick, h.len] at this; exact this
theorem unpick_get_in (h : Picks C K Hs m) (hx : Ext (C.pick K Hs m) C') {i j : Nat} (hj : K[j]? = some i) : (C.unpick C' K).H[i]? = C'.H[j]? := by
  show (putRows K C.H C'.H)[i]? = _
  have hi := h.lt (List.mem_of_getElem? hj)
  have hl := unpick_len h hx
  have hjl : j < C'.H.length := Nat.lt_of_lt_of_le (List.getElem?_eq_some_iff.1 hj).1 hl
  rw [putRows_get, List.getElem?_eq_getElem hi, posOf_of h.nodup hj, Option.map_some, List.getElem?_eq_getElem hjl]
  simp [List.getD, List.getElem?_eq_getElem hjl]
theorem unpick_get_out {i : Nat} (hi : posOf K i = none) : (C.unpick C' K).H[i]? = C.H[i]? := by
  show (putRows K C.H C'.H)[i]? = _
  rw [putRows_get, hi]
  cases C.H[i]? <;> rfl
theorem unpick_row_in (h : Picks C K Hs m) (hx : Ext (C.pick K Hs m) C') {i j : Nat} (hj : K[j]? = some i) : (C.unpick C' K).row? i = C'.row? j := by
  unfold Ctx.row? rowAt
  rw [unpick_get_in h hx hj]
theorem unpick_row_out {i : Nat} (hi : posOf K i = none) : (C.unpick C' K).row? i = C.row? i := by
  unfold Ctx.row? rowAt
  rw [unpick_get_out hi]
theorem unpick_ban (hx : Ext (C.pick K Hs m) C') (b : Nat) (hb : (C.unpick C' K).ban b) : C'.ban b := by
  rcases hb with ⟨i, hi⟩ | hf
  · simp only [Ctx.unpick] at hi
    split at hi
    · exact .inl ⟨_, hi⟩
    · rename_i hp
      refine .inr ?_
      rw [hx.fo]
      exact .inr ⟨i, posOf_none hp, hi⟩
  · refine .inr ?_
    rw [hx.fo]
    exact .inl hf
theorem pick_own (hR : RH P C) {i b : Nat} (hk : i ∉ K) (hi : C.ρ i = some b) : ¬ (C.pick K Hs m).own b := by
  rintro ⟨j, _, hj⟩
  obtain ⟨i', k1, k2⟩ := Option.bind_eq_some_iff.1 hj
  have := hR.inj i i' b hi k2
  subst this
  exact hk (List.mem_of_getElem? k1)
theorem unpick_ext (_hR : RH P C) (h : Picks C K Hs m) (hx : Ext (C.pick K Hs m) C') : Ext C (C.unpick C' K) := by
  have hl := unpick_len h hx
  refine ⟨hx.os, hx.tape, hx.output, hx.size, fun b hb ho => hx.block b hb fun hm => ho ?_, hx.shape, by simp [Ctx.unpick, putRows], fun i r' hi hr => ?_, fun b hb => ?_, fun b hb => ?_, rfl, rfl, fun i hi => ?_, fun i r info h1 h2 h3 => ?_, hx.loop⟩
  · obtain ⟨j, hjm, hj⟩ := hm
    obtain ⟨i, k1, k2⟩ := Option.bind_eq_some_iff.1 hj
    exact ⟨i, (h.get j i k1).2 hjm, k2⟩
  · cases hp : posOf K i with
    | some j =>
      have hj := posOf_get hp
      rw [unpick_row_in h hx hj] at hr
      obtain ⟨r, a1, a2, a3, a4, a5⟩ := hx.rows j r' (by simp only [Ctx.pick, h.len]; exact (List.getElem?_eq_some_iff.1 hj).1) hr
      rw [pick_row h hj] at a1
      exact ⟨r, a1, a2, a3, a4, fun e => ⟨(a5 e).1, fun b hb => by
        show (match posOf K i with | some j => C'.ρ j | none => C.ρ i) = some b
        rw [hp]
        exact (a5 e).2 b (by simp only [Ctx.pick, hj, Option.bind_some]; exact hb)⟩⟩
    | none =>
      rw [unpick_row_out hp] at hr
      exact ⟨r', hr, rfl, rfl, Nat.le_refl _, fun _ => ⟨rfl, fun b hb => by
        show (match posOf K i with | some j => C'.ρ j | none => C.ρ i) = some b
        rw [hp]; exact hb⟩⟩
  · obtain ⟨i, hi⟩ := hb
    simp only [Ctx.unpick] at hi
    split at hi
    · rcases hx.fresh b ⟨_, hi⟩ with ⟨j, hj⟩ | hs
      · obtain ⟨i', k1, k2⟩ := Option.bind_eq_some_iff.1 hj
        exact .inl ⟨i', k2⟩
      · exact .inr hs
    · exact .inl ⟨i, hi⟩
  · obtain ⟨i, hir, hi⟩ := hb
    simp only [Ctx.unpick] at hi hir
    split at hi
    · rename_i j0 hp0
      by_cases hjm : m ≤ j0
      · rcases hx.freshOwn b ⟨_, by rw [hx.ro]; exact hjm, hi⟩ with ⟨j, hj0, hj⟩ | hs
        · obtain ⟨i', k1, k2⟩ := Option.bind_eq_some_iff.1 hj
          exact .inl ⟨i', (h.get j i' k1).2 hj0, k2⟩
        · exact .inr hs
      · have hl0 := (hx.low j0 (by show j0 < m; omega)).2
        rw [hi] at hl0
        have hb0 := hl0.symm
        simp only [Ctx.pick, posOf_get hp0, Option.bind_some] at hb0
        exact .inl ⟨i, hir, hb0⟩
    · exact .inl ⟨i, hir, hi⟩
  · cases hp : posOf K i with
    | none =>
      refine ⟨unpick_get_out hp, ?_⟩
      show (match posOf K i with | some j => C'.ρ j | none => C.ρ i) = _
      rw [hp]
    | some j =>
      have hj := posOf_get hp
      have hjm : j < m := by
        have := (h.get j i hj).2
        by_cases hm : m ≤ j
        · have := this hm; omega
        · omega
      obtain ⟨l1, l2⟩ := hx.low j hjm
      refine ⟨by rw [unpick_get_in h hx hj, l1]; exact (h.get j i hj).1.symm, ?_⟩
      show (match posOf K i with | some j => C'.ρ j | none => C.ρ i) = _
      rw [hp]
      show C'.ρ j = C.ρ i
      rw [l2]
      simp only [Ctx.pick, hj, Option.bind_some]
  · cases hp : posOf K i with
    | some j =>
      have hj := posOf_get hp
      obtain ⟨⟨r', st, a1, a2, a3⟩, a4⟩ := hx.lp j r info (by show Hs[j]? = _; rw [← (h.get j i hj).1]; exact h1) h2 h3
      refine ⟨⟨r', st, by rw [unpick_get_in h hx hj]; exact a1, a2, a3⟩, fun b hb => ?_⟩
      show (match posOf K i with | some j => C'.ρ j | none => C.ρ i) = _
      rw [hp]
      exact a4 b (by simp only [Ctx.pick, hj, Option.bind_some]; exact hb)
    | none =>
      refine ⟨⟨r, info.st, by rw [unpick_get_out hp]; exact h1, h2, h3⟩, fun b hb => ?_⟩
      show (match posOf K i with | some j => C'.ρ j | none => C.ρ i) = _
      rw [hp]; exact hb
theorem unpick_rh (hR : RH P C) (h : Picks C K Hs m) (hx : Ext (C.pick K Hs m) C') (hR' : RH P C') (hk : rowsOk 0 (C'.H.take K.length) = true) : RH P (C.unpick C' K) := by
  have hl := unpick_len h hx
  have hxe := unpick_ext hR h hx
  have hfree : ∀ {p V}, RV P C' p V → mlt 0 p = true → RV P (C.unpick C' K) p V := fun hv hm => hv.free (unpick_ban hx) rfl hm
  have hfo : ∀ b, C'.fo b ↔ C.fo b ∨ ∃ i, i ∉ K ∧ C.ρ i = some b := fun b => by rw [hx.fo]; rfl
  have hold : ∀ i b, i ∉ K → C.ρ i = some b → C'.w.heap[b]? = C.w.heap[b]? := fun i b hk hi => hx.block b (hR.lt hi) (pick_own hR hk hi)
  have hin : ∀ i j b, posOf K i = some j → (C.unpick C' K).ρ i = some b → C'.ρ j = some b := fun i j b hp hi => by
    have : (match posOf K i with | some j => C'.ρ j | none => C.ρ i) = some b := hi
    rwa [hp] at this
  have hout : ∀ i b, posOf K i = none → (C.unpick C' K).ρ i = some b → C.ρ i = some b := fun i b hp hi => by
    have : (match posOf K i with | some j => C'.ρ j | none => C.ρ i) = some b := hi
    rwa [hp] at this
  have htake : ∀ i j r, posOf K i = some j → C'.H[j]? = some r → (C'.H.take K.length)[j]? = some r := fun i j r hp hr => by
    rw [List.getElem?_take, if_pos (List.getElem?_eq_some_iff.1 (posOf_get hp)).1]; exact hr
  refine ⟨fun i j b h1 h2 => ?_, fun i b h1 => ?_, fun i b r h1 h2 => ?_, Nat.le_trans hR.ro hxe.len, fun i b h1 => ?_, fun b hb => Nat.lt_of_lt_of_le (hR.fol b hb) hxe.size, fun i b r info h1 h2 h3 h4 => ?_, hR.glb.mono hxe⟩
  · cases hp : posOf K i with
    | some p =>
      cases hq : posOf K j with
      | some q =>
        have e := hR'.inj p q b (hin i p b hp h1) (hin j q b hq h2)
        subst e
        have g1 := posOf_get hp
        have g2 := posOf_get hq
        rw [g1] at g2
        exact Option.some.inj g2
      | none => exact absurd ((hfo b).2 (.inr ⟨j, posOf_none hq, hout j b hq h2⟩)) (hR'.nfo p b (hin i p b hp h1))
    | none =>
      cases hq : posOf K j with
      | some q => exact absurd ((hfo b).2 (.inr ⟨i, posOf_none hp, hout i b hp h1⟩)) (hR'.nfo q b (hin j q b hq h2))
      | none => exact hR.inj i j b (hout i b hp h1) (hout j b hq h2)
  · cases hp : posOf K i with
    | some p =>
      rcases hR'.dom p b (hin i p b hp h1) with ⟨r, hr⟩ | ⟨r, info, g1, g2, g3⟩
      · exact .inl ⟨r, by rw [unpick_row_in h hx (posOf_get hp)]; exact hr⟩
      · exact .inr ⟨r, info, by rw [unpick_get_in h hx (posOf_get hp)]; exact g1, g2, g3⟩
    | none =>
      rcases hR.dom i b (hout i b hp h1) with ⟨r, hr⟩ | ⟨r, info, g1, g2, g3⟩
      · exact .inl ⟨r, by rw [unpick_row_out hp]; exact hr⟩
      · exact .inr ⟨r, info, by rw [unpick_get_out hp]; exact g1, g2, g3⟩
  · cases hp : posOf K i with
    | some p =>
      rw [unpick_row_in h hx (posOf_get hp)] at h2
      have hB := hR'.blk p b r (hin i p b hp h1) h2
      obtain ⟨c, fr, cv, m1, m2, m3, m4⟩ := hB.mem
      refine ⟨hB.sz, ⟨c, fr, cv, m1, m2, m3, fun k e j q hk1 hj1 => ⟨(m4 k e j q hk1 hj1).1, hfree (m4 k e j q hk1 hj1).2 ?_⟩⟩, hB.len, hB.typed⟩
      have h2' : rowAt C'.H p = some r := h2
      have h3 : rowAt (C'.H.take K.length) p = some r := by
        have g := htake i p r hp (rowAt_some h2')
        unfold rowAt at h2' ⊢
        rw [g]
        rw [rowAt_some (show rowAt C'.H p = some r from h2)] at h2'
        exact h2'
      rcases rowsOk_get hk h3 with hb | hb
      · exact wt_byval (hB.typed hb e (List.mem_of_getElem? hk1)) 0 q (List.mem_of_getElem? hj1)
      · exact mlts_get (hb e (List.mem_of_getElem? hk1)) hj1
    | none =>
      rw [unpick_row_out hp] at h2
      exact (hR.blk i b r (hout i b hp h1) h2).mono hxe (hold i b (posOf_none hp) (hout i b hp h1))
  · cases hp : posOf K i with
    | some p => exact fun hf => hR'.nfo p b (hin i p b hp h1) ((hfo b).2 (.inl hf))
    | none => exact hR.nfo i b (hout i b hp h1)
  · cases hp : posOf K i with
    | some p =>
      rw [unpick_get_in h hx (posOf_get hp)] at h2
      have h5 := rowsOk_lp hk (htake i p r hp h2) h3
      refine (hR'.lps p b r info (hin i p b hp h1) h2 h3 h4).via (fun hl => ?_) (fun _ _ h => h)
      obtain ⟨⟨rec, m1, m2, m3, m4, m5, m6⟩, ha, hb⟩ := hl
      exact ⟨⟨rec, m1, m2, m3, m4, ⟨m5.1, fun j q v g1 g2 => hfree (m5.2 j q v g1 g2) (mlts_get h5 g1)⟩, m6⟩, ha, hb⟩
    | none =>
      rw [unpick_get_out hp] at h2
      exact (hR.lps i b r info (hout i b hp h1) h2 h3 h4).mono hxe (hold i b (posOf_none hp) (hout i b hp h1))
end

def rowOf : PV → Option Nat | .ptr i _ _ _ => some i | .sl i _ _ _ => some i | .mp i => some i | _ => none
def argRows (args : List PV) : List Nat := args.flatMap fun p => match p with | .fn _ first cap => (first ++ cap).filterMap rowOf | .agg cs => cs.filterMap rowOf | p => (rowOf p).toList
def renB (K : List Nat) : PV → PV
  | .ptr i n k j => match posOf K i with | some m => .ptr m n k j | none => .any
  | .sl i n k l => match posOf K i with | some m => .sl m n k l | none => .any
  | .mp i => match posOf K i with | some m => .mp m | none => .any
  | p => p
def renA (K : List Nat) : PV → PV
  | .fn f first cap => .fn f (first.map (renB K)) (cap.map (renB K))
  | .agg cs => .agg (cs.map (renB K))
  | p => renB K p
def argG : PV → Bool
  | .ptr _ _ _ _ => true
  | .sl _ _ _ _ => true
  | .mp _ => true
  | p => mlt 0 p
def argF : PV → Bool
  | .fn _ first cap => first.all argG && cap.all argG
  | .agg cs => cs.all argG
  | p => argG p
theorem pick_argB {P : Program} {C : Ctx} {K : List Nat} {Hs : List Row} {m : Nat} (h : Picks C K Hs m) {p : PV} {V : Value} (hv : RV P C p V) (ho : argG p = true) : RV P (C.pick K Hs m) (renB K p) V := by
  have hfree : mlt 0 p = true → RV P (C.pick K Hs m) p V := hv.free (fun b hb => Classical.byContradiction fun hn => pick_ban hn hb) rfl
  cases hv with
  | ptr hV hk hi hn h1 =>
    rename_i i n k j
    simp only [renB]
    cases hp : posOf K i with
    | none => exact .any
    | some m =>
      have hm := posOf_get hp
      refine .ptr hV hk (by show m < Hs.length; rw [h.len]; exact (List.getElem?_eq_some_iff.1 hm).1) (fun r hr => hn r (by rw [← pick_row h hm]; exact hr)) fun r hr he => ?_
      obtain ⟨b, g1, g2⟩ := h1 r (by rw [← pick_row h hm]; exact hr) he
      exact ⟨b, by simp only [Ctx.pick, hm, Option.bind_some]; exact g1, g2⟩
  | sl hV hi hn h1 =>
    rename_i i n k l
    simp only [renB]
    cases hp : posOf K i with
    | none => exact .any
    | some m =>
      have hm := posOf_get hp
      refine .sl hV (by show m < Hs.length; rw [h.len]; exact (List.getElem?_eq_some_iff.1 hm).1) (fun r hr => hn r (by rw [← pick_row h hm]; exact hr)) fun r hr he => ?_
      obtain ⟨g0, a, cap, g1, g2, g3⟩ := h1 r (by rw [← pick_row h hm]; exact hr) he
      refine ⟨g0, a, cap, g1, g2, ?_⟩
      unfold SlAt at g3 ⊢
      split
      · rename_i hnl; rw [if_pos hnl] at g3; exact g3
      · rename_i hnl
        rw [if_neg hnl] at g3
        obtain ⟨b, q1, q2⟩ := g3
        exact ⟨b, by simp only [Ctx.pick, hm, Option.bind_some]; exact q1, q2⟩
  | mp hi hl hb =>
    rename_i i b
    simp only [renB]
    cases hp : posOf K i with
    | none => exact .any
    | some m =>
      have hm := posOf_get hp
      obtain ⟨r, info, g1, g2, g3⟩ := hl
      have hg : Hs[m]? = C.H[i]? := (h.get m i hm).1.symm
      refine .mp (by show m < Hs.length; rw [h.len]; exact (List.getElem?_eq_some_iff.1 hm).1) ⟨r, info, by show Hs[m]? = some r; rw [hg]; exact g1, g2, g3⟩ (by simp only [Ctx.pick, hm, Option.bind_some]; exact hb)
  | _ => exact hfree (by simpa [argG] using ho)
theorem pick_arg {P : Program} {C : Ctx} {K : List Nat} {Hs : List Row} {m : Nat} (h : Picks C K Hs m) {p : PV} {V : Value} (hv : RV P C p V) (ho : argF p = true) : RV P (C.pick K Hs m) (renA K p) V := by
  cases hv with
  | fn h1 h2 h3 h4 =>
    simp only [argF, Bool.and_eq_true] at ho
    simp only [renA]
    refine .fn (by simpa using h1) (by simpa using h2) (fun j c v g1 g2 => ?_) (fun j c v g1 g2 => ?_)
    · simp only [List.getElem?_map, Option.map_eq_some_iff] at g1
      obtain ⟨x, hx, rfl⟩ := g1
      exact pick_argB h (h3 j x v hx g2) (List.all_eq_true.1 ho.1 x (List.mem_of_getElem? hx))
    · simp only [List.getElem?_map, Option.map_eq_some_iff] at g1
      obtain ⟨x, hx, rfl⟩ := g1
      exact pick_argB h (h4 j x v hx g2) (List.all_eq_true.1 ho.2 x (List.mem_of_getElem? hx))
  | any => exact pick_argB h .any ho
  | val => exact pick_argB h .val ho
  | ptr a b c d e => exact pick_argB h (.ptr a b c d e) ho
  | sl a b c d => exact pick_argB h (.sl a b c d) ho
  | lptr a b c d e f => exact pick_argB h (.lptr a b c d e f) ho
  | lst a b c d e f g i j => exact pick_argB h (.lst a b c d e f g i j) ho
  | agg h1 h2 =>
    simp only [argF] at ho
    simp only [renA]
    refine .agg (by simpa using h1) fun j c v g1 g2 => ?_
    simp only [List.getElem?_map, Option.map_eq_some_iff] at g1
    obtain ⟨x, hx, rfl⟩ := g1
    exact pick_argB h (h2 j x v hx g2) (List.all_eq_true.1 ho x (List.mem_of_getElem? hx))
  | tup a b => exact pick_argB h (.tup a b) ho
  | ifc a => exact pick_argB h (.ifc a) ho
  | yld a b c => exact pick_argB h (.yld a b c) ho
  | mp a b c => exact pick_argB h (.mp a b c) ho
  | gv a b c d => exact pick_argB h (.gv a b c d) ho
  | bad a => exact pick_argB h (.bad a) ho
def backB (n : Nat) : PV → Bool
  | .sl m _ _ _ => decide (m < n)
  | p => mlt 0 p
def backP (K : List Nat) : PV → PV
  | .sl m n k l => .sl (K.getD m 0) n k l
  | p => p
theorem back_rv {P : Program} {C C' : Ctx} {K : List Nat} {Hs : List Row} {m : Nat} (h : Picks C K Hs m) (hx : Ext (C.pick K Hs m) C') {p : PV} {V : Value} (hv : RV P C' p V) (hb : backB K.length p = true) : RV P (C.unpick C' K) (backP K p) V := by
  have hplain : mlt 0 p = true → RV P (C.unpick C' K) p V := fun hp => hv.free (unpick_ban hx) rfl hp
  cases hv with
  | sl hV hi hn h1 =>
    rename_i m n k l
    simp only [backB, decide_eq_true_eq] at hb
    have hm : K[m]? = some (K.getD m 0) := by rw [List.getD_eq_getElem?_getD, List.getElem?_eq_getElem hb]; rfl
    simp only [backP]
    refine .sl hV (by show K.getD m 0 < (putRows K C.H C'.H).length; simp only [putRows, List.length_map, List.length_zipIdx]; exact h.lt (List.mem_of_getElem? hm)) (fun r hr => hn r (by rw [← unpick_row_in h hx hm]; exact hr)) fun r hr he => ?_
    obtain ⟨g0, a, cap, g1, g2, g3⟩ := h1 r (by rw [← unpick_row_in h hx hm]; exact hr) he
    refine ⟨g0, a, cap, g1, g2, ?_⟩
    unfold SlAt at g3 ⊢
    split
    · rename_i hnl; rw [if_pos hnl] at g3; exact g3
    · rename_i hnl
      rw [if_neg hnl] at g3
      obtain ⟨b, q1, q2⟩ := g3
      refine ⟨b, ?_, q2⟩
      show (match posOf K (K.getD m 0) with | some j => C'.ρ j | none => C.ρ (K.getD m 0)) = some b
      rw [posOf_of h.nodup hm]; exact q1
  | _ => exact hplain hb

def DT.filt {α : Type} (g : α → Bool) : DT α → DT α
  | .leaf a => match g a with | true => .leaf a | false => .no
  | .no => .no
  | .br b x y => .br b (x.filt g) (y.filt g)
theorem DT.run_filt {α : Type} {g : α → Bool} {r : α} : ∀ {d : DT α}, (d.filt g).run = some r → d.run = some r ∧ g r = true
  | .leaf a, h => by
    simp only [DT.filt] at h
    split at h
    · rename_i hg; cases h; exact ⟨rfl, hg⟩
    · cases h
  | .no, h => by cases h
  | .br b x y, h => by
    cases b
    · exact DT.run_filt (d := y) h
    · exact DT.run_filt (d := x) h

def onRows (c : List PV → List Row → Option (DT (PV × List Row))) (ro : Nat) (args : List PV) (H : List Row) : Option (DT (PV × List Row)) :=
  let K := argRows args
  match decide K.Nodup && K.all (fun i => decide (ro ≤ i) && decide (i < H.length)) && args.all argF && rowsOk 0 (K.map fun i => H.getD i default) with
  | true => (c ((args.map (renA K)).map nrm) (K.map fun i => H.getD i default)).map fun d => (d.filt fun r => backB K.length r.1 && r.2.length == K.length && rowsOk 0 r.2).map fun r => (backP K r.1, putRows K H r.2)
  | false => none
def EnvK.addR (E : EnvK) (k : FuncId) (c : List PV → List Row → Option (DT (PV × List Row))) : EnvK := E.addC k (onRows c)
theorem EnvOK.addR {P : Program} {E : EnvK} (hE : EnvOK P E.env) {k : FuncId} {c : List PV → List Row → Option (DT (PV × List Row))} (hent : Enters P k)
    (hc : ∀ args H d p H', c args H = some d → d.run = some (p, H') → RCall P 0 k args H p H') : EnvOK P (E.addR k c).env := by
  refine hE.addC hent fun ro args H d p H' h1 h2 => ?_
  unfold onRows at h1
  dsimp only at h1
  split at h1
  · rename_i hk
    simp only [Bool.and_eq_true, decide_eq_true_eq] at hk
    obtain ⟨⟨⟨hn, hK⟩, hargs⟩, hok⟩ := hk
    obtain ⟨d0, g1, rfl⟩ := Option.map_eq_some_iff.1 h1
    obtain ⟨⟨p0, H0⟩, g2, g3⟩ := DT.run_map h2
    cases g3
    obtain ⟨g4, g5⟩ := DT.run_filt g2
    simp only [Bool.and_eq_true, beq_iff_eq] at g5
    obtain ⟨⟨gp, gl⟩, gk⟩ := g5
    intro C hH hro hR Vs hv
    subst hH
    have hP : Picks C (argRows args) ((argRows args).map fun i => C.H.getD i default) 0 := by
      refine ⟨hn, by simp, fun j i hj => ?_, Nat.zero_le _⟩
      have := List.all_eq_true.1 hK i (List.mem_of_getElem? hj)
      simp only [Bool.and_eq_true, decide_eq_true_eq] at this
      refine ⟨?_, fun _ => by rw [hro]; exact this.1⟩
      rw [List.getElem?_map, hj, Option.map_some, List.getD_eq_getElem?_getD, List.getElem?_eq_getElem this.2]; rfl
    have hR1 := pick_rh hR hP hok
    have hv1 : Cs P (C.pick (argRows args) ((argRows args).map fun i => C.H.getD i default) 0) (args.map (renA (argRows args))) Vs := by
      refine ⟨by simpa using hv.1, fun j c v q1 q2 => ?_⟩
      simp only [List.getElem?_map, Option.map_eq_some_iff] at q1
      obtain ⟨x, hx, rfl⟩ := q1
      exact pick_arg hP (hv.2 j x v hx q2) (List.all_eq_true.1 hargs x (List.mem_of_getElem? hx))
    refine (hc _ _ _ _ _ g1 g4 _ rfl rfl hR1 Vs hv1.nrm).mono ?_
    rintro e w' ⟨V, C', rfl, rfl, hct⟩
    have hH' := hct.H
    have hle := unpick_len hP hct.ext
    refine ⟨V, C.unpick C' (argRows args), rfl, rfl, ?_, unpick_ext hR hP hct.ext, unpick_rh hR hP hct.ext hct.rh ?_, back_rv hP hct.ext hct.rv gp⟩
    · show putRows (argRows args) C.H C'.H = putRows (argRows args) C.H H0
      rw [hH']
    · rw [hH', List.take_of_length_le (by rw [gl]; exact Nat.le_refl _)]; exact gk
  · cases h1

def onRowsE (c : List PV → List Row → Option (DT PV)) (args : List PV) (H : List Row) : Option (DT (PV × List Row)) :=
  let K := argRows args
  match decide K.Nodup && K.all (fun i => decide (i < H.length)) && args.all argF && rowsOk 0 (K.map fun i => H.getD i default) with
  | true => (c ((args.map (renA K)).map nrm) (K.map fun i => H.getD i default)).map fun d => (d.filt fun p => mlt 0 p).map fun p => (p, H)
  | false => none
def EnvK.addRE (E : EnvK) (k : FuncId) (c : List PV → List Row → Option (DT PV)) : EnvK := E.addC k fun _ => onRowsE c
theorem EnvOK.addRE {P : Program} {E : EnvK} (hE : EnvOK P E.env) {k : FuncId} {c : List PV → List Row → Option (DT PV)} (hent : Enters P k)
    (hc : ∀ args H d p, c args H = some d → d.run = some p → RCall P H.length k args H p H) : EnvOK P (E.addRE k c).env := by
  refine hE.addC hent fun ro args H d p H' h1 h2 => ?_
  unfold onRowsE at h1
  dsimp only at h1
  split at h1
  · rename_i hk
    simp only [Bool.and_eq_true, decide_eq_true_eq] at hk
    obtain ⟨⟨⟨hn, hK⟩, hargs⟩, hok⟩ := hk
    obtain ⟨d0, g1, rfl⟩ := Option.map_eq_some_iff.1 h1
    obtain ⟨p0, g2, g3⟩ := DT.run_map h2
    cases g3
    obtain ⟨g4, gp⟩ := DT.run_filt g2
    intro C hH hro hR Vs hv
    subst hH
    have hget : ∀ (j : Nat) i, (argRows args)[j]? = some i → C.H[i]? = ((argRows args).map fun i => C.H.getD i default)[j]? := fun j i hj => by
      have := List.all_eq_true.1 hK i (List.mem_of_getElem? hj)
      simp only [decide_eq_true_eq] at this
      rw [List.getElem?_map, hj, Option.map_some, List.getD_eq_getElem?_getD, List.getElem?_eq_getElem this]; rfl
    have hP : Picks C (argRows args) ((argRows args).map fun i => C.H.getD i default) ((argRows args).map fun i => C.H.getD i default).length :=
      ⟨hn, by simp, fun j i hj => ⟨hget j i hj, fun hm => by
        have h5 := (List.getElem?_eq_some_iff.1 hj).1
        rw [List.length_map] at hm; omega⟩, Nat.le_refl _⟩
    have hR1 := pick_rh hR hP hok
    have hv1 : Cs P (C.pick (argRows args) ((argRows args).map fun i => C.H.getD i default) ((argRows args).map fun i => C.H.getD i default).length) (args.map (renA (argRows args))) Vs := by
      refine ⟨by simpa using hv.1, fun j c v q1 q2 => ?_⟩
      simp only [List.getElem?_map, Option.map_eq_some_iff] at q1
      obtain ⟨x, hx, rfl⟩ := q1
      exact pick_arg hP (hv.2 j x v hx q2) (List.all_eq_true.1 hargs x (List.mem_of_getElem? hx))
    refine (hc _ _ _ _ g1 g4 _ rfl rfl hR1 Vs hv1.nrm).mono ?_
    rintro e w' ⟨V, C', rfl, rfl, hct⟩
    have hH' := hct.H
    have hback : putRows (argRows args) C.H C'.H = C.H := by
      rw [hH']
      apply List.ext_getElem?
      intro i
      rw [putRows_get]
      cases hp : posOf (argRows args) i with
      | none => cases C.H[i]? <;> rfl
      | some j =>
        have hj := posOf_get hp
        have h5 := hget j i hj
        cases h6 : C.H[i]? with
        | none => rfl
        | some r =>
          rw [h6] at h5
          rw [Option.map_some]
          show some (List.getD _ j r) = some r
          rw [List.getD_eq_getElem?_getD, ← h5]; rfl
    refine ⟨V, C.unpick C' (argRows args), rfl, rfl, hback, unpick_ext hR hP hct.ext, unpick_rh hR hP hct.ext hct.rh ?_, hct.rv.free (unpick_ban hct.ext) rfl gp⟩
    rw [hH', List.take_of_length_le (by simp)]; exact hok
  · cases h1

def runSE (P : Program) (E : EnvK) (n : Nat) (f : FuncId) (args : List PV) (H : List Row) : Option PV :=
  callXK P (execK P E n) H.length f args H fun p H' => frzK H' H.length p fun q => need (mlt H.length q && rowsOk H.length (H'.take H.length)) (some q)
theorem runSE_sound {P : Program} {E : EnvK} (hE : EnvOK P E.env) {n : Nat} {f : FuncId} {args : List PV} {H : List Row} {p : PV} (h : runSE P E n f args H = some p) : Enters P f ∧ RCall P H.length f args H p H := by
  obtain ⟨q, H1, h1, h2⟩ := callXK_some (execK_ref n) h
  have h3 := frzK_some h2
  obtain ⟨h4, h5⟩ := need_some h3
  cases h5
  refine ⟨callX_enters h1, fun C hH hro hR Vs hv => ?_⟩
  subst hH
  refine ((callX_sound hE (exec_ok hE n) hR hro hv h1).2).mono ?_
  rintro e w' ⟨V, C', rfl, rfl, hc⟩
  have hlen : C.H.length ≤ C'.H.length := hc.ext.len
  have htk : H1.take C.H.length = C.H := by
    rw [← hc.H]
    apply List.ext_getElem?
    intro i
    rw [List.getElem?_take]
    split
    · rename_i hi; exact (hc.ext.low i (by rw [hro]; exact hi)).1
    · rename_i hi; rw [List.getElem?_eq_none (by omega)]
  obtain ⟨C2, e1, e2⟩ := settle_sound hR hc (show settle C.H.length q H1 = (frz H1 C.H.length q, H1.take C.H.length) by unfold settle; rw [if_pos h4])
  rw [htk] at e2
  exact ⟨V, C2, rfl, e1, e2⟩

def runS (P : Program) (E : EnvK) (n : Nat) (f : FuncId) (args : List PV) (H : List Row) : Option (PV × List Row) :=
  callXK P (execK P E n) 0 f args H fun p H' => frzK H' H.length p fun q => need (mlt H.length q && rowsOk H.length (H'.take H.length)) (some (q, H'.take H.length))
theorem runS_sound {P : Program} {E : EnvK} (hE : EnvOK P E.env) {n : Nat} {f : FuncId} {args : List PV} {H H' : List Row} {p : PV} (h : runS P E n f args H = some (p, H')) : Enters P f ∧ RCall P 0 f args H p H' := by
  obtain ⟨q, H1, h1, h2⟩ := callXK_some (execK_ref n) h
  have h3 := frzK_some h2
  obtain ⟨h4, h5⟩ := need_some h3
  cases h5
  refine ⟨callX_enters h1, fun C hH hro hR Vs hv => ?_⟩
  subst hH
  refine ((callX_sound hE (exec_ok hE n) hR hro hv h1).2).mono ?_
  rintro e w' ⟨V, C', rfl, rfl, hc⟩
  obtain ⟨C2, e1, e2⟩ := settle_sound hR hc (show settle C.H.length q H1 = (frz H1 C.H.length q, H1.take C.H.length) by unfold settle; rw [if_pos h4])
  exact ⟨V, C2, rfl, e1, e2⟩
end Go.Hx
/- Hx: loops' contracts by a model whose states are lists of leaves: a shape takes a state apart and puts it together. -/
namespace Go.Hx
inductive L1 where
  | i (n : Int) | b (b : Bool) | n (n : Nat) | l (f : Bool) (es : List PV) | s (s : ByteArray) | p (p : PV) | r (r : Row) | m (D : List (PV × PV))
inductive X1 where
  | any | int (k : IntKind) | bool | lst (t : TypeId) | str | ptr (i n k j : Nat) | sl (i : Nat) | slo (i : Nat) | nil | pv | yld (i : Nat) | agg (cs : List X1) | fn (f : FuncId) (first cap : List X1) | mp (i : Nat)
abbrev I64 : X1 := .int .i64
mutual
def X1.get : X1 → PV → Option (List L1)
  | .any, .any => some []
  | .int k, .val (.int k' n) => if k == k' then some [.i n] else none
  | .bool, .val (.bool v) => some [.b v]
  | .lst t, .lst f t' es => if t == t' then some [.l f es] else none
  | .str, .val (.string s) => some [.s s]
  | .ptr i n k j, .ptr i' n' k' j' => if i == i' && n == n' && k == k' && j == j' then some [] else none
  | .sl i, .sl i' n k l => if i == i' && k == 0 then some [.n n, .n l] else none
  | .slo i, .sl i' n k l => if i == i' then some [.n n, .n k, .n l] else none
  | .nil, .val (.slice none 0 0) => some []
  | .pv, p => some [.p p]
  | .yld i, .yld i' => if i == i' then some [] else none
  | .agg cs, .agg ps => X1.gets cs ps
  | .mp i, .mp i' => if i == i' then some [] else none
  | .fn f a b, .fn (.func f') ags bs => if f == f' then (match X1.gets a ags, X1.gets b bs with | some x, some y => some (x ++ y) | _, _ => none) else none
  | _, _ => none
def X1.gets : List X1 → List PV → Option (List L1)
  | [], [] => some []
  | c :: cs, p :: ps => match X1.get c p, X1.gets cs ps with | some x, some xs => some (x ++ xs) | _, _ => none
  | _, _ => none
end
mutual
def X1.len : X1 → Nat
  | .any => 0 | .int _ => 1 | .bool => 1 | .lst _ => 1 | .str => 1 | .ptr _ _ _ _ => 0 | .sl _ => 2 | .slo _ => 3 | .nil => 0 | .pv => 1 | .yld _ => 0 | .mp _ => 0 | .agg cs => X1.lens cs | .fn _ a b => X1.lens a + X1.lens b
def X1.lens : List X1 → Nat
  | [] => 0 | c :: cs => c.len + X1.lens cs
end
mutual
def X1.put : X1 → List L1 → PV
  | .any, _ => .any
  | .int k, [.i n] => .val (.int k n)
  | .bool, [.b v] => .val (.bool v)
  | .lst t, [.l f es] => .lst f t es
  | .str, [.s s] => .val (.string s)
  | .ptr i n k j, _ => .ptr i n k j
  | .sl i, [.n n, .n l] => .sl i n 0 l
  | .slo i, [.n n, .n k, .n l] => .sl i n k l
  | .nil, _ => .val (.slice none 0 0)
  | .pv, [.p p] => p
  | .yld i, _ => .yld i
  | .mp i, _ => .mp i
  | .agg cs, xs => .agg (X1.puts cs xs)
  | .fn f a b, xs => .fn (.func f) (X1.puts a (xs.take (X1.lens a))) (X1.puts b (xs.drop (X1.lens a)))
  | _, _ => .any
def X1.puts : List X1 → List L1 → List PV
  | [], _ => []
  | c :: cs, xs => X1.put c (xs.take c.len) :: X1.puts cs (xs.drop c.len)
end
def X1.leafy : X1 → Bool | .agg _ => false | .fn _ _ _ => false | _ => true
theorem X1.get_put0 {c : X1} {p : PV} {x : List L1} (hc : c.leafy = true) (h : c.get p = some x) : p = c.put x ∧ x.length = c.len := by
  unfold X1.get at h
  split at h
  · cases h; exact ⟨rfl, rfl⟩
  · split at h
    · rename_i hk; cases h; rw [beq_iff_eq] at hk; subst hk; exact ⟨rfl, rfl⟩
    · cases h
  · cases h; exact ⟨rfl, rfl⟩
  · split at h
    · rename_i hk; cases h; rw [beq_iff_eq] at hk; subst hk; exact ⟨rfl, rfl⟩
    · cases h
  · cases h; exact ⟨rfl, rfl⟩
  · split at h
    · rename_i hk; cases h; simp only [Bool.and_eq_true, beq_iff_eq] at hk; obtain ⟨⟨⟨rfl, rfl⟩, rfl⟩, rfl⟩ := hk; exact ⟨rfl, rfl⟩
    · cases h
  · split at h
    · rename_i hk; cases h; simp only [Bool.and_eq_true, beq_iff_eq] at hk; obtain ⟨rfl, rfl⟩ := hk; exact ⟨rfl, rfl⟩
    · cases h
  · split at h
    · rename_i hk; cases h; rw [beq_iff_eq] at hk; subst hk; exact ⟨rfl, rfl⟩
    · cases h
  · cases h; exact ⟨rfl, rfl⟩
  · cases h; exact ⟨rfl, rfl⟩
  · split at h
    · rename_i hk; cases h; rw [beq_iff_eq] at hk; subst hk; exact ⟨rfl, rfl⟩
    · cases h
  · cases hc
  · split at h
    · rename_i hk; cases h; rw [beq_iff_eq] at hk; subst hk; exact ⟨rfl, rfl⟩
    · cases h
  · cases hc
  · cases h
mutual
theorem X1.get_put : ∀ (c : X1) {p : PV} {x : List L1}, c.get p = some x → p = c.put x ∧ x.length = c.len
  | .agg cs, p, x, h => by
    cases p with
    | agg ps =>
      simp only [X1.get] at h
      obtain ⟨h1, h2⟩ := X1.gets_puts cs h
      exact ⟨by simp only [X1.put]; rw [← h1], h2⟩
    | _ => simp [X1.get] at h
  | .fn f a b, p, x, h => by
    cases p with
    | fn g ags bs =>
      cases g with
      | func k =>
        simp only [X1.get] at h
        split at h
        · rename_i hf
          split at h
          · rename_i x1 y1 hx hy
            cases h
            obtain ⟨h1, h2⟩ := X1.gets_puts a hx
            obtain ⟨h3, h4⟩ := X1.gets_puts b hy
            rw [beq_iff_eq] at hf
            subst hf
            refine ⟨?_, by simp only [X1.len, List.length_append, h2, h4]⟩
            simp only [X1.put]
            rw [← h2, List.take_left, List.drop_left, ← h1, ← h3]
          · cases h
        · cases h
      | _ => simp [X1.get] at h
    | _ => simp [X1.get] at h
  | .any, _, _, h => X1.get_put0 rfl h
  | .int _, _, _, h => X1.get_put0 rfl h
  | .bool, _, _, h => X1.get_put0 rfl h
  | .lst _, _, _, h => X1.get_put0 rfl h
  | .str, _, _, h => X1.get_put0 rfl h
  | .ptr _ _ _ _, _, _, h => X1.get_put0 rfl h
  | .sl _, _, _, h => X1.get_put0 rfl h
  | .slo _, _, _, h => X1.get_put0 rfl h
  | .nil, _, _, h => X1.get_put0 rfl h
  | .pv, _, _, h => X1.get_put0 rfl h
  | .yld _, _, _, h => X1.get_put0 rfl h
  | .mp _, _, _, h => X1.get_put0 rfl h
theorem X1.gets_puts : ∀ (cs : List X1) {ps : List PV} {x : List L1}, X1.gets cs ps = some x → ps = X1.puts cs x ∧ x.length = X1.lens cs
  | [], ps, x, h => by cases ps <;> simp [X1.gets] at h; subst h; exact ⟨rfl, rfl⟩
  | c :: cs, [], x, h => by simp [X1.gets] at h
  | c :: cs, p :: ps, x, h => by
    simp only [X1.gets] at h
    split at h
    · rename_i a b h1 h2
      cases h
      obtain ⟨e1, e2⟩ := X1.get_put c h1
      obtain ⟨e3, e4⟩ := X1.gets_puts cs h2
      refine ⟨?_, by simp only [X1.lens, List.length_append, e2, e4]⟩
      simp only [X1.puts]
      rw [← e2, List.take_left, List.drop_left, ← e1, ← e3]
    · cases h
end
inductive Y1 where
  | one (t s : Nat) (h : X1) | many (t s : Nat) | raw | onef (t s : Nat) (h : X1) | dead | map (K E : TypeId)
def Y1.get : Y1 → Row → Option (List L1)
  | .one t s h, r => if rowBase r t s && !r.nl then (match r.es with | [e] => h.get e | _ => none) else none
  | .many t s, r => if rowBase r t s then some [.l r.nl r.es] else none
  | .raw, r => some [.r r]
  | .onef t s h, r => if rowBase { r with bv := true } t s && !r.nl && !r.bv then (match r.es with | [e] => h.get e | _ => none) else none
  | .dead, r => match r with | ⟨[], 0, 0, true, false, false, none, false⟩ => some [] | _ => none
  | .map K E, r => match r with | ⟨[], 0, 0, true, false, false, some ⟨⟨0, [], ⟨[]⟩, .skip, .skip⟩, .map K' E' D⟩, false⟩ => if K == K' && E == E' then some [.m D] else none | _ => none
def Y1.len : Y1 → Nat | .one _ _ h => h.len | .many _ _ => 1 | .raw => 1 | .onef _ _ h => h.len | .dead => 0 | .map _ _ => 1
def Y1.put : Y1 → List L1 → Row
  | .one t s h, xs => { es := [h.put xs], s, t, bv := true }
  | .many t s, [.l nl es] => { es, s, t, bv := true, nl }
  | .raw, [.r r] => r
  | .onef t s h, xs => { es := [h.put xs], s, t, bv := false }
  | .dead, _ => deadRow0
  | .map K E, [.m D] => { es := [], s := 0, t := 0, bv := true, live := false, lp := some ⟨⟨0, [], #[], .skip, .skip⟩, .map K E D⟩ }
  | _, _ => default
theorem Y1.get_put {c : Y1} {p : Row} {x : List L1} (h : c.get p = some x) : p = c.put x ∧ x.length = c.len := by
  cases c with
  | one t s sh =>
    simp only [Y1.get] at h
    split at h
    · rename_i hb
      split at h
      · rename_i e he
        simp only [Bool.and_eq_true, Bool.not_eq_true'] at hb
        obtain ⟨h1, h2⟩ := X1.get_put sh h
        refine ⟨?_, h2⟩
        rw [rowBase_eq hb.1, he, hb.2]
        simp only [Y1.put, ← h1]
      · cases h
    · cases h
  | many t s =>
    simp only [Y1.get] at h
    split at h
    · rename_i hb; cases h; exact ⟨rowBase_eq hb, rfl⟩
    · cases h
  | raw => simp only [Y1.get] at h; cases h; exact ⟨rfl, rfl⟩
  | onef t s sh =>
    simp only [Y1.get] at h
    split at h
    · rename_i hb
      split at h
      · rename_i e he
        simp only [Bool.and_eq_true, Bool.not_eq_true'] at hb
        obtain ⟨h1, h2⟩ := X1.get_put sh h
        refine ⟨?_, h2⟩
        have h3 := rowBase_eq hb.1.1
        have h4 : p = { ({ p with bv := true } : Row) with bv := false } := by
          cases p; simp only at hb; simp only [hb.2]
        rw [h4, h3]
        simp only [he, hb.1.2, Y1.put, ← h1]
      · cases h
    · cases h
  | dead =>
    simp only [Y1.get] at h
    split at h
    · cases h; exact ⟨rfl, rfl⟩
    · cases h
  | map K E =>
    simp only [Y1.get] at h
    split at h
    · split at h
      · rename_i hk
        simp only [Bool.and_eq_true, beq_iff_eq] at hk
        obtain ⟨rfl, rfl⟩ := hk
        cases h; exact ⟨rfl, rfl⟩
      · cases h
    · cases h
def Y1.gets : List Y1 → List Row → Option (List L1)
  | [], [] => some []
  | c :: cs, p :: ps => match c.get p, Y1.gets cs ps with | some x, some xs => some (x ++ xs) | _, _ => none
  | _, _ => none
def Y1.puts : List Y1 → List L1 → List Row
  | [], _ => []
  | c :: cs, xs => Y1.put c (xs.take c.len) :: Y1.puts cs (xs.drop c.len)
theorem Y1.gets_puts : ∀ {cs : List Y1} {ps : List Row} {x : List L1}, Y1.gets cs ps = some x → ps = Y1.puts cs x
  | [], [], x, h => rfl
  | [], _ :: _, x, h => by simp [Y1.gets] at h
  | _ :: _, [], x, h => by simp [Y1.gets] at h
  | c :: cs, p :: ps, x, h => by
    simp only [Y1.gets] at h
    split at h
    · rename_i a b h1 h2
      cases h
      obtain ⟨e1, e2⟩ := Y1.get_put h1
      simp only [Y1.puts]
      rw [← e2, List.take_left, List.drop_left, ← e1, ← Y1.gets_puts h2]
    · cases h
def slG (shs : List (Nat × X1)) : Nat → Nat → List PV → Option (List L1)
  | 0, _, [] => some []
  | n + 1, x, p :: S => match ((shs.lookup x).getD .any).get p, slG shs n (x + 1) S with | some a, some b => some (a ++ b) | _, _ => none
  | _, _, _ => none
def slP (shs : List (Nat × X1)) : Nat → Nat → List L1 → List PV
  | 0, _, _ => []
  | n + 1, x, xs => ((shs.lookup x).getD .any).put (xs.take ((shs.lookup x).getD .any).len) :: slP shs n (x + 1) (xs.drop ((shs.lookup x).getD .any).len)
theorem slG_P {shs : List (Nat × X1)} : ∀ {n x : Nat} {S : List PV} {xs : List L1}, slG shs n x S = some xs → S = slP shs n x xs
  | 0, _, [], _, _ => rfl
  | 0, _, _ :: _, _, h => by simp [slG] at h
  | _ + 1, _, [], _, h => by simp [slG] at h
  | n + 1, x, p :: S, xs, h => by
    simp only [slG] at h
    split at h
    · rename_i a b h1 h2
      cases h
      obtain ⟨e1, e2⟩ := X1.get_put _ h1
      simp only [slP]
      rw [← e2, List.take_left, List.drop_left, ← e1, ← slG_P h2]
    · cases h
abbrev LS := List L1 × List L1
structure S1 where
  n : Nat
  S : List (Nat × X1)
  H : List Y1
def S1.get (s : S1) (S : List PV) (H : List Row) : Option LS := match slG s.S s.n 0 S, Y1.gets s.H H with | some a, some b => some (a, b) | _, _ => none
def S1.put (s : S1) (x : LS) : List PV × List Row := (slP s.S s.n 0 x.1, Y1.puts s.H x.2)
theorem S1.get_put {s : S1} : ∀ S H x, s.get S H = some x → S = (s.put x).1 ∧ H = (s.put x).2 := by
  intro S H x h
  unfold S1.get at h
  split at h
  · rename_i a b h1 h2; cases h; exact ⟨slG_P h1, Y1.gets_puts h2⟩
  · cases h
def EnvK.addL2 (E : EnvK) (k : FuncId) (i : Nat) (l : List Tmp) (c : Nat → List PV → List Row → Option (DT (PX × List PV × List Row))) : EnvK :=
  { E with live := fun f j => if f = k then (if j = i then some l else E.live f j) else E.live f j
           lo := fun f ro j S H => if f = k then (if j = i then (match c ro S H with | some d => some d | none => E.lo f ro j S H) else E.lo f ro j S H) else E.lo f ro j S H }
theorem EnvOK.addL2 {P : Program} {E : EnvK} (hE : EnvOK P E.env) {k i : Nat} {l : List Tmp} {c : Nat → List PV → List Row → Option (DT (PX × List PV × List Row))} {fn : Func} {body b0 : Code} (hf : P.funcs[k]? = some fn) (hb : fn.body = some body)
    (h0 : (loops body).filter (fun b => rid b == i) = [b0]) (hc : SubCode P k (.loop b0) → ∀ ro S H d x S' H', c ro S H = some d → d.run = some (x, S', H') → WpTo P (.loop b0) ro S H x S' H') : EnvOK P (E.addL2 k i l c).env where
  opr := hE.opr
  inp := hE.inp
  sft := hE.sft
  sftE := hE.sftE
  ent := hE.ent
  cal := hE.cal
  ora := hE.ora
  lo := fun f fn' b' h1 h2 => by
    refine LoH.of fun b hm hs ro S H x S' H' g => ?_
    change ((if f = k then (if rid b = i then (match c ro S H with | some d => some d | none => E.lo f ro (rid b) S H) else E.lo f ro (rid b) S H) else E.lo f ro (rid b) S H)).bind DT.run = some (x, S', H') at g
    have old : (E.lo f ro (rid b) S H).bind DT.run = some (x, S', H') → WpTo P (.loop b) ro S H x S' H' := fun g => (LoH.sub (P := P) (E := E.env) hs (hE.lo f fn' b' h1 h2)).1 ro S H x S' H' g
    split at g
    · rename_i e
      subst e
      split at g
      · rename_i e2
        split at g
        · rename_i d hd
          rw [hf] at h1; cases h1
          rw [hb] at h2; cases h2
          have hb0 : b = b0 := by
            have : b ∈ (loops body).filter (fun b => rid b == i) := List.mem_filter.2 ⟨hm, by simp [e2]⟩
            rw [h0] at this
            simpa using this
          subst hb0
          exact hc ⟨fn, body, hf, hb, hs⟩ ro S H d x S' H' hd g
        · exact old g
      · exact old g
    · exact old g
def EnvK.addW (E : EnvK) (k i : Nat) (l : List Tmp) (sel : List Bool) (sh : S1) (pre : LS → Bool) (fin : LS → DT (PX × List PV × List Row)) : EnvK := E.addL2 k i l (byModel sel sh.get pre fin)
theorem EnvOK.addW {P : Program} {E : EnvK} (hE : EnvOK P E.env) {n : Nat} {k i : Nat} {fn : Func} {body b : Code} (hf : P.funcs[k]? = some fn) (hb : fn.body = some body) (h0 : (loops body).filter (fun b => rid b == i) = [b])
    (l l' : List Tmp) (sel : List Bool) (sh : S1) {pre : LS → Bool} (m : LS → Nat) {fin : LS → DT (PX × List PV × List Row)}
    (hstep : ∀ s r, pre s = true → (fin s).run = some r → r.1 ≠ .normal ∧ (runB P E n k b l l' (sh.put s).1 (sh.put s).2 = some r ∨
      ∃ s', runB P E n k b l l' (sh.put s).1 (sh.put s).2 = some (.normal, sh.put s') ∧ pre s' = true ∧ m s' < m s ∧ (fin s').run = some r)) :
    EnvOK P (E.addW k i l sel sh pre fin).env :=
  hE.addL2 hf hb h0 fun hs ro S H d x S' H' => loopW hE l l' sh.put S1.get_put m hstep hs ro S H d x S' H'
def runBr (P : Program) (E : EnvK) (n ro : Nat) (f : FuncId) (b : Code) (l l' : List Tmp) (S : List PV) (H : List Row) : Option (PX × List PV × List Row) :=
  execK P E n ro f b S H fun x S1 H1 =>
    need (decide (H.length ≤ H1.length) && rowsOk H.length (H1.take H.length))
      (match x with
      | .normal => frzsK H1 H.length (keepS (some l) S1) fun S2 => some (.normal, trimS H.length S2, H1.take H.length)
      | .exit i => frzsK H1 H.length (keepS (some l') S1) fun S2 => some (.exit i, trimS H.length S2, H1.take H.length)
      | .ret => frzsK H1 H.length (keepS (some l') S1) fun S2 => some (.ret, trimS H.length S2, H1.take H.length))
theorem runBr_sound {P : Program} {E : EnvK} (hE : EnvOK P E.env) {n ro : Nat} {f : FuncId} {b : Code} {l l' : List Tmp} {S S' : List PV} {H H' : List Row} {x : PX} (hb : SubCode P f b) (h : runBr P E n ro f b l l' S H = some (x, S', H')) : WpTo P b ro S H x S' H' := by
  obtain ⟨x1, S1, H1, h1, h2⟩ := execK_ref n _ _ _ _ _ _ _ h
  obtain ⟨h3, h4⟩ := need_some h2
  simp only [Bool.and_eq_true, decide_eq_true_eq] at h3
  have hw := exec_ok hE n _ _ _ _ _ _ _ _ h1 hb
  have key : ∀ L : List Tmp, S' = trimS H.length (frzs H1 H.length (keepS (some L) S1)) → H' = H1.take H.length → WpTo P b ro S H x1 S' H' := by
    rintro L rfl rfl
    intro r C a hH hro hR hs hro2 Q hQ
    refine hw r C a hH hro hR hs hro2 Q fun a' C' hd hH' hxt hR' hs' => ?_
    subst hH
    subst hH'
    exact hQ a' (C'.cut C.H.length False C'.ro) hd rfl (hxt.cut (Nat.le_refl _) h3.1 hR.ro) (hR'.cut h3.1 (by rw [hxt.ro]; exact hR.ro) h3.2) (trimF_sound hR' h3.1 (keepS_sound (some L) hs'))
  cases x1 with
  | normal => cases frzsK_some h4; exact key l rfl rfl
  | exit i => cases frzsK_some h4; exact key l' rfl rfl
  | ret => cases frzsK_some h4; exact key l' rfl rfl
def byModelR {σ : Type} (r : Nat) (get : List PV → List Row → Option σ) (pre : σ → Bool) (fin : σ → DT (PX × List PV × List Row)) (ro : Nat) (S : List PV) (H : List Row) : Option (DT (PX × List PV × List Row)) :=
  match ro == r with
  | true => match get S H with | some s => some (.br (pre s) (fin s) .no) | none => none
  | false => none
theorem loopR {P : Program} {E : EnvK} (hE : EnvOK P E.env) {n q : Nat} {f : FuncId} {b : Code} (l l' : List Tmp) {σ : Type} (emb : σ → List PV × List Row) {get : List PV → List Row → Option σ}
    (hget : ∀ S H s, get S H = some s → S = (emb s).1 ∧ H = (emb s).2) {pre : σ → Bool} (m : σ → Nat) {fin : σ → DT (PX × List PV × List Row)}
    (hstep : ∀ s r, pre s = true → (fin s).run = some r → r.1 ≠ .normal ∧ (runBr P E n q f b l l' (emb s).1 (emb s).2 = some r ∨
      ∃ s', runBr P E n q f b l l' (emb s).1 (emb s).2 = some (.normal, emb s') ∧ pre s' = true ∧ m s' < m s ∧ (fin s').run = some r)) :
    SubCode P f (.loop b) → ∀ (ro : Nat) (S : List PV) (H : List Row) (d : DT (PX × List PV × List Row)) (x : PX) (S' : List PV) (H' : List Row), byModelR q get pre fin ro S H = some d → d.run = some (x, S', H') → WpTo P (.loop b) ro S H x S' H' := by
  intro hsub ro S H d x S' H' hc hd
  unfold byModelR at hc
  split at hc
  · rename_i he
    rw [beq_iff_eq] at he
    subst he
    split at hc
    · rename_i s hs
      obtain rfl := Option.some.inj hc
      obtain ⟨e1, e2⟩ := hget _ _ _ hs
      have hp : pre s = true ∧ (fin s).run = some (x, S', H') := by
        change (match pre s with | true => (fin s).run | false => DT.no.run) = _ at hd
        cases hq : pre s with
        | true => rw [hq] at hd; exact ⟨rfl, hd⟩
        | false => rw [hq] at hd; cases hd
      obtain ⟨hp, hr⟩ := hp
      clear hc hd hs
      have hbody := hsub.sub (.loop .here)
      rw [e2, e1]
      clear e1 e2
      have hx := (hstep s _ hp hr).1
      refine Rnds.loop hx ?_
      generalize hm : m s = k
      induction k using Nat.strongRecOn generalizing s with
      | _ k ih =>
        rcases (hstep s _ hp hr).2 with h1 | ⟨s', h1, h2, h3, h4⟩
        · exact .stop (runBr_sound hE hbody h1)
        · exact .go (runBr_sound hE hbody h1) (ih (m s') (by omega) s' h2 h4 rfl)
    · cases hc
  · cases hc
def EnvK.addWr (E : EnvK) (q k i : Nat) (l : List Tmp) (sh : S1) (pre : LS → Bool) (fin : LS → DT (PX × List PV × List Row)) : EnvK := E.addL2 k i l (byModelR q sh.get pre fin)
theorem EnvOK.addWr {P : Program} {E : EnvK} (hE : EnvOK P E.env) {n q : Nat} {k i : Nat} {fn : Func} {body b : Code} (hf : P.funcs[k]? = some fn) (hb : fn.body = some body) (h0 : (loops body).filter (fun b => rid b == i) = [b])
    (l l' : List Tmp) (sh : S1) {pre : LS → Bool} (m : LS → Nat) {fin : LS → DT (PX × List PV × List Row)}
    (hstep : ∀ s r, pre s = true → (fin s).run = some r → r.1 ≠ .normal ∧ (runBr P E n q k b l l' (sh.put s).1 (sh.put s).2 = some r ∨
      ∃ s', runBr P E n q k b l l' (sh.put s).1 (sh.put s).2 = some (.normal, sh.put s') ∧ pre s' = true ∧ m s' < m s ∧ (fin s').run = some r)) :
    EnvOK P (E.addWr q k i l sh pre fin).env :=
  hE.addL2 hf hb h0 fun hs ro S H d x S' H' => loopR hE l l' sh.put S1.get_put m hstep hs ro S H d x S' H'
def EnvK.addV (E : EnvK) (k i : Nat) (l : List Tmp) : EnvK := { E with live := fun f j => if f = k then (if j = i then some l else E.live f j) else E.live f j }
theorem EnvOK.addV {P : Program} {E : EnvK} (hE : EnvOK P E.env) (k i : Nat) (l : List Tmp) : EnvOK P (E.addV k i l).env where
  opr := hE.opr
  inp := hE.inp
  sft := hE.sft
  sftE := hE.sftE
  ent := hE.ent
  cal := hE.cal
  ora := hE.ora
  lo := fun f fn b h1 h2 => LoH.mono (E := E.env) (E' := (E.addV k i l).env) (fun _ _ _ _ _ _ _ g => g) (hE.lo f fn b h1 h2)
noncomputable def same {α : Type} (a b : α) : Bool := @decide (a = b) (Classical.propDecidable _)
theorem same_iff {α : Type} {a b : α} : same a b = true ↔ a = b := by unfold same; exact @decide_eq_true_iff _ (Classical.propDecidable _)
end Go.Hx
/- Hx: deferred calls that stay; a loop's slots that stay. -/
namespace Go.Hx
def Kept (w w' : World) : Prop := ∀ (b : Nat) d, w.heap[b]? = some (.deferred d) → w'.heap[b]? = some (.deferred d)
theorem Kept.of {P : Program} {C C' : Ctx} (hR : RH P C) (hx : Ext C C') : Kept C.w C'.w := fun b d h => by
  rw [hx.block b (Array.getElem?_eq_some_iff.1 h).1 (fun ho => hR.nodef h ho.has)]; exact h
theorem Dfs.trans' {w w1 w2 : World} {a a' a'' : Act} (h : Dfs w a w1 a') (hsz : w.heap.size ≤ w1.heap.size) (kp : Kept w1 w2) (k : Dfs w1 a' w2 a'') : Dfs w a w2 a'' := by
  obtain ⟨rs, h1, h2, h3⟩ := h
  obtain ⟨qs, k1, k2, k3⟩ := k
  refine ⟨qs ++ rs, ?_, by rw [k2, h2]; simp, fun r hr => ?_⟩
  · rw [List.nodup_append]
    refine ⟨k1, h1, fun x hx y hy e => ?_⟩
    subst e
    have := Dfs.lt (h3 x hy).2
    have := (k3 x hx).1
    omega
  · rcases List.mem_append.1 hr with hr | hr
    · exact ⟨Nat.le_trans hsz (k3 r hr).1, (k3 r hr).2⟩
    · exact ⟨(h3 r hr).1, kp _ _ (h3 r hr).2⟩

theorem wpTo_keep {P : Program} {b : Code} {ro : Nat} {S S1 : List PV} {H H1 : List Row} {x : PX} (l : Option (List Tmp)) (g : WpTo P b ro S H x S1 H1) : WpTo P b ro S H x (keepS l S1) H1 :=
  fun r C a hH hro hR hs hro2 Q hQ => g r C a hH hro hR hs hro2 Q fun a' C' hd hH' hx hR' hs' => hQ a' C' hd hH' hx hR' (keepS_sound l hs')
end Go.Hx
/- Hx: rows that are no more needed are let go, the others numbered anew (also where rows name rows); loops at whose rounds' ends that is done. -/
namespace Go.Hx
mutual
/-- Rows have other numbers: row K[j] is row j. -/
def ren (K : List Nat) : PV → PV
  | .ptr i n k j => match posOf K i with | some m => .ptr m n k j | none => .any
  | .sl i n k l => match posOf K i with | some m => .sl m n k l | none => .any
  | .mp i => match posOf K i with | some m => .mp m | none => .any
  | .yld i => match posOf K i with | some m => .yld m | none => .any
  | .agg cs => .agg (rens K cs)
  | .tup cs => .tup (rens K cs)
  | .fn f a b => .fn f (rens K a) (rens K b)
  | .ifc t v => .ifc t (ren K v)
  | p => p
def rens (K : List Nat) : List PV → List PV
  | [] => []
  | p :: ps => ren K p :: rens K ps
end
theorem rens_map (K : List Nat) : ∀ ps, rens K ps = ps.map (ren K)
  | [] => rfl
  | p :: ps => by simp [rens, rens_map K ps]
theorem ren_cells (K : List Nat) (e : PV) : (ren K e).cells = e.cells.map (ren K) := by
  cases e with
  | val v => cases v <;> simp [ren, PV.cells]
  | agg cs => simp [ren, PV.cells, rens_map]
  | ptr i n k j => simp only [ren, PV.cells, List.map_cons, List.map_nil]; cases posOf K i <;> rfl
  | sl i n k l => simp only [ren, PV.cells, List.map_cons, List.map_nil]; cases posOf K i <;> rfl
  | mp i => simp only [ren, PV.cells, List.map_cons, List.map_nil]; cases posOf K i <;> rfl
  | yld i => simp only [ren, PV.cells, List.map_cons, List.map_nil]; cases posOf K i <;> rfl
  | _ => rfl
mutual
/-- What names no row stays. -/
theorem ren_byval {K : List Nat} : ∀ {p : PV}, mlt 0 p = true → ren K p = p
  | .val _, _ => rfl
  | .any, _ => rfl
  | .lst _ _ _, _ => rfl
  | .lptr _ _ _, _ => rfl
  | .gv _, _ => rfl
  | .bad _, _ => rfl
  | .ptr _ _ _ _, h => by simp [mlt] at h
  | .sl _ _ _ _, h => by simp [mlt] at h
  | .mp _, h => by simp [mlt] at h
  | .yld _, h => by simp [mlt] at h
  | .agg cs, h => by simp only [ren]; rw [rens_byval (by simpa [mlt] using h)]
  | .tup cs, h => by simp only [ren]; rw [rens_byval (by simpa [mlt] using h)]
  | .fn f a b, h => by
    simp only [mlt, Bool.and_eq_true] at h
    simp only [ren]; rw [rens_byval h.1, rens_byval h.2]
  | .ifc t v, h => by simp only [ren]; rw [ren_byval (by simpa [mlt] using h)]
theorem rens_byval {K : List Nat} : ∀ {ps : List PV}, mlts 0 ps = true → rens K ps = ps
  | [], _ => rfl
  | p :: ps, h => by
    simp only [mlts, Bool.and_eq_true] at h
    simp only [rens]; rw [ren_byval h.1, rens_byval h.2]
end
def renR (K : List Nat) (r : Row) : Row :=
  match r.live with
  | false => r
  | true => match r.bv with | true => r | false => { r with es := r.es.map (ren K) }
theorem renR_shp (K : List Nat) (r : Row) : ShpR r (renR K r) := by
  unfold renR
  cases hl : r.live with
  | false => exact ⟨rfl, rfl, rfl, rfl⟩
  | true => cases hb : r.bv <;> simp [ShpR]
theorem renR_live (K : List Nat) (r : Row) : (renR K r).live = r.live := by
  unfold renR
  cases hl : r.live with
  | false => exact hl
  | true => cases hb : r.bv <;> simp [hl]
theorem renR_lp (K : List Nat) (r : Row) : (renR K r).lp = r.lp := by
  unfold renR
  cases hl : r.live with
  | false => rfl
  | true => cases hb : r.bv <;> rfl
theorem renR_dead {K : List Nat} {r : Row} (h : r.live = false) : renR K r = r := by unfold renR; rw [h]
def gcH (K : List Nat) (H : List Row) : List Row := K.map fun i => renR K (H.getD i default)
def Ctx.gc (C : Ctx) (K : List Nat) : Ctx := { C with ρ := fun j => K[j]?.bind C.ρ, H := gcH K C.H }
structure Gc (C : Ctx) (K : List Nat) : Prop where
  nodup : K.Nodup
  lt : ∀ i, i ∈ K → i < C.H.length
  lpc : ∀ (i : Nat) r info, C.H[i]? = some r → r.lp = some info → mlts 0 info.k.S0 = true
section
variable {P : Program} {C : Ctx} {K : List Nat}
theorem gc_get (h : Gc C K) {j i : Nat} (hj : K[j]? = some i) : (C.gc K).H[j]? = C.H[i]?.map (renR K) := by
  show (K.map _)[j]? = _
  have hi := h.lt i (List.mem_of_getElem? hj)
  rw [List.getElem?_map, hj, Option.map_some, List.getD_eq_getElem?_getD, List.getElem?_eq_getElem hi]; rfl
theorem gc_row (h : Gc C K) {j i : Nat} (hj : K[j]? = some i) : (C.gc K).row? j = (C.row? i).map (renR K) := by
  show rowAt (C.gc K).H j = (rowAt C.H i).map _
  unfold rowAt
  rw [gc_get h hj]
  cases C.H[i]? with
  | none => rfl
  | some r =>
    show (if (renR K r).live = true then some (renR K r) else none) = Option.map _ (if r.live = true then some r else none)
    rw [renR_live]
    by_cases hl : r.live = true
    · rw [if_pos hl, if_pos hl]; rfl
    · rw [if_neg hl, if_neg hl]; rfl
theorem gc_ρ {j b : Nat} (h : (C.gc K).ρ j = some b) : ∃ i, K[j]? = some i ∧ C.ρ i = some b := Option.bind_eq_some_iff.1 h
theorem gc_ban {b : Nat} (hb : ¬ C.ban b) : ¬ (C.gc K).ban b := by
  rintro (⟨j, hj⟩ | hf)
  · obtain ⟨i, _, hi⟩ := gc_ρ hj; exact hb (.inl ⟨i, hi⟩)
  · exact hb (.inr hf)
theorem RV.gc (h : Gc C K) {p : PV} {V : Value} (hv : RV P C p V) : RV P (C.gc K) (ren K p) V := by
  induction hv with
  | any => exact .any
  | val => exact .val
  | @ptr i n k j V hV hk hi hn h1 =>
    simp only [ren]
    cases hp : posOf K i with
    | none => exact .any
    | some m =>
      have hm := posOf_get hp
      refine .ptr hV hk (by show m < (gcH K C.H).length; simp [gcH]; exact (List.getElem?_eq_some_iff.1 hm).1) (fun r hr => ?_) fun r hr he => ?_
      · rw [gc_row h hm] at hr
        obtain ⟨r0, a, rfl⟩ := Option.map_eq_some_iff.1 hr
        rw [← (renR_shp K r0).2.1]; exact hn r0 a
      · rw [gc_row h hm] at hr
        obtain ⟨r0, a, rfl⟩ := Option.map_eq_some_iff.1 hr
        obtain ⟨b, g1, g2⟩ := h1 r0 a (by rw [(renR_shp K r0).2.1]; exact he)
        exact ⟨b, by simp only [Ctx.gc, hm, Option.bind_some]; exact g1, by rw [← (renR_shp K r0).1]; exact g2⟩
  | lptr cv hb hlt hc hr ht ih =>
    rename_i t e j b off
    simp only [ren]
    refine .lptr cv (gc_ban hb) hlt hc (fun x p hx => ?_) ht
    have h2 := ih x p hx
    have h3 : ren K p = p := ren_byval (wt_byval ht 0 _ (List.mem_of_getElem? hx))
    rw [h3] at h2; exact h2
  | @sl i n k len V hV hi hn h1 =>
    simp only [ren]
    cases hp : posOf K i with
    | none => exact .any
    | some m =>
      have hm := posOf_get hp
      refine .sl hV (by show m < (gcH K C.H).length; simp [gcH]; exact (List.getElem?_eq_some_iff.1 hm).1) (fun r hr => ?_) fun r hr he => ?_
      · rw [gc_row h hm] at hr
        obtain ⟨r0, a, rfl⟩ := Option.map_eq_some_iff.1 hr
        rw [← (renR_shp K r0).2.1]; exact hn r0 a
      · rw [gc_row h hm] at hr
        obtain ⟨r0, a, rfl⟩ := Option.map_eq_some_iff.1 hr
        obtain ⟨g0, ad, cap, g1, g2, g3⟩ := h1 r0 a (by rw [(renR_shp K r0).2.1]; exact he)
        refine ⟨g0, ad, cap, g1, g2, ?_⟩
        unfold SlAt at *
        rw [← (renR_shp K r0).1, ← (renR_shp K r0).2.2.1, ← (renR_shp K r0).2.1]
        split
        · rename_i hnl; rwa [if_pos hnl] at g3
        · rename_i hnl
          rw [if_neg hnl] at g3
          obtain ⟨b, q1, q2⟩ := g3
          exact ⟨b, by simp only [Ctx.gc, hm, Option.bind_some]; exact q1, q2⟩
  | lst b off cv hcap hfull ha hc hr ht ih =>
    rename_i full t es a cap
    simp only [ren]
    refine .lst b off cv hcap hfull (fun h0 => ?_) hc (fun x e j p hx hj => ?_) ht
    · obtain ⟨g1, g2, g3⟩ := ha h0
      exact ⟨g1, gc_ban g2, g3⟩
    · have h2 := ih x e j p hx hj
      have h3 : ren K p = p := ren_byval (wt_byval (ht e (List.mem_of_getElem? hx)) 0 _ (List.mem_of_getElem? hj))
      rw [h3] at h2; exact h2
  | agg hs _ ih =>
    simp only [ren, rens_map]
    refine .agg (by simpa using hs) fun j c v h1 h2 => ?_
    rw [List.getElem?_map] at h1
    obtain ⟨x, hx, rfl⟩ := Option.map_eq_some_iff.1 h1
    exact ih j x v hx h2
  | tup hs _ ih =>
    simp only [ren, rens_map]
    refine .tup (by simpa using hs) fun j c v h1 h2 => ?_
    rw [List.getElem?_map] at h1
    obtain ⟨x, hx, rfl⟩ := Option.map_eq_some_iff.1 h1
    exact ih j x v hx h2
  | fn h1 h2 _ _ ih3 ih4 =>
    simp only [ren, rens_map]
    refine .fn (by simpa using h1) (by simpa using h2) (fun j c v g1 g2 => ?_) (fun j c v g1 g2 => ?_)
    · rw [List.getElem?_map] at g1
      obtain ⟨x, hx, rfl⟩ := Option.map_eq_some_iff.1 g1
      exact ih3 j x v hx g2
    · rw [List.getElem?_map] at g1
      obtain ⟨x, hx, rfl⟩ := Option.map_eq_some_iff.1 g1
      exact ih4 j x v hx g2
  | ifc _ ih => simp only [ren]; exact .ifc ih
  | @yld i b hi hl hb =>
    simp only [ren]
    cases hp : posOf K i with
    | none => exact .any
    | some m =>
      have hm := posOf_get hp
      obtain ⟨r, info, g1, g2, g3⟩ := hl
      exact .yld (by show m < (gcH K C.H).length; simp [gcH]; exact (List.getElem?_eq_some_iff.1 hm).1) ⟨r, info, by rw [gc_get h hm, g1, Option.map_some, renR_dead g3], g2, g3⟩ (by simp only [Ctx.gc, hm, Option.bind_some]; exact hb)
  | @mp i b hi hl hb =>
    simp only [ren]
    cases hp : posOf K i with
    | none => exact .any
    | some m =>
      have hm := posOf_get hp
      obtain ⟨r, info, g1, g2, g3⟩ := hl
      exact .mp (by show m < (gcH K C.H).length; simp [gcH]; exact (List.getElem?_eq_some_iff.1 hm).1) ⟨r, info, by rw [gc_get h hm, g1, Option.map_some, renR_dead g3], g2, g3⟩ (by simp only [Ctx.gc, hm, Option.bind_some]; exact hb)
  | gv hb hlt hc hV => exact .gv (gc_ban hb) hlt hc hV
  | bad hb => exact .bad (hb.tr fun x v h1 h2 h3 => ⟨gc_ban h1, h2, h3⟩)
end
section
variable {P : Program} {C : Ctx} {K : List Nat}
theorem RH.gc (hR : RH P C) (h : Gc C K) (hro : C.ro ≤ K.length) : RH P (C.gc K) := by
  refine ⟨fun i j b h1 h2 => ?_, fun j b h1 => ?_, fun j b r h1 h2 => ?_, by simpa [Ctx.gc, gcH] using hro, fun j b h1 => ?_, fun b hb => hR.fol b hb, fun j b r info h1 h2 h3 h4 => ?_, fun g hl => ⟨gc_ban (hR.glb g hl).1, (hR.glb g hl).2⟩⟩
  · obtain ⟨a, k1, k2⟩ := gc_ρ h1
    obtain ⟨c, l1, l2⟩ := gc_ρ h2
    have := hR.inj _ _ _ k2 l2
    subst this
    have hi : i < K.length := (List.getElem?_eq_some_iff.1 k1).1
    exact (List.getElem?_inj hi h.nodup).1 (k1.trans l1.symm)
  · obtain ⟨i, k1, k2⟩ := gc_ρ h1
    rcases hR.dom i b k2 with ⟨r, hr⟩ | ⟨r, info, g1, g2, g3⟩
    · exact .inl ⟨renR K r, by rw [gc_row h k1, hr]; rfl⟩
    · exact .inr ⟨r, info, by rw [gc_get h k1, g1, Option.map_some, renR_dead g3], g2, g3⟩
  · obtain ⟨i, k1, k2⟩ := gc_ρ h1
    rw [gc_row h k1] at h2
    obtain ⟨r0, a, rfl⟩ := Option.map_eq_some_iff.1 h2
    have hB := hR.blk i b r0 k2 a
    obtain ⟨c, fr, cv, m1, m2, m3, m4⟩ := hB.mem
    have hlive := live_of a
    unfold renR
    rw [hlive]
    dsimp only
    cases hbv : r0.bv with
    | true =>
      dsimp only
      refine ⟨hB.sz, ⟨c, fr, cv, m1, m2, m3, fun k e j p hk hj => ⟨(m4 k e j p hk hj).1, ?_⟩⟩, hB.len, hB.typed⟩
      have h3 : ren K p = p := ren_byval (wt_byval (hB.typed hbv e (List.mem_of_getElem? hk)) 0 p (List.mem_of_getElem? hj))
      have := (m4 k e j p hk hj).2.gc h
      rw [h3] at this; exact this
    | false =>
      dsimp only
      refine ⟨hB.sz, ⟨c, fr, cv, m1, m2, by simpa using m3, fun k e j p hk hj => ?_⟩, fun e he => ?_, fun hb2 => by cases hb2⟩
      · simp only [List.getElem?_map, Option.map_eq_some_iff] at hk
        obtain ⟨e0, hk0, rfl⟩ := hk
        rw [ren_cells, List.getElem?_map, Option.map_eq_some_iff] at hj
        obtain ⟨p0, hj0, rfl⟩ := hj
        exact ⟨(m4 k e0 j p0 hk0 hj0).1, (m4 k e0 j p0 hk0 hj0).2.gc h⟩
      · obtain ⟨e0, he0, rfl⟩ := List.mem_map.1 he
        rw [ren_cells, List.length_map]
        exact hB.len e0 he0
  · obtain ⟨i, k1, k2⟩ := gc_ρ h1
    exact hR.nfo i b k2
  · obtain ⟨i, k1, k2⟩ := gc_ρ h1
    rw [gc_get h k1] at h2
    obtain ⟨r0, a, rfl⟩ := Option.map_eq_some_iff.1 h2
    rw [renR_lp] at h3
    rw [renR_live] at h4
    refine (hR.lps i b r0 info k2 a h3 h4).via (fun hl => ?_) (fun _ _ h => h)
    obtain ⟨⟨rec, m1, m2, m3, m4, m5, m6⟩, ha, hb⟩ := hl
    refine ⟨⟨rec, m1, m2, m3, m4, ⟨m5.1, fun j p v g1 g2 => ?_⟩, m6⟩, ha, hb⟩
    have h5 : ren K p = p := ren_byval (mlts_get (h.lpc i r0 info a h3) g1)
    have := (m5.2 j p v g1 g2).gc h
    rw [h5] at this; exact this
theorem RSl.gc (h : Gc C K) {S : List PV} {t : Array Value} (hs : RSl P C S t) : RSl P (C.gc K) (S.map (ren K)) t := by
  refine ⟨by simpa using hs.1, fun i p v h1 h2 => ?_⟩
  rw [List.getElem?_map] at h1
  obtain ⟨q, hq, rfl⟩ := Option.map_eq_some_iff.1 h1
  exact (hs.2 i q v hq h2).gc h
theorem Ext.gc {C0 : Ctx} (hx : Ext C0 C) (h : Gc C K) (h0 : ∀ i, i < C0.H.length → K[i]? = some i) (hro : C0.ro = 0) : Ext C0 (C.gc K) where
  os := hx.os
  tape := hx.tape
  output := hx.output
  size := hx.size
  block := hx.block
  shape := hx.shape
  len := by
    show C0.H.length ≤ (gcH K C.H).length
    have : (gcH K C.H).length = K.length := by simp [gcH]
    rw [this]
    rcases Nat.eq_zero_or_pos C0.H.length with g | g
    · omega
    · have := (List.getElem?_eq_some_iff.1 (h0 (C0.H.length - 1) (by omega))).1
      omega
  rows i r' hi hr := by
    rw [gc_row h (h0 i hi)] at hr
    obtain ⟨r1, a, rfl⟩ := Option.map_eq_some_iff.1 hr
    obtain ⟨s1, s2, s3, s4⟩ := renR_shp K r1
    obtain ⟨r, b1, b2, b3, b4, b5⟩ := hx.rows i r1 hi a
    refine ⟨r, b1, b2.trans s1, b3.trans s4, by rw [← s2]; exact b4, fun e => ⟨(b5 (by rw [s2]; exact e)).1.trans s3, fun b hb => ?_⟩⟩
    show (K[i]?.bind C.ρ) = some b
    rw [h0 i hi]
    exact (b5 (by rw [s2]; exact e)).2 b hb
  fresh b hb := by
    obtain ⟨j, hj⟩ := hb
    obtain ⟨i, _, hi⟩ := gc_ρ hj
    exact hx.fresh b ⟨i, hi⟩
  freshOwn b hb := by
    obtain ⟨j, _, hj⟩ := hb
    obtain ⟨i, _, hi⟩ := gc_ρ hj
    exact hx.freshOwn b ⟨i, by rw [hx.ro, hro]; omega, hi⟩
  fo := hx.fo
  ro := hx.ro
  low i hi := by omega
  lp i r info h1 h2 h3 := by
    obtain ⟨⟨r', st, a1, a2, a3⟩, a4⟩ := hx.lp i r info h1 h2 h3
    have hi := (List.getElem?_eq_some_iff.1 h1).1
    refine ⟨⟨r', st, by rw [gc_get h (h0 i hi), a1, Option.map_some, renR_dead a3], a2, a3⟩, fun b hb => ?_⟩
    show (K[i]?.bind C.ρ) = some b
    rw [h0 i hi]
    exact a4 b hb
  loop := hx.loop
end
def lp0 (H : List Row) : Bool := H.all fun r => match r.lp with | some info => mlts 0 info.k.S0 | none => true
def gcOk (n0 : Nat) (K : List Nat) (H : List Row) : Bool := decide K.Nodup && K.all (fun i => decide (i < H.length)) && lp0 H && (List.range n0).all fun i => K[i]? == some i
theorem gcOk_gc {n0 : Nat} {K : List Nat} {C : Ctx} (h : gcOk n0 K C.H = true) : Gc C K ∧ ∀ i, i < n0 → K[i]? = some i := by
  simp only [gcOk, Bool.and_eq_true, decide_eq_true_eq, List.all_eq_true, List.mem_range, beq_iff_eq] at h
  obtain ⟨⟨⟨h1, h2⟩, h3⟩, h4⟩ := h
  refine ⟨⟨h1, h2, fun i r info g1 g2 => ?_⟩, h4⟩
  have := List.all_eq_true.1 h3 r (List.mem_of_getElem? g1)
  rw [g2] at this; exact this
inductive RndsG (P : Program) (b : Code) (n0 : Nat) (x : PX) (S' : List PV) (H' : List Row) : List PV → List Row → Prop
  | stop {S : List PV} {H : List Row} (g : WpTo P b 0 S H x S' H') : RndsG P b n0 x S' H' S H
  | go {S S1 : List PV} {H H1 : List Row} {K : List Nat} (g : WpTo P b 0 S H .normal S1 H1) (ok : gcOk n0 K H1 = true) (k : RndsG P b n0 x S' H' (S1.map (ren K)) (gcH K H1)) : RndsG P b n0 x S' H' S H
theorem roundsG {P : Program} {b : Code} {n0 : Nat} {x : PX} {S' : List PV} {H' : List Row} (hx : x ≠ .normal) {S : List PV} {H : List Row} (hr : RndsG P b n0 x S' H' S H) :
    ∃ n, ∀ (r : Option Nat) (C0 C : Ctx) (a : Act), C.H = H → C.ro = 0 → RH P C → RSl P C S a.tmps → RoundOK r C.w → C0.H.length = n0 → C0.ro = 0 → Ext C0 C → ∀ Q : Exit → Act → World → Prop,
      (∀ (a' : Act) (C' : Ctx), Dfs C.w a C'.w a' → Kept C.w C'.w → C'.H = H' → Ext C0 C' → RH P C' → RSl P C' S' a'.tmps → Q (XOut x) a' C'.w) → Code.roundsIn (Fr r) 0 P b Q (n + 1) a C.w := by
  induction hr with
  | @stop S H g =>
    refine ⟨0, fun r C0 C a hH hro hR hs hro2 h0 hr0 hx0 Q hQ => ?_⟩
    rw [roundsIn_succ]
    refine g r C a hH hro hR hs hro2 _ fun a' C' hd hH' hxt hR' hs' => ?_
    have hq := hQ a' C' hd (Kept.of hR hxt) hH' (hx0.trans hxt) hR' hs'
    cases x with
    | normal => exact absurd rfl hx
    | exit id => exact hq
    | ret => exact hq
  | @go S S1 H H1 K g ok _ ih =>
    obtain ⟨n, ih⟩ := ih
    refine ⟨n + 1, fun r C0 C a hH hro hR hs hro2 h0 hr0 hx0 Q hQ => ?_⟩
    rw [roundsIn_succ]
    refine g r C a hH hro hR hs hro2 _ fun a' C' hdf hH' hxt hR' hs' => ?_
    show Code.roundsIn (Fr r) 0 P b Q (n + 1) a' C'.w
    subst hH'
    obtain ⟨hg, hk⟩ := gcOk_gc ok
    have kp1 := Kept.of hR hxt
    have hro' : C'.ro = 0 := by rw [hxt.ro]; exact hro
    refine ih r C0 (C'.gc K) a' rfl hro' (hR'.gc hg (by rw [hro']; exact Nat.zero_le _)) (hs'.gc hg) (show RoundOK r C'.w from hro2.mono hxt) h0 hr0 ((hx0.trans hxt).gc hg (by rw [h0]; exact hk) hr0) Q fun a2 C2 hd2 kp2 hH2 hx2 hR2 hs2 => ?_
    exact hQ a2 C2 (hdf.trans' hxt.size kp2 hd2) (fun b d h => kp2 b d (kp1 b d h)) hH2 hx2 hR2 hs2
theorem loopG {P : Program} {b : Code} {x : PX} {S S' : List PV} {H H' : List Row} (hx : x ≠ .normal) (hr : RndsG P b H.length x S' H' S H) : WpTo P (.loop b) 0 S H x S' H' := by
  obtain ⟨n, hn⟩ := roundsG hx hr
  intro r C a hH hro hR hs hro2 Q hQ
  exact wpIn_loop_rounds (n + 1) (hn r C C a hH hro hR hs hro2 (by rw [hH]) hro (.refl C) Q fun a' C' hd _ hH' hx' hR' hs' => hQ a' C' hd hH' hx' hR' hs')
def runG (P : Program) (E : EnvK) (n : Nat) (f : FuncId) (b : Code) (n0 : Nat) (l l' : List Tmp) (K : List PV → List Row → List Nat) (S : List PV) (H : List Row) : Option (PX × List PV × List Row) :=
  execK P E n 0 f b S H fun x S1 H1 =>
    match x with
    | .normal => need (gcOk n0 (K S1 H1) H1) (some (.normal, (keepS (some l) S1).map (ren (K S1 H1)), gcH (K S1 H1) H1))
    | .exit i => some (.exit i, keepS (some l') S1, H1)
    | .ret => some (.ret, keepS (some l') S1, H1)
theorem runG_go {P : Program} {E : EnvK} (hE : EnvOK P E.env) {n : Nat} {f : FuncId} {b : Code} {n0 : Nat} {l l' : List Tmp} {K : List PV → List Row → List Nat} {S S2 S' : List PV} {H H2 H' : List Row} {x : PX} (hb : SubCode P f b)
    (g : runG P E n f b n0 l l' K S H = some (.normal, S2, H2)) (k : RndsG P b n0 x S' H' S2 H2) : RndsG P b n0 x S' H' S H := by
  obtain ⟨x1, S1, H1, h1, h2⟩ := execK_ref n _ _ _ _ _ _ _ g
  have hw := exec_ok hE n _ _ _ _ _ _ _ _ h1 hb
  cases x1 with
  | normal =>
    obtain ⟨h3, h4⟩ := need_some h2
    cases h4
    exact .go (wpTo_keep (some l) hw) h3 k
  | exit i => cases h2
  | ret => cases h2
theorem runG_stop {P : Program} {E : EnvK} (hE : EnvOK P E.env) {n : Nat} {f : FuncId} {b : Code} {n0 : Nat} {l l' : List Tmp} {K : List PV → List Row → List Nat} {S S' : List PV} {H H' : List Row} {x : PX} (hb : SubCode P f b) (hx : x ≠ .normal)
    (g : runG P E n f b n0 l l' K S H = some (x, S', H')) : RndsG P b n0 x S' H' S H := by
  obtain ⟨x1, S1, H1, h1, h2⟩ := execK_ref n _ _ _ _ _ _ _ g
  have hw := exec_ok hE n _ _ _ _ _ _ _ _ h1 hb
  cases x1 with
  | normal => obtain ⟨_, h4⟩ := need_some h2; cases h4; exact absurd rfl hx
  | exit i => cases h2; exact .stop (wpTo_keep (some l') hw)
  | ret => cases h2; exact .stop (wpTo_keep (some l') hw)
end Go.Hx
/- Hx: the contract of a sort of ints on a row. -/
namespace Go.Hx
open Go.Sort Go.Shelf Go.RowKit Go.Proofs

def nums (es : List PV) : List Int := es.map fun e => (e.cellAt 0).getI
def srtI (es : List PV) : List PV := ((nums es).mergeSort fun x y => decide (x ≤ y)).map fun n => .val (.int .i64 n)
theorem srtI_length (es : List PV) : (srtI es).length = es.length := by simp [srtI, nums]

theorem wt_int {P : Program} {t : TypeId} (hk : kinds P t = [.int .i64]) {e : PV} (h : wt P t e = true) : ∃ n, e.cells = [.val (.int .i64 n)] := by
  simp only [wt, hk, Bool.and_eq_true] at h
  have h1 := h.1
  match hc : e.cells, h1 with
  | [p], h1 =>
    simp only [wtcs, Bool.and_true] at h1
    cases p with
    | val v =>
      cases v with
      | int k n => simp only [wtc, beq_iff_eq] at h1; subst h1; exact ⟨n, rfl⟩
      | _ => simp [wtc] at h1
    | _ => simp [wtc] at h1
  | [], h1 => simp [wtcs] at h1
  | _ :: _ :: _, h1 => simp [wtcs] at h1

theorem heap_put {α : Type} [Inhabited α] (enc : α → Value) (w : World) (n b off : Nat) (d : Array α) (os : Array Obj) {x : Nat} (hx : x < w.heap.size) :
    (grow (putRow enc (Go.Sort.ahead w n) b off d) os).heap[x]? = if x = b then (w.heap[x]?).map (onCells (putCells enc off d)) else w.heap[x]? := by
  show ((w.heap.modify b (onCells (putCells enc off d))) ++ os)[x]? = _
  rw [Array.getElem?_append_left (by simpa using hx), Array.getElem?_modify]
  by_cases h : b = x
  · rw [if_pos h, if_pos h.symm]
  · rw [if_neg h, if_neg (fun e => h e.symm)]

theorem sort_turn {P : Program} {C : Ctx} (hR : RH P C) {r : Row} (hH : C.H = [r]) (hlive : r.live = true) (hro : C.ro = 0) {b : Nat} (hb : C.ρ 0 = some b) (hs : r.s = 1) (hk : kinds P r.t = [.int .i64]) (hc1 : P.cellsOf r.t = 1)
    (n : Nat) (os : Array Obj) (zs : List Int) (hz : zs.length = r.es.length) :
    ∃ C', C'.w = grow (putRow (Value.int .i64) (Go.Sort.ahead C.w n) b 0 zs.toArray) os ∧ Turn P C C' [{ r with es := zs.map fun n => .val (.int .i64 n) }] := by
  have hrow : C.row? 0 = some r := by unfold Ctx.row? rowAt; rw [hH]; simp [hlive]
  have hB := hR.blk 0 b r hb hrow
  obtain ⟨c, fr, cv, m1, m2, m3, m4⟩ := hB.mem
  have hlt := hB.lt
  have hheap := fun {x : Nat} (hx : x < C.w.heap.size) => heap_put (Value.int .i64) C.w n b 0 zs.toArray os hx
  generalize hw' : grow (putRow (Value.int .i64) (Go.Sort.ahead C.w n) b 0 zs.toArray) os = w' at hheap
  have hsz : C.w.heap.size ≤ w'.heap.size := by
    rw [← hw']
    show _ ≤ ((C.w.heap.modify b _) ++ os).size
    simp
  have hnew : w'.heap[b]? = some (.cells (putCells (Value.int .i64) 0 zs.toArray c) r.t fr) := by
    rw [hheap hlt, if_pos rfl, m1]; rfl
  have hps : ∀ c : Array Value, (putCells (Value.int .i64) 0 zs.toArray c).size = c.size := fun c => by simp [putCells]
  generalize hr' : ({ r with es := zs.map fun n => PV.val (.int .i64 n) } : Row) = r'
  have q1 : r'.s = r.s := by rw [← hr']
  have q2 : r'.t = r.t := by rw [← hr']
  have q3 : r'.nl = r.nl := by rw [← hr']
  have q4 : r'.es = zs.map fun n => PV.val (.int .i64 n) := by rw [← hr']
  have q5 : r'.live = true := by rw [← hr']; exact hlive
  have q7 : r'.fz = r.fz := by rw [← hr']
  have q6 : r'.es.length = r.es.length := by rw [q4, List.length_map, hz]
  have hrow' : ∀ x q, rowAt [r'] x = some q → x = 0 ∧ q = r' := fun x q h => by
    have hx := rowAt_lt h
    simp only [List.length_singleton, Nat.lt_one_iff] at hx
    subst hx
    unfold rowAt at h
    simp only [List.getElem?_cons_zero, q5, if_true] at h
    exact ⟨rfl, (Option.some.inj h).symm⟩
  have hold : ∀ b', b' < C.w.heap.size → b' ≠ b → w'.heap[b']? = C.w.heap[b']? := fun b' h1 h2 => by rw [hheap h1, if_neg h2]
  have hx : Ext C { C with H := [r'], w := w' } := by
    refine ⟨by show w'.os = _; rw [← hw']; rfl, by show w'.tape = _; rw [← hw']; rfl, by show w'.output = _; rw [← hw']; rfl, hsz, fun b' h1 h2 => hold b' h1 fun e => h2 ⟨0, by rw [hro]; exact Nat.le_refl _, by rw [e]; exact hb⟩, fun b' c' e fr' h => ?_, by rw [hH]; exact Nat.le_refl _, fun x r2 hxl h2 => ?_, fun _ h => .inl h, fun _ h => .inl h, rfl, rfl, fun x hx => by rw [hro] at hx; omega, fun x r2 info h1 h2 h3 => ?_, fun b' rec h => ?_⟩
    · by_cases he : b' = b
      · subst he
        rw [m1] at h; cases h
        exact ⟨_, _, hnew, hps _⟩
      · exact ⟨c', fr', by show w'.heap[b']? = _; rw [hold b' (Array.getElem?_eq_some_iff.1 h).1 he]; exact h, rfl⟩
    · obtain ⟨rfl, rfl⟩ := hrow' x r2 h2
      exact ⟨r, hrow, q1.symm, q2.symm, by rw [q6]; exact Nat.le_refl _, fun _ => ⟨q3.symm, fun _ h => h⟩⟩
    · have hx0 : x = 0 := by
        have := (List.getElem?_eq_some_iff.1 h1).1
        rw [hH] at this; simpa using this
      subst hx0
      rw [hH] at h1
      simp only [List.getElem?_cons_zero, Option.some.injEq] at h1
      subst h1
      rw [hlive] at h3; cases h3
    · by_cases he : b' = b
      · subst he; rw [m1] at h; cases h
      · exact ⟨rec, by show w'.heap[b']? = _; rw [hold b' (Array.getElem?_eq_some_iff.1 h).1 he]; exact h⟩
  refine ⟨{ C with H := [r'], w := w' }, rfl, rfl, hx, hR.inj, fun x b' h => ?_, fun x b' r2 h1 h2 => ?_, by show C.ro ≤ 1; omega, hR.nfo, fun b' h => Nat.lt_of_lt_of_le (hR.fol b' h) hsz, fun x b' r2 info h1 h2 h3 h4 => ?_, hR.glb.mono hx⟩
  · have hx0 : x = 0 := by
      have := hR.ρ_lt h
      rw [hH] at this; simpa using this
    subst hx0
    refine .inl ⟨r', ?_⟩
    show rowAt [r'] 0 = some r'
    unfold rowAt
    simp [q5]
  · obtain ⟨rfl, rfl⟩ := hrow' x r2 h2
    have : b' = b := Option.some.inj (h1.symm.trans hb)
    subst this
    refine ⟨by rw [q1, q2]; exact hB.sz, ⟨_, fr, fun k _ => .int .i64 (zs.getD k 0), by rw [q2]; exact hnew, fun hz off ho => m2 (by rw [← q7]; exact hz) off (by rw [hps] at ho; exact ho), by rw [q6, q1, hps]; exact m3, fun k e j p h1 h2 => ?_⟩, fun e he => ?_, fun _ e he => ?_⟩
    · rw [q4, List.getElem?_map, Option.map_eq_some_iff] at h1
      obtain ⟨z, hz1, rfl⟩ := h1
      have hkl := (List.getElem?_eq_some_iff.1 hz1).1
      have hj : j = 0 := by
        have := (List.getElem?_eq_some_iff.1 h2).1
        simpa [PV.cells] using this
      subst hj
      simp only [PV.cells, List.getElem?_cons_zero, Option.some.injEq] at h2
      subst h2
      have hg : zs.getD k 0 = z := by rw [List.getD_eq_getElem?_getD, hz1]; rfl
      dsimp only; rw [hg]
      refine ⟨?_, .val⟩
      rw [q1, hs, Nat.mul_one, Nat.add_zero]
      have hkc : k < c.size := by rw [hs, Nat.mul_one] at m3; omega
      unfold putCells
      rw [Array.getElem?_mapIdx, Array.getElem?_eq_getElem hkc, Option.map_some, if_pos ⟨Nat.zero_le _, by simpa using hkl⟩]
      congr 1
      congr 1
      simp only [Nat.sub_zero, List.getElem!_toArray]
      rw [getElem!_def, hz1]
    · rw [q4, List.mem_map] at he
      obtain ⟨z, _, rfl⟩ := he
      rw [q1, hs]; rfl
    · rw [q4, List.mem_map] at he
      obtain ⟨z, _, rfl⟩ := he
      rw [q2]
      simp [wt, hk, wtcs, wtc, hc1, PV.cells]
  · have hx0 : x = 0 := by
      have := hR.ρ_lt h1
      rw [hH] at this; simpa using this
    subst hx0
    change [r'][0]? = some r2 at h2
    simp only [List.getElem?_cons_zero, Option.some.injEq] at h2
    subst h2
    rw [q5] at h4; cases h4

def sortC (t : TypeId) : List PV → List Row → Option (DT (PV × List Row))
  | [.sl 0 n 0 len], [r] =>
    match r.t == t && r.s == 1 && r.bv && r.live && !r.fz with
    | true => some (.br (r.es.length == n && len == n && decide (n < 4611686018427387904)) (.leaf (.tup [], [{ r with es := srtI r.es }])) .no)
    | false => none
  | _, _ => none
theorem sortC_ok {P : Program} {ρ : Ren} (Ly : SlLaysM.n5 P ρ) {t : TypeId} (hk : kinds P t = [.int .i64]) (hc1 : P.cellsOf t = 1) (args : List PV) (H : List Row) (d : DT (PV × List Row)) (p : PV) (H' : List Row)
    (h1 : sortC t args H = some d) (h2 : d.run = some (p, H')) : RCall P 0 (ρ.f 5) args H p H' := by
  unfold sortC at h1
  split at h1
  · rename_i n len r
    split at h1
    · rename_i hb
      simp only [Bool.and_eq_true, beq_iff_eq, Bool.not_eq_true'] at hb
      obtain ⟨⟨⟨⟨ht, hs⟩, hbv⟩, hlive⟩, hfz⟩ := hb
      cases h1
      have h3 : (r.es.length == n && len == n && decide (n < 4611686018427387904)) = true ∧ (p, H') = (PV.tup [], [{ r with es := srtI r.es }]) := by
        cases hc : (r.es.length == n && len == n && decide (n < 4611686018427387904)) with
        | true => rw [hc] at h2; exact ⟨rfl, (Option.some.inj h2).symm⟩
        | false => rw [hc] at h2; cases h2
      obtain ⟨h3, h4⟩ := h3
      obtain ⟨rfl, rfl⟩ := Prod.mk.inj h4
      simp only [Bool.and_eq_true, beq_iff_eq, decide_eq_true_eq] at h3
      obtain ⟨⟨h5, h6⟩, h7⟩ := h3
      subst h6
      subst ht
      intro C hH hro hR Vs hv
      have hrow : C.row? 0 = some r := by unfold Ctx.row? rowAt; rw [hH]; simp [hlive]
      have hVs : Vs = #[Vs.getD 0 undef] := by
        have := hv.1
        apply Array.ext
        · simpa using this
        · intro i hi1 hi2
          have : i = 0 := by simpa using hi2
          subst this
          simp [Array.getD, hi1]
      have hV := hv.2 0 (.sl 0 len 0 len) (Vs.getD 0 undef) rfl (by rw [hVs]; simp)
      generalize Vs.getD 0 undef = V at hVs hV
      subst hVs
      cases hV with
      | sl hV hi hn hh =>
        obtain ⟨_, a, cap, rfl, hlc, hat⟩ := hh r hrow h5
        by_cases h0 : r.es = []
        · have hl0 : len = 0 := by rw [← h5, h0]; rfl
          subst hl0
          refine (AnyM.slices_Sort_int_none Ly a cap C.w).mono ?_
          rintro e w' ⟨rfl, rfl⟩
          refine ⟨_, C, rfl, rfl, ?_, .refl C, hR, .tup rfl (fun j c v h => by simp at h)⟩
          rw [hH]
          have : srtI r.es = r.es := by rw [h0]; simp [srtI, nums]
          rw [this]
        · have hpos : 0 < r.es.length := List.length_pos_iff.2 h0
          unfold SlAt at hat
          split at hat
          · omega
          · obtain ⟨b, g1, g2, _⟩ := hat
            subst g2
            have hB := hR.blk 0 b r g1 hrow
            obtain ⟨c, fr, cv, m1, m2, m3, m4⟩ := hB.mem
            have hnl : (nums r.es).length = r.es.length := by simp [nums]
            have hcell : ∀ j, j < r.es.length → c[j]? = some (.int .i64 ((nums r.es)[j]!)) := fun j hj => by
              obtain ⟨z, hz⟩ := wt_int hk (hB.typed hbv _ (List.getElem_mem hj))
              obtain ⟨g3, g4⟩ := m4 j r.es[j] 0 (.val (.int .i64 z)) (List.getElem?_eq_getElem hj) (by rw [hz]; rfl)
              rw [hs, Nat.mul_one, Nat.add_zero] at g3
              rw [g3]
              have : cv j 0 = .int .i64 z := by
                generalize cv j 0 = v at g4
                cases g4; rfl
              rw [this]
              have hg : (nums r.es)[j]! = z := by
                rw [getElem!_pos _ j (by rw [hnl]; exact hj)]
                simp [nums, PV.cellAt, hz, PV.getI]
              rw [hg]
            have hcs : r.es.length ≤ c.size := by rw [hs, Nat.mul_one] at m3; exact m3
            have hHolds : Holds (Value.int .i64) C.w b (0 * r.s) (nums r.es).toArray := by
              intro j hj
              have hj' : j < r.es.length := by simpa [hnl] using hj
              rw [Nat.zero_mul, Nat.zero_add]
              refine ⟨?_, ?_⟩
              · simp only [World.cell?, m1]
                rw [hcell j hj', List.getElem!_toArray]; rfl
              · have := m2 hfz j (by omega)
                simp only [World.frozen?, m1]
                exact this
            have hl : (nums r.es).length = len := by rw [hnl]; exact h5
            have key := AnyM.slices_Sort_int Ly b (0 * r.s) cap (nums r.es) C.w hHolds hB.lt (by rw [hl]; exact h7)
            rw [hl] at key
            refine key.mono ?_
            rintro e w' ⟨rfl, n, os, rfl⟩
            obtain ⟨C', e1, e2⟩ := sort_turn hR hH hlive hro g1 hs hk hc1 n os ((nums r.es).mergeSort fun x y => decide (x ≤ y)) (by rw [List.length_mergeSort, hnl])
            refine ⟨_, C', rfl, by rw [e1, Nat.zero_mul], e2.H, e2.ext, e2.rh, .tup rfl (fun j c v h => by simp at h)⟩
    · cases h1
  · cases h1
def EnvK.addSort (E : EnvK) (k : FuncId) (t : TypeId) : EnvK := E.addR k (sortC t)
theorem EnvOK.addSort {P : Program} {E : EnvK} (hE : EnvOK P E.env) {ρ : Ren} (Ly : SlLaysM.n5 P ρ) {t : TypeId} (hk : kinds P t = [.int .i64]) (hc1 : P.cellsOf t = 1) (hent : Enters P (ρ.f 5)) : EnvOK P (E.addSort (ρ.f 5) t).env :=
  hE.addR hent fun args H d p H' h1 h2 => sortC_ok Ly hk hc1 args H d p H' h1 h2
end Go.Hx
/- Hx: a call by contract that leaves a dead row behind: so later contracts can tell by the number of rows which call of a function they are asked for. -/
namespace Go.Hx
def rwDead : Row := { es := [], s := 0, t := 0, bv := true, live := false }
theorem deadRow_at {H : List Row} {i : Nat} {r : Row} (h : rowAt (H ++ [rwDead]) i = some r) : rowAt H i = some r := by
  unfold rowAt at h ⊢
  by_cases hi : i < H.length
  · rwa [List.getElem?_append_left hi] at h
  · rw [List.getElem?_append_right (by omega)] at h
    cases hj : i - H.length with
    | zero => rw [hj] at h; simp [rwDead] at h
    | succ j => rw [hj] at h; simp at h
theorem deadRow_keep {H : List Row} {i : Nat} {r : Row} (h : H[i]? = some r) : (H ++ [rwDead])[i]? = some r := by
  have hi := (List.getElem?_eq_some_iff.1 h).1
  rw [List.getElem?_append_left hi]; exact h
theorem rowAt_keep {H : List Row} {i : Nat} {r : Row} (h : rowAt H i = some r) : rowAt (H ++ [rwDead]) i = some r := by
  have hi := rowAt_lt h
  unfold rowAt at h ⊢
  rwa [List.getElem?_append_left hi]
def Ctx.dead (C : Ctx) : Ctx := { C with H := C.H ++ [rwDead] }
theorem dead_ext (C : Ctx) (hro : C.ro ≤ C.H.length) : Ext C C.dead where
  os := rfl
  tape := rfl
  output := rfl
  size := Nat.le_refl _
  block _ _ _ := rfl
  shape b c e fr h := ⟨c, fr, h, rfl⟩
  len := by simp [Ctx.dead]
  rows i r' _ h := ⟨r', deadRow_at h, rfl, rfl, Nat.le_refl _, fun _ => ⟨rfl, fun _ h => h⟩⟩
  fresh b h := .inl h
  freshOwn b h := .inl h
  fo := rfl
  ro := rfl
  low i hi := ⟨by simp only [Ctx.dead]; rw [List.getElem?_append_left (by omega)], rfl⟩
  lp i r info h1 h2 h3 := ⟨⟨r, info.st, deadRow_keep h1, h2, h3⟩, fun _ h => h⟩
  loop b rec h := ⟨rec, h⟩
theorem dead_rh {P : Program} {C : Ctx} (h : RH P C) : RH P C.dead where
  inj := h.inj
  dom i b hb := by
    rcases h.dom i b hb with ⟨r, hr⟩ | ⟨r, info, h1, h2, h3⟩
    · exact .inl ⟨r, rowAt_keep hr⟩
    · exact .inr ⟨r, info, deadRow_keep h1, h2, h3⟩
  blk i b r hb hr := (h.blk i b r hb (deadRow_at hr)).mono (dead_ext C h.ro) rfl
  ro := by have := h.ro; simp only [Ctx.dead, List.length_append]; omega
  nfo := h.nfo
  fol := h.fol
  lps i b r info hb h1 h2 h3 := by
    refine (h.lps i b r info hb ?_ h2 h3).mono (dead_ext C h.ro) rfl
    have h1' : (C.H ++ [rwDead])[i]? = some r := h1
    by_cases hi : i < C.H.length
    · rwa [List.getElem?_append_left hi] at h1'
    · rw [List.getElem?_append_right (by omega)] at h1'
      cases hj : i - C.H.length with
      | zero => rw [hj] at h1'; simp [rwDead] at h1'; subst h1'; simp at h2
      | succ j => rw [hj] at h1'; simp at h1'
  glb := h.glb.mono (dead_ext C h.ro)
theorem PCall.dead {P : Program} {k : FuncId} {args : List PV} {r : PV} (h : PCall P k args r) (ro : Nat) (H : List Row) : RCall P ro k args H r (H ++ [rwDead]) := by
  intro C hH _ hR Vs hv
  refine (h C hR Vs hv).mono ?_
  rintro e w' ⟨V, rfl, hs, hrv⟩
  have hR1 := hs.rh hR
  have hx1 := hs.ext
  refine ⟨V, (C.at w').dead, rfl, rfl, ?_, hx1.trans (dead_ext _ hR1.ro), dead_rh hR1, hrv.mono (dead_ext _ hR1.ro)⟩
  rw [← hH]; rfl
end Go.Hx
/- Hx: a call by contract by value, where the rows that it was given are let go: what it hands back may lie in them. -/
namespace Go.Hx
end Go.Hx
