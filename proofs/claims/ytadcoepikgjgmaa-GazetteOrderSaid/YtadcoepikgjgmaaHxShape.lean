/- Hx: loops by contract: states by their shapes, the rounds of a loop. -/
import Derived.Test.YtadcoepikgjgmaaHxRun
namespace Go.Hx

/-! Contracts by value with conditions. -/
def DT.map {α β : Type} (g : α → β) : DT α → DT β
  | .leaf a => .leaf (g a)
  | .no => .no
  | .br b x y => .br b (x.map g) (y.map g)
theorem DT.run_map {α β : Type} {g : α → β} {r : β} : ∀ {d : DT α}, (d.map g).run = some r → ∃ a, d.run = some a ∧ g a = r
  | .leaf a, h => ⟨a, rfl, Option.some.inj h⟩
  | .no, h => by cases h
  | .br b x y, h => by
    cases b
    · exact DT.run_map (d := y) h
    · exact DT.run_map (d := x) h
def EnvK.addD (E : EnvK) (k : FuncId) (c : List PV → Option (DT PV)) : EnvK := E.addC k fun _ a H => (c (a.map nrm)).map fun d => d.map fun p => (p, H)
theorem EnvOK.addD {P : Program} {E : EnvK} (hE : EnvOK P E.env) {k : FuncId} {c : List PV → Option (DT PV)} (hent : Enters P k) (hc : ∀ args d r, c args = some d → d.run = some r → PCall P k args r) : EnvOK P (E.addD k c).env := by
  refine hE.addC hent fun ro args H d p H' h1 h2 => ?_
  obtain ⟨d0, g1, rfl⟩ := Option.map_eq_some_iff.1 h1
  obtain ⟨r, g2, g3⟩ := DT.run_map h2
  cases g3
  intro C hH hro hR Vs hv
  refine (hc _ _ _ g1 g2 C hR Vs hv.nrm).mono ?_
  rintro e w' ⟨V, rfl, hs, hrv⟩
  exact ⟨V, C.at w', rfl, rfl, hH, hs.ext, hs.rh hR, hrv⟩

/-! Shapes of states: what is read out of a state decides it. -/
inductive Lf where
  | i (n : Int) | b (b : Bool) | n (n : Nat) | l (f : Bool) (es : List PV) | t (s : ByteArray)
inductive CS where
  | int (k : IntKind) | bool | lst (t : TypeId) | str
def CS.get : CS → PV → Option Lf
  | .int k, .val (.int k' n) => if k == k' then some (.i n) else none
  | .bool, .val (.bool v) => some (.b v)
  | .lst t, .lst f t' es => if t == t' then some (.l f es) else none
  | .str, .val (.string s) => some (.t s)
  | _, _ => none
def CS.put : CS → Lf → PV
  | .int k, .i n => .val (.int k n)
  | .bool, .b v => .val (.bool v)
  | .lst t, .l f es => .lst f t es
  | .str, .t s => .val (.string s)
  | _, _ => .any
theorem CS.get_put {c : CS} {p : PV} {x : Lf} (h : c.get p = some x) : p = c.put x := by
  unfold CS.get at h
  split at h
  · split at h
    · cases h; simp_all [CS.put]
    · cases h
  · cases h; rfl
  · split at h
    · cases h; simp_all [CS.put]
    · cases h
  · cases h; rfl
  · cases h
theorem CS.inj {c : CS} {p q : PV} {x : Lf} (h : c.get p = some x) (k : c.get q = some x) : p = q := by rw [CS.get_put h, CS.get_put k]
def getCs : List CS → List PV → Option (List Lf)
  | [], [] => some []
  | c :: cs, p :: ps => match c.get p, getCs cs ps with | some x, some xs => some (x :: xs) | _, _ => none
  | _, _ => none
theorem getCs_len : ∀ {cs : List CS} {ps : List PV} {xs : List Lf}, getCs cs ps = some xs → xs.length = cs.length
  | [], [], xs, h => by simp only [getCs, Option.some.injEq] at h; subst h; rfl
  | [], _ :: _, _, h => by simp [getCs] at h
  | _ :: _, [], _, h => by simp [getCs] at h
  | c :: cs, p :: ps, xs, h => by
    simp only [getCs] at h
    split at h
    · rename_i h1 h2; cases h; simp [getCs_len h2]
    · cases h
theorem getCs_inj : ∀ {cs : List CS} {ps qs : List PV} {xs : List Lf}, getCs cs ps = some xs → getCs cs qs = some xs → ps = qs
  | [], [], [], _, _, _ => rfl
  | [], _ :: _, _, _, h, _ => by simp [getCs] at h
  | [], _, _ :: _, _, _, h => by simp [getCs] at h
  | _ :: _, [], _, _, h, _ => by simp [getCs] at h
  | _ :: _, _ :: _, [], _, _, h => by simp [getCs] at h
  | c :: cs, p :: ps, q :: qs, xs, h, k => by
    simp only [getCs] at h k
    split at h
    · rename_i h1 h2
      cases h
      split at k
      · rename_i k1 k2
        cases k
        rw [CS.inj h1 k1, getCs_inj h2 k2]
      · cases k
    · cases h

inductive Sh where
  | any | cell (c : CS) | agg (cs : List CS) | ptr (i n k j : Nat) | sl (i : Nat) | nil
def Sh.len : Sh → Nat
  | .any => 0 | .cell _ => 1 | .agg cs => cs.length | .ptr _ _ _ _ => 0 | .sl _ => 2 | .nil => 0
def Sh.get : Sh → PV → Option (List Lf)
  | .any, .any => some []
  | .cell c, p => (c.get p).map fun x => [x]
  | .agg cs, .agg ps => getCs cs ps
  | .ptr i n k j, .ptr i' n' k' j' => if i == i' && n == n' && k == k' && j == j' then some [] else none
  | .sl i, .sl i' n k l => if i == i' && k == 0 then some [.n n, .n l] else none
  | .nil, .val (.slice none 0 0) => some []
  | _, _ => none
theorem Sh.get_len {s : Sh} {p : PV} {xs : List Lf} (h : s.get p = some xs) : xs.length = s.len := by
  cases s with
  | any => simp only [Sh.get] at h; split at h <;> simp_all [Sh.len]
  | cell c => simp only [Sh.get] at h; obtain ⟨x, _, rfl⟩ := Option.map_eq_some_iff.1 h; rfl
  | agg cs => cases p <;> simp only [Sh.get, reduceCtorEq] at h; exact getCs_len h
  | ptr i n k j => simp only [Sh.get] at h; split at h <;> simp_all [Sh.len]
  | sl i => simp only [Sh.get] at h; split at h <;> simp_all [Sh.len]; rw [← h.2]; rfl
  | nil => unfold Sh.get at h; split at h <;> simp_all [Sh.len]
theorem Sh.get_inj {s : Sh} {p q : PV} {xs : List Lf} (h : s.get p = some xs) (k : s.get q = some xs) : p = q := by
  cases s with
  | any => cases p <;> simp only [Sh.get, reduceCtorEq] at h; cases q <;> simp only [Sh.get, reduceCtorEq] at k; rfl
  | cell c =>
    simp only [Sh.get] at h k
    obtain ⟨x, h1, rfl⟩ := Option.map_eq_some_iff.1 h
    obtain ⟨y, k1, e⟩ := Option.map_eq_some_iff.1 k
    cases e
    exact CS.inj h1 k1
  | agg cs =>
    cases p <;> simp only [Sh.get, reduceCtorEq] at h
    cases q <;> simp only [Sh.get, reduceCtorEq] at k
    rw [getCs_inj h k]
  | ptr i n m j =>
    cases p <;> simp only [Sh.get, reduceCtorEq] at h
    cases q <;> simp only [Sh.get, reduceCtorEq] at k
    split at h
    · split at k
      · simp_all
      · cases k
    · cases h
  | sl i =>
    cases p <;> simp only [Sh.get, reduceCtorEq] at h
    cases q <;> simp only [Sh.get, reduceCtorEq] at k
    split at h
    · split at k
      · have e := (Option.some.inj h).trans (Option.some.inj k).symm
        simp only [List.cons.injEq, Lf.n.injEq, and_true] at e
        simp_all
      · cases k
    · cases h
  | nil =>
    have key : ∀ {p : PV} {xs : List Lf}, Sh.nil.get p = some xs → p = .val (.slice none 0 0) := by
      intro p xs h
      unfold Sh.get at h
      split at h <;> simp_all
    rw [key h, key k]

/-- Rows: with one element; with any number. -/
inductive RS where
  | one (t s : Nat) (h : Sh) | many (t s : Nat) | dead
def RS.len : RS → Nat | .one _ _ h => h.len | .many _ _ => 1 | .dead => 0
def rowBase (r : Row) (t s : Nat) : Bool := r.t == t && r.s == s && r.bv && r.live && r.lp.isNone
def RS.get : RS → Row → Option (List Lf)
  | .one t s h, r => if rowBase r t s && !r.nl then (match r.es with | [e] => h.get e | _ => none) else none
  | .many t s, r => if rowBase r t s then some [.l r.nl r.es] else none
  | .dead, _ => none
theorem RS.get_len {s : RS} {p : Row} {xs : List Lf} (h : s.get p = some xs) : xs.length = s.len := by
  cases s with
  | one t s g =>
    simp only [RS.get] at h
    split at h
    · split at h
      · exact Sh.get_len h
      · cases h
    · cases h
  | many t s =>
    simp only [RS.get] at h
    split at h
    · cases h; rfl
    · cases h
  | dead => simp [RS.get] at h
theorem rowBase_eq {r : Row} {t s : Nat} (h : rowBase r t s = true) : r = { es := r.es, s, t, bv := true, nl := r.nl } := by
  simp only [rowBase, Bool.and_eq_true, beq_iff_eq, Option.isNone_iff_eq_none] at h
  obtain ⟨⟨⟨⟨h1, h2⟩, h3⟩, h4⟩, h5⟩ := h
  cases r
  simp_all
theorem RS.get_inj {s : RS} {p q : Row} {xs : List Lf} (h : s.get p = some xs) (k : s.get q = some xs) : p = q := by
  cases s with
  | one t s g =>
    simp only [RS.get] at h k
    split at h
    · rename_i hb
      split at k
      · rename_i kb
        simp only [Bool.and_eq_true, Bool.not_eq_true'] at hb kb
        split at h
        · rename_i e he
          split at k
          · rename_i f hf
            rw [rowBase_eq hb.1, rowBase_eq kb.1, he, hf, hb.2, kb.2, Sh.get_inj h k]
          · cases k
        · cases h
      · cases k
    · cases h
  | many t s =>
    simp only [RS.get] at h k
    split at h
    · rename_i hb
      split at k
      · rename_i kb
        have e := (Option.some.inj h).trans (Option.some.inj k).symm
        simp only [List.cons.injEq, Lf.l.injEq, and_true] at e
        rw [rowBase_eq hb, rowBase_eq kb, e.1, e.2]
      · cases k
    · cases h
  | dead => simp [RS.get] at h

def getS (shs : List (Nat × Sh)) : Nat → Nat → List PV → Option (List Lf)
  | 0, _, [] => some []
  | n + 1, x, p :: S =>
    match ((shs.lookup x).getD .any).get p, getS shs n (x + 1) S with
    | some a, some b => some (a ++ b)
    | _, _ => none
  | _, _, _ => none
theorem getS_inj {shs : List (Nat × Sh)} : ∀ {n x : Nat} {S T : List PV} {xs : List Lf}, getS shs n x S = some xs → getS shs n x T = some xs → S = T
  | 0, _, [], [], _, _, _ => rfl
  | 0, _, _ :: _, _, _, h, _ => by simp [getS] at h
  | 0, _, _, _ :: _, _, _, h => by simp [getS] at h
  | _ + 1, _, [], _, _, h, _ => by simp [getS] at h
  | _ + 1, _, _ :: _, [], _, _, h => by simp [getS] at h
  | n + 1, x, p :: S, q :: T, xs, h, k => by
    simp only [getS] at h k
    split at h
    · rename_i a b h1 h2
      split at k
      · rename_i a' b' k1 k2
        cases h
        have he := Option.some.inj k
        obtain ⟨e1, e2⟩ := List.append_inj he (by rw [Sh.get_len k1, Sh.get_len h1])
        subst e1; subst e2
        rw [Sh.get_inj h1 k1, getS_inj h2 k2]
      · cases k
    · cases h
def getH : List RS → List Row → Option (List Lf)
  | [], [] => some []
  | s :: ss, r :: H => match s.get r, getH ss H with | some a, some b => some (a ++ b) | _, _ => none
  | _, _ => none
theorem getH_inj : ∀ {ss : List RS} {H K : List Row} {xs : List Lf}, getH ss H = some xs → getH ss K = some xs → H = K
  | [], [], [], _, _, _ => rfl
  | [], _ :: _, _, _, h, _ => by simp [getH] at h
  | [], _, _ :: _, _, _, h => by simp [getH] at h
  | _ :: _, [], _, _, h, _ => by simp [getH] at h
  | _ :: _, _ :: _, [], _, _, h => by simp [getH] at h
  | s :: ss, p :: S, q :: T, xs, h, k => by
    simp only [getH] at h k
    split at h
    · rename_i a b h1 h2
      split at k
      · rename_i a' b' k1 k2
        cases h
        have he := Option.some.inj k
        obtain ⟨e1, e2⟩ := List.append_inj he (by rw [RS.get_len k1, RS.get_len h1])
        subst e1; subst e2
        rw [RS.get_inj h1 k1, getH_inj h2 k2]
      · cases k
    · cases h
/-- A state's shape. -/
structure St where
  n : Nat
  S : List (Nat × Sh)
  H : List RS
def St.get (s : St) (S : List PV) (H : List Row) : Option (List Lf × List Lf) :=
  match getS s.S s.n 0 S, getH s.H H with | some a, some b => some (a, b) | _, _ => none
theorem St.inj {s : St} {S T : List PV} {H K : List Row} {x : List Lf × List Lf} (h : s.get S H = some x) (k : s.get T K = some x) : S = T ∧ H = K := by
  unfold St.get at h k
  split at h
  · rename_i h1 h2
    split at k
    · rename_i k1 k2
      cases h
      cases k
      exact ⟨getS_inj h1 k1, getH_inj h2 k2⟩
    · cases k
  · cases h
/-- Slots: these, else nothing is known. -/
def tm (n : Nat) (l : List (Nat × PV)) : List PV := (List.range n).map fun x => (l.lookup x).getD .any
/-- A row with one element. -/
abbrev r1 (t s : Nat) (e : PV) : Row := { es := [e], s, t, bv := true }
abbrev rN (t s : Nat) (nl : Bool) (es : List PV) : Row := { es, s, t, bv := true, nl }

/-- Rows, their elements written out. -/
def nrmRow (r : Row) : Row := match r.live with | true => { r with es := r.es.map nrm } | false => r
def nrmH (H : List Row) : List Row := H.map nrmRow
theorem nrm_cells (p : PV) : (nrm p).cells = p.cells := by
  unfold nrm
  split
  · rfl
  · rfl
theorem nrmRow_live (r : Row) : (nrmRow r).live = r.live := by unfold nrmRow; split <;> simp_all
theorem nrmRow_shp (r : Row) : ShpR r (nrmRow r) := by unfold nrmRow; split <;> simp [ShpR]
theorem nrm_row {C : Ctx} (i : Nat) : ({ C with H := nrmH C.H } : Ctx).row? i = (C.row? i).map nrmRow := by
  show rowAt (nrmH C.H) i = (rowAt C.H i).map nrmRow
  unfold rowAt nrmH
  rw [List.getElem?_map]
  cases C.H[i]? with
  | none => rfl
  | some r =>
    show (if (nrmRow r).live = true then some (nrmRow r) else none) = Option.map _ (if r.live = true then some r else none)
    rw [nrmRow_live]
    by_cases hl : r.live = true
    · rw [if_pos hl, if_pos hl]; rfl
    · rw [if_neg hl, if_neg hl]; rfl
theorem nrm_shp (C : Ctx) : Shp C { C with H := nrmH C.H } := by
  refine ⟨rfl, rfl, rfl, rfl, by simp [nrmH], fun i r' hr => ?_, fun i r hr => ?_, fun i r hr hl => ?_, fun i r hr hl => ?_⟩
  · rw [nrm_row] at hr
    obtain ⟨r, a, rfl⟩ := Option.map_eq_some_iff.1 hr
    exact ⟨r, a, nrmRow_shp r⟩
  · exact ⟨_, by rw [nrm_row, hr]; rfl, nrmRow_shp r⟩
  · show (nrmH C.H)[i]? = _
    unfold nrmH
    rw [List.getElem?_map, hr, Option.map_some]
    unfold nrmRow; rw [hl]
  · have hr' : (nrmH C.H)[i]? = some r := hr
    unfold nrmH at hr'
    rw [List.getElem?_map] at hr'
    obtain ⟨q, a, b⟩ := Option.map_eq_some_iff.1 hr'
    have : q.live = false := by rw [← nrmRow_live, b]; exact hl
    unfold nrmRow at b
    rw [this] at b
    rw [a]
    exact congrArg some b
theorem RB.nrm {P : Program} {C : Ctx} {b : Nat} {r : Row} (h : RB P C b r) : RB P C b (nrmRow r) := by
  unfold nrmRow
  split
  · obtain ⟨c, fr, cv, m1, m2, m3, m4⟩ := h.mem
    refine ⟨h.sz, ⟨c, fr, cv, m1, m2, by simpa using m3, fun k e j p hk hj => ?_⟩, fun e he => ?_, fun hb e he => ?_⟩
    · simp only [List.getElem?_map, Option.map_eq_some_iff] at hk
      obtain ⟨e0, hk0, rfl⟩ := hk
      rw [nrm_cells] at hj
      exact m4 k e0 j p hk0 hj
    · simp only [List.mem_map] at he
      obtain ⟨e0, he0, rfl⟩ := he
      rw [nrm_cells]; exact h.len e0 he0
    · simp only [List.mem_map] at he
      obtain ⟨e0, he0, rfl⟩ := he
      have := h.typed hb e0 he0
      simp only [wt, nrm_cells] at this ⊢
      exact this
  · exact h
theorem Ext.shp0 {C C1 C' : Ctx} (h : Shp C C1) (hro : C.ro = 0) (hx : Ext C1 C') : Ext C C' := by
  have own : ∀ b, C1.own b → C.own b := by
    rintro b ⟨i, hi, hb⟩
    exact ⟨i, by rw [← h.ro]; exact hi, by rw [← h.ρ]; exact hb⟩
  have own' : ∀ b, C.own b → C1.own b := by
    rintro b ⟨i, hi, hb⟩
    exact ⟨i, by rw [h.ro]; exact hi, by rw [h.ρ]; exact hb⟩
  refine ⟨by rw [hx.os, h.w], by rw [hx.tape, h.w], by rw [hx.output, h.w], by rw [← h.w]; exact hx.size, fun b hb ho => by rw [← h.w] at hb ⊢; exact hx.block b hb fun hh => ho (own b hh), fun b c e fr hb => hx.shape b c e fr (by rw [h.w]; exact hb), by rw [← h.len]; exact hx.len,
    fun i r' hi hr => ?_, fun b hb => ?_, fun b hb => ?_, by rw [hx.fo, h.fo], by rw [hx.ro, h.ro], fun i hi => (by rw [hro] at hi; cases hi), fun i r info h1 h2 h3 => ?_, fun b rec hb => hx.loop b rec (by rw [h.w]; exact hb)⟩
  · obtain ⟨r1, a1, a2, a3, a4, a5⟩ := hx.rows i r' (by rw [h.len]; exact hi) hr
    obtain ⟨r, b1, c1, c2, c3, c4⟩ := h.row i r1 a1
    exact ⟨r, b1, c1.trans a2, c4.trans a3, by omega, fun e => ⟨c3.trans (a5 (by omega)).1, fun b hb => (a5 (by omega)).2 b (by rw [h.ρ]; exact hb)⟩⟩
  · rcases hx.fresh b hb with ⟨i, hi⟩ | hs
    · exact .inl ⟨i, by rw [← h.ρ]; exact hi⟩
    · exact .inr (by rw [← h.w]; exact hs)
  · rcases hx.freshOwn b hb with ho | hs
    · exact .inl (own b ho)
    · exact .inr (by rw [← h.w]; exact hs)
  · obtain ⟨g1, g2⟩ := hx.lp i r info (h.lp i r h1 h3) h2 h3
    exact ⟨g1, fun b hb => g2 b (by rw [h.ρ]; exact hb)⟩
theorem wpTo_nrm {P : Program} {c : Code} {S S' : List PV} {H H' : List Row} {x : PX} (h : WpTo P c 0 S (nrmH H) x S' H') : WpTo P c 0 S H x S' H' := by
  intro r C a hH hro hR hs hro2 Q hQ
  subst hH
  have hR1 : RH P { C with H := nrmH C.H } := hR.shp (nrm_shp C) fun i b q h1 h2 => by
    rw [nrm_row] at h2
    obtain ⟨q0, a0, rfl⟩ := Option.map_eq_some_iff.1 h2
    exact ((hR.blk i b q0 h1 a0).nrm).shp (nrm_shp C)
  exact h r { C with H := nrmH C.H } a rfl hro hR1 (hs.shp (nrm_shp C)) hro2 Q fun a' C' hd hH' hx hR' hs' => hQ a' C' hd hH' (Ext.shp0 (nrm_shp C) hro hx) hR' hs'

/-- A loop's contract by the shape of its state. -/
def byShape (s : St) (f : List Lf → List Lf → Option (DT (PX × List PV × List Row))) (ro : Nat) (S : List PV) (H : List Row) : Option (DT (PX × List PV × List Row)) :=
  match ro with
  | 0 => match s.get S (nrmH H) with | some x => f x.1 x.2 | none => none
  | _ + 1 => none

/-! The rounds of a loop. -/
theorem rounds_of {P : Program} {b : Code} {ro : Nat} {x : PX} {S' : List PV} {H' : List Row} (hx : x ≠ .normal) : ∀ (n : Nat) (Sf : Nat → List PV) (Hf : Nat → List Row), (∀ k, k < n → WpTo P b ro (Sf k) (Hf k) .normal (Sf (k + 1)) (Hf (k + 1))) → WpTo P b ro (Sf n) (Hf n) x S' H' →
    ∀ (r : Option Nat) (C : Ctx) (a : Act), C.H = Hf 0 → C.ro = ro → RH P C → RSl P C (Sf 0) a.tmps → RoundOK r C.w → ∀ Q : Exit → Act → World → Prop,
      (∀ (a' : Act) (C' : Ctx), Dfs C.w a C'.w a' → C'.H = H' → Ext C C' → RH P C' → RSl P C' S' a'.tmps → Q (XOut x) a' C'.w) → Code.roundsIn (Fr r) 0 P b Q (n + 1) a C.w
  | 0, Sf, Hf, _, hl => by
    intro r C a hH hro hR hs hro2 Q hQ
    rw [roundsIn_succ]
    refine hl r C a hH hro hR hs hro2 _ fun a' C' hd hH' hxt hR' hs' => ?_
    have hq := hQ a' C' hd hH' hxt hR' hs'
    cases x with
    | normal => exact absurd rfl hx
    | exit id => exact hq
    | ret => exact hq
  | n + 1, Sf, Hf, h, hl => by
    intro r C a hH hro hR hs hro2 Q hQ
    rw [roundsIn_succ]
    refine h 0 (by omega) r C a hH hro hR hs hro2 _ fun a' C' hd hH' hxt hR' hs' => ?_
    show Code.roundsIn (Fr r) 0 P b Q (n + 1) a' C'.w
    exact rounds_of hx n (fun k => Sf (k + 1)) (fun k => Hf (k + 1)) (fun k hk => h (k + 1) (by omega)) hl r C' a' hH' (by rw [hxt.ro]; exact hro) hR' hs' (hro2.mono hxt) Q fun a2 C2 hd2 hH2 hx2 hR2 hs2 => hQ a2 C2 (hd.trans hxt.size hR' hx2 hd2) hH2 (hxt.trans hx2) hR2 hs2
theorem loop_of {P : Program} {b : Code} {ro : Nat} {x : PX} {S' : List PV} {H' : List Row} (hx : x ≠ .normal) (n : Nat) (Sf : Nat → List PV) (Hf : Nat → List Row) (h : ∀ k, k < n → WpTo P b ro (Sf k) (Hf k) .normal (Sf (k + 1)) (Hf (k + 1))) (hl : WpTo P b ro (Sf n) (Hf n) x S' H') :
    WpTo P (.loop b) ro (Sf 0) (Hf 0) x S' H' :=
  fun r C a hH hro hR hs hro2 Q hQ => wpIn_loop_rounds (n + 1) (rounds_of hx n Sf Hf h hl r C a hH hro hR hs hro2 Q hQ)
/-- One round, then the rest. -/
theorem loop_go {P : Program} {b : Code} {ro : Nat} {x : PX} {S S1 S' : List PV} {H H1 H' : List Row} (h : WpTo P b ro S H .normal S1 H1) (k : ∃ n, ∃ Sf : Nat → List PV, ∃ Hf : Nat → List Row, Sf 0 = S1 ∧ Hf 0 = H1 ∧ (∀ k, k < n → WpTo P b ro (Sf k) (Hf k) .normal (Sf (k + 1)) (Hf (k + 1))) ∧ WpTo P b ro (Sf n) (Hf n) x S' H') :
    ∃ n, ∃ Sf : Nat → List PV, ∃ Hf : Nat → List Row, Sf 0 = S ∧ Hf 0 = H ∧ (∀ k, k < n → WpTo P b ro (Sf k) (Hf k) .normal (Sf (k + 1)) (Hf (k + 1))) ∧ WpTo P b ro (Sf n) (Hf n) x S' H' := by
  obtain ⟨n, Sf, Hf, e1, e2, g1, g2⟩ := k
  refine ⟨n + 1, fun k => match k with | 0 => S | k + 1 => Sf k, fun k => match k with | 0 => H | k + 1 => Hf k, rfl, rfl, fun k hk => ?_, g2⟩
  match k with
  | 0 => show WpTo P b ro S H .normal (Sf 0) (Hf 0); rw [e1, e2]; exact h
  | k + 1 => exact g1 k (by omega)
/-- What a loop comes to, by its rounds. -/
inductive Rnds (P : Program) (b : Code) (ro : Nat) (x : PX) (S' : List PV) (H' : List Row) : List PV → List Row → Prop
  | stop {S : List PV} {H : List Row} (h : WpTo P b ro S H x S' H') : Rnds P b ro x S' H' S H
  | go {S S1 : List PV} {H H1 : List Row} (h : WpTo P b ro S H .normal S1 H1) (k : Rnds P b ro x S' H' S1 H1) : Rnds P b ro x S' H' S H
theorem Rnds.loop {P : Program} {b : Code} {ro : Nat} {x : PX} {S S' : List PV} {H H' : List Row} (hx : x ≠ .normal) (h : Rnds P b ro x S' H' S H) : WpTo P (.loop b) ro S H x S' H' := by
  have : ∃ n, ∃ Sf : Nat → List PV, ∃ Hf : Nat → List Row, Sf 0 = S ∧ Hf 0 = H ∧ (∀ k, k < n → WpTo P b ro (Sf k) (Hf k) .normal (Sf (k + 1)) (Hf (k + 1))) ∧ WpTo P b ro (Sf n) (Hf n) x S' H' := by
    induction h with
    | stop h => exact ⟨0, fun _ => _, fun _ => _, rfl, rfl, fun k hk => by omega, h⟩
    | go h _ ih => exact loop_go h ih
  obtain ⟨n, Sf, Hf, rfl, rfl, g1, g2⟩ := this
  exact loop_of hx n Sf Hf g1 g2

/-- A round, its new rows let go: what it comes to. -/
def runB (P : Program) (E : EnvK) (n : Nat) (f : FuncId) (b : Code) (l l' : List Tmp) (S : List PV) (H : List Row) : Option (PX × List PV × List Row) :=
  execK P E n 0 f b S H fun x S1 H1 =>
    need (decide (H.length ≤ H1.length) && rowsOk H.length (H1.take H.length))
      (match x with
      | .normal => some (.normal, trimS H.length (keepS (some l) S1), H1.take H.length)
      | .exit i => some (.exit i, trimS H.length (keepS (some l') S1), H1.take H.length)
      | .ret => some (.ret, trimS H.length (keepS (some l') S1), H1.take H.length))
theorem runB_sound {P : Program} {E : EnvK} (hE : EnvOK P E.env) {n : Nat} {f : FuncId} {b : Code} {l l' : List Tmp} {S S' : List PV} {H H' : List Row} {x : PX} (hb : SubCode P f b) (h : runB P E n f b l l' S H = some (x, S', H')) : WpTo P b 0 S H x S' H' := by
  obtain ⟨x1, S1, H1, h1, h2⟩ := execK_ref n _ _ _ _ _ _ _ h
  obtain ⟨h3, h4⟩ := need_some h2
  simp only [Bool.and_eq_true, decide_eq_true_eq] at h3
  have hw := exec_ok hE n _ _ _ _ _ _ _ _ h1 hb
  have key : ∀ L : List Tmp, S' = trimS H.length (keepS (some L) S1) → H' = H1.take H.length → WpTo P b 0 S H x1 S' H' := by
    rintro L rfl rfl
    intro r C a hH hro hR hs hro2 Q hQ
    refine hw r C a hH hro hR hs hro2 Q fun a' C' hd hH' hxt hR' hs' => ?_
    subst hH
    subst hH'
    exact hQ a' (C'.cut C.H.length False C'.ro) hd rfl (hxt.cut (Nat.le_refl _) h3.1 hR.ro) (hR'.cut h3.1 (by rw [hxt.ro]; exact hR.ro) h3.2) (trimS_sound h3.1 (keepS_sound (some L) hs'))
  cases x1 with
  | normal => cases h4; exact key l rfl rfl
  | exit i => cases h4; exact key l' rfl rfl
  | ret => cases h4; exact key l' rfl rfl
end Go.Hx
