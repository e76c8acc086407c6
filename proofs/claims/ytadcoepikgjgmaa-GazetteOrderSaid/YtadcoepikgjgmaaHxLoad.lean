/- Hx: cells and loads: what a load of a type at a place gives. -/
import Derived.Test.YtadcoepikgjgmaaHxBase
namespace Go.Hx

def isAggT (P : Program) (t : TypeId) : Bool :=
  match P.underlying t with
  | some (.struct _) | some (.array _ _) => true
  | _ => false
def known (P : Program) (t : TypeId) : Bool := (P.info? t).isSome && (P.underlying t).isSome

def expc : Kind → PV → PV
  | .int k, p => .val (.int k p.getI)
  | .bool, p => .val (.bool p.getB)
  | .str, p => .val (.string p.getS)
  | .sl t, p => .lst false t p.getL
  | .other, p => p

theorem RV.expc {P : Program} {C : Ctx} {k : Kind} {p : PV} {V : Value} (hk : wtc k p = true) (h : RV P C p V) : RV P C (expc k p) V := by
  unfold wtc at hk
  split at hk
  · rename_i k k' n
    have e : k = k' := by simpa using hk
    subst e
    exact h
  · exact h
  · exact h
  · rename_i t full t' es
    have e : t = t' := by simpa using hk
    subst e
    cases h with
    | lst b off cv hcap hfull ha hc hr ht => exact .lst b off cv hcap (fun h => by cases h) ha hc hr ht
  · cases hk

/-- The PV in cell x of an element of type t. -/
def pick (P : Program) (t : TypeId) (bv : Bool) (e : PV) (x : Nat) : PV :=
  if bv then expc ((kinds P t).getD x .other) (e.cellAt x) else e.cellAt x
/-- The value of type T at cell j of an element (of type t, with s cells). -/
def grab (P : Program) (t : TypeId) (bv : Bool) (s : Nat) (e : PV) (T : TypeId) (j : Nat) : Option PV :=
  if known P T then
    if isAggT P T then (if j + P.cellsOf T ≤ s then some (.agg ((List.range (P.cellsOf T)).map fun x => pick P t bv e (j + x))) else none)
    else (if j < s then some (pick P t bv e j) else none)
  else none

theorem RV.pick {P : Program} {C : Ctx} {t : TypeId} {bv : Bool} {e : PV} {x : Nat} {V : Value} (ht : bv = true → wt P t e = true) (hx : x < e.cells.length)
    (h : ∀ p, e.cells[x]? = some p → RV P C p V) : RV P C (pick P t bv e x) V := by
  have h0 : e.cells[x]? = some (e.cellAt x) := by simp [PV.cellAt, List.getD, List.getElem?_eq_getElem hx]
  have h1 := h _ h0
  unfold Hx.pick
  split
  · rename_i hb
    have hw := ht hb
    simp only [wt, Bool.and_eq_true, beq_iff_eq] at hw
    have hl := wtcs_length hw.1
    have hk : (kinds P t)[x]? = some ((kinds P t).getD x .other) := by
      have : x < (kinds P t).length := by omega
      simp [List.getD, List.getElem?_eq_getElem this]
    exact h1.expc (wtcs_get hw.1 hk h0)
  · exact h1

section
variable {P : Program} (w : World)
theorem info_of_known {T : TypeId} (h : known P T = true) : ∃ i d, P.info? T = some i ∧ P.underlying T = some d ∧ P.cellsOf T = i.size := by
  simp only [known, Bool.and_eq_true] at h
  obtain ⟨i, hi⟩ := Option.isSome_iff_exists.1 h.1
  obtain ⟨d, hd⟩ := Option.isSome_iff_exists.1 h.2
  exact ⟨i, d, hi, hd, by simp [Program.cellsOf, hi]⟩
theorem run_sizeOf {T : TypeId} (h : known P T = true) : (sizeOf T).run P w = .ok (P.cellsOf T) w := by
  obtain ⟨i, d, hi, hd, hs⟩ := info_of_known h
  simp [sizeOf, typeInfo, hi, hs]
theorem run_isAgg {T : TypeId} (h : known P T = true) : (isAgg T).run P w = .ok (isAggT P T) w := by
  obtain ⟨i, d, hi, hd, hs⟩ := info_of_known h
  simp only [isAgg, isAggT, Sem.run_bind, Go.run_underlying hd, Result.andThen_ok, hd]
  cases d <;> rfl

theorem run_loadVar_at {T : TypeId} (h : known P T = true) (b off : Nat) (f : Nat → Value) (hc : ∀ x, x < (if isAggT P T then P.cellsOf T else 1) → w.cell? ⟨b, off + x, none⟩ = some (f x)) :
    (loadVar T ⟨b, off, none⟩).run P w = .ok (if isAggT P T then .agg ((List.range (P.cellsOf T)).map f).toArray else f 0) w := by
  have hadd : ∀ x, (⟨b, off, none⟩ : Addr).add x = ⟨b, off + x, none⟩ := fun x => by unfold Addr.add; split <;> simp_all
  unfold loadVar
  simp only [Sem.run_bind, run_isAgg w h, Result.andThen_ok]
  by_cases ha : isAggT P T = true
  · simp only [ha, if_true] at hc ⊢
    simp only [Sem.run_bind, run_sizeOf w h, Result.andThen_ok]
    rw [run_loadCells w _ _ f (fun x hx => by rw [hadd]; exact hc x hx)]
    rfl
  · simp only [ha] at hc ⊢
    have := hc 0 (by simp)
    simp only [Nat.add_zero] at this
    simp [this]
end

/-- A load at a place whose cells are known. -/
theorem grab_sound {P : Program} {C : Ctx} {t T : TypeId} {bv : Bool} {s j b off : Nat} {e p : PV} (cv : Nat → Value) (hs : e.cells.length = s) (ht : bv = true → wt P t e = true)
    (hc : ∀ (x : Nat) q, e.cells[x]? = some q → C.w.cell? ⟨b, off + x, none⟩ = some (cv x) ∧ RV P C q (cv x)) (hg : grab P t bv s e T j = some p) :
    ∃ v, (loadVar T ⟨b, off + j, none⟩).run P C.w = .ok v C.w ∧ RV P C p v := by
  unfold grab at hg
  split at hg
  · rename_i hk
    have cell : ∀ x, x < s → C.w.cell? ⟨b, off + x, none⟩ = some (cv x) := fun x hx => (hc x _ (List.getElem?_eq_getElem (by omega : x < e.cells.length))).1
    split at hg
    · rename_i ha
      split at hg
      · rename_i hj
        cases hg
        refine ⟨_, run_loadVar_at C.w hk b (off + j) (fun x => cv (j + x)) (fun x hx => ?_), ?_⟩
        · rw [if_pos ha] at hx
          rw [Nat.add_assoc]; exact cell _ (by omega)
        · rw [if_pos ha]
          refine .agg (by simp) fun x c v h1 h2 => ?_
          simp only [List.getElem?_map, Option.map_eq_some_iff] at h1
          obtain ⟨y, hy, rfl⟩ := h1
          have hyx := List.getElem?_range (n := P.cellsOf T) (i := x) (by
            rcases Nat.lt_or_ge x (P.cellsOf T) with h | h
            · exact h
            · rw [List.getElem?_eq_none (by simpa using h)] at hy; cases hy)
          rw [hyx] at hy
          cases hy
          have hlt : x < P.cellsOf T := by
            rcases Nat.lt_or_ge x (P.cellsOf T) with h | h
            · exact h
            · rw [List.getElem?_eq_none (by simpa using h)] at hyx; cases hyx
          have e2 : v = cv (j + x) := by simpa [hlt] using h2.symm
          subst e2
          exact RV.pick ht (by omega) fun q hq => (hc _ q hq).2
      · cases hg
    · rename_i ha
      split at hg
      · rename_i hj
        cases hg
        refine ⟨_, run_loadVar_at C.w hk b (off + j) (fun x => cv (j + x)) (fun x hx => ?_), ?_⟩
        · rw [if_neg ha] at hx
          have : x = 0 := by omega
          subst this
          exact cell _ hj
        · rw [if_neg ha]
          exact RV.pick ht (by omega) fun q hq => (hc _ q hq).2
      · cases hg
  · cases hg
end Go.Hx
