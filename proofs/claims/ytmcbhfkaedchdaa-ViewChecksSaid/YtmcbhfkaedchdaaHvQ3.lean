/- The view's reference: its box is the view's. -/
import Derived.Test.YtmcbhfkaedchdaaHvQ2
import Derived.Test.YtmcbhfkaedchdaaHvL7c
namespace Go.Hv
open Go.Hx Go.Proofs
def cell (p : PV) (j : Nat) : Int := (p.cells[j]?.getD .any).getI
theorem lz_of {es : List PV} {t : Nat} (h : t < es.length) (j : Nat) : lz es (t : Int) j = cell es[t] j := by
  unfold lz cell
  simp [List.getD, List.getElem?_eq_getElem h]
theorem mnI_spec (a b : Int) : mnI a b ≤ a ∧ mnI a b ≤ b ∧ (mnI a b = a ∨ mnI a b = b) := by unfold mnI; split <;> omega
theorem mxI_spec (a b : Int) : a ≤ mxI a b ∧ b ≤ mxI a b ∧ (mxI a b = a ∨ mxI a b = b) := by unfold mxI; split <;> omega
theorem fmn_spec (es : List PV) (j : Nat) : ∀ (n : Nat) (k a : Int), fmn es j n k a ≤ a ∧ (∀ t : Nat, t < n → fmn es j n k a ≤ lz es (k + t) j) ∧ (fmn es j n k a = a ∨ ∃ t : Nat, t < n ∧ fmn es j n k a = lz es (k + t) j)
  | 0, k, a => ⟨by simp [fmn], fun t h => by omega, .inl rfl⟩
  | n + 1, k, a => by
    obtain ⟨h1, h2, h3⟩ := fmn_spec es j n (k + 1) (mnI a (lz es k j))
    obtain ⟨m1, m2, m3⟩ := mnI_spec a (lz es k j)
    simp only [fmn]
    refine ⟨by omega, fun t ht => ?_, ?_⟩
    · cases t with
      | zero => simp only [Int.natCast_zero, Int.add_zero]; omega
      | succ t =>
        have := h2 t (by omega)
        rw [show k + ((t + 1 : Nat) : Int) = k + 1 + (t : Int) by omega]; exact this
    · rcases h3 with h3 | ⟨t, ht, h3⟩
      · rcases m3 with m3 | m3
        · exact .inl (h3.trans m3)
        · exact .inr ⟨0, by omega, by rw [h3, m3]; simp⟩
      · exact .inr ⟨t + 1, by omega, by rw [h3, show k + ((t + 1 : Nat) : Int) = k + 1 + (t : Int) by omega]⟩
theorem fmx_spec (es : List PV) (j : Nat) : ∀ (n : Nat) (k a : Int), a ≤ fmx es j n k a ∧ (∀ t : Nat, t < n → lz es (k + t) j ≤ fmx es j n k a) ∧ (fmx es j n k a = a ∨ ∃ t : Nat, t < n ∧ fmx es j n k a = lz es (k + t) j)
  | 0, k, a => ⟨by simp [fmx], fun t h => by omega, .inl rfl⟩
  | n + 1, k, a => by
    obtain ⟨h1, h2, h3⟩ := fmx_spec es j n (k + 1) (mxI a (lz es k j))
    obtain ⟨m1, m2, m3⟩ := mxI_spec a (lz es k j)
    simp only [fmx]
    refine ⟨by omega, fun t ht => ?_, ?_⟩
    · cases t with
      | zero => simp only [Int.natCast_zero, Int.add_zero]; omega
      | succ t =>
        have := h2 t (by omega)
        rw [show k + ((t + 1 : Nat) : Int) = k + 1 + (t : Int) by omega]; exact this
    · rcases h3 with h3 | ⟨t, ht, h3⟩
      · rcases m3 with m3 | m3
        · exact .inl (h3.trans m3)
        · exact .inr ⟨0, by omega, by rw [h3, m3]; simp⟩
      · exact .inr ⟨t + 1, by omega, by rw [h3, show k + ((t + 1 : Nat) : Int) = k + 1 + (t : Int) by omega]⟩
theorem least {es : List PV} (j : Nat) (h : 0 < es.length) : (∀ p ∈ es, fmn es j (es.length - 1) 1 (lz es 0 j) ≤ cell p j) ∧ ∃ p ∈ es, fmn es j (es.length - 1) 1 (lz es 0 j) = cell p j := by
  obtain ⟨h1, h2, h3⟩ := fmn_spec es j (es.length - 1) 1 (lz es 0 j)
  have e0 : lz es 0 j = cell es[0] j := lz_of h j
  refine ⟨fun p hp => ?_, ?_⟩
  · obtain ⟨t, ht, rfl⟩ := List.mem_iff_getElem.1 hp
    rw [← lz_of ht]
    cases t with
    | zero => exact h1
    | succ t => rw [show ((t + 1 : Nat) : Int) = 1 + (t : Int) by omega]; exact h2 t (by omega)
  · rcases h3 with h3 | ⟨t, ht, h3⟩
    · exact ⟨es[0], List.getElem_mem _, h3.trans e0⟩
    · have ht' : t + 1 < es.length := by omega
      exact ⟨es[t + 1], List.getElem_mem _, by rw [h3, ← lz_of ht', show ((t + 1 : Nat) : Int) = 1 + (t : Int) by omega]⟩
theorem most {es : List PV} (j : Nat) (h : 0 < es.length) : (∀ p ∈ es, cell p j ≤ fmx es j (es.length - 1) 1 (lz es 0 j)) ∧ ∃ p ∈ es, fmx es j (es.length - 1) 1 (lz es 0 j) = cell p j := by
  obtain ⟨h1, h2, h3⟩ := fmx_spec es j (es.length - 1) 1 (lz es 0 j)
  have e0 : lz es 0 j = cell es[0] j := lz_of h j
  refine ⟨fun p hp => ?_, ?_⟩
  · obtain ⟨t, ht, rfl⟩ := List.mem_iff_getElem.1 hp
    rw [← lz_of ht]
    cases t with
    | zero => exact h1
    | succ t => rw [show ((t + 1 : Nat) : Int) = 1 + (t : Int) by omega]; exact h2 t (by omega)
  · rcases h3 with h3 | ⟨t, ht, h3⟩
    · exact ⟨es[0], List.getElem_mem _, h3.trans e0⟩
    · have ht' : t + 1 < es.length := by omega
      exact ⟨es[t + 1], List.getElem_mem _, by rw [h3, ← lz_of ht', show ((t + 1 : Nat) : Int) = 1 + (t : Int) by omega]⟩
theorem colL_mem {ax ay ux uy i : Int} {p : PV} : ∀ {n : Nat} {j : Int}, p ∈ colL ax ay ux uy i n j ↔ ∃ t : Int, j ≤ t ∧ t < j + n ∧ p = ptv (wx ax ux uy i t) (wy ay ux uy i t)
  | 0, j => by
    simp only [colL, List.not_mem_nil, false_iff]
    rintro ⟨t, h1, h2, _⟩; omega
  | n + 1, j => by
    simp only [colL, List.mem_cons, colL_mem (n := n)]
    constructor
    · rintro (rfl | ⟨t, h1, h2, h3⟩)
      · exact ⟨j, by omega, by omega, rfl⟩
      · exact ⟨t, by omega, by omega, h3⟩
    · rintro ⟨t, h1, h2, h3⟩
      by_cases ht : t = j
      · subst ht; exact .inl h3
      · exact .inr ⟨t, by omega, by omega, h3⟩
theorem allL_mem {ax ay ux uy : Int} {h : Nat} {p : PV} : ∀ {n : Nat} {i : Int}, p ∈ allL ax ay ux uy h n i ↔ ∃ s t : Int, i ≤ s ∧ s < i + n ∧ 0 ≤ t ∧ t < h ∧ p = ptv (wx ax ux uy s t) (wy ay ux uy s t)
  | 0, i => by
    simp only [allL, List.not_mem_nil, false_iff]
    rintro ⟨s, t, h1, h2, _⟩; omega
  | n + 1, i => by
    simp only [allL, List.mem_append, allL_mem (n := n), colL_mem]
    constructor
    · rintro (⟨t, h1, h2, h3⟩ | ⟨s, t, h1, h2, h3, h4, h5⟩)
      · exact ⟨i, t, by omega, by omega, by omega, by omega, h3⟩
      · exact ⟨s, t, by omega, by omega, by omega, by omega, h5⟩
    · rintro ⟨s, t, h1, h2, h3, h4, h5⟩
      by_cases hs : s = i
      · subst hs; exact .inl ⟨t, by omega, by omega, h5⟩
      · exact .inr ⟨s, t, by omega, by omega, by omega, by omega, h5⟩
theorem orJ_ex {p : Int → Bool} : ∀ (n : Nat) (j : Int), orJ p n j = true → ∃ k, j ≤ k ∧ k < j + n ∧ p k = true
  | 0, j, h => by cases h
  | n + 1, j, h => by
    simp only [orJ, Bool.or_eq_true] at h
    rcases h with h | h
    · exact ⟨j, by omega, by omega, h⟩
    · obtain ⟨k, h1, h2, h3⟩ := orJ_ex n (j + 1) h
      exact ⟨k, by omega, by omega, h3⟩
/-- The box of all points is the view's. -/
theorem box_all {ax ay ux uy w h hr : Int} (hc : ck ax ay ux uy w h hr = 0) : box40 (all17 ax ay ux uy w h) = rcv (bx0 ax ux uy w h) (by0 ay ux uy w h) (bx1 ax ux uy w h) (by1 ay ux uy w h) ∧ 0 < (all17 ax ay ux uy w h).length := by
  obtain ⟨⟨h1, h2, h3, h4, h5, h6, h7, h8, h9⟩, _⟩ := ck_iff.1 hc
  have hmem : ∀ p, p ∈ all17 ax ay ux uy w h ↔ ∃ s t : Int, 0 ≤ s ∧ s < w ∧ 0 ≤ t ∧ t < h ∧ p = ptv (wx ax ux uy s t) (wy ay ux uy s t) := by
    intro p
    show p ∈ [] ++ allL ax ay ux uy (h - 0).toNat (w - 0).toNat 0 ↔ _
    rw [List.nil_append, allL_mem]
    constructor
    · rintro ⟨s, t, g1, g2, g3, g4, g5⟩; exact ⟨s, t, by omega, by omega, by omega, by omega, g5⟩
    · rintro ⟨s, t, g1, g2, g3, g4, g5⟩; exact ⟨s, t, by omega, by omega, by omega, by omega, g5⟩
  have hl : 0 < (all17 ax ay ux uy w h).length := List.length_pos_of_mem ((hmem (ptv (wx ax ux uy 0 0) (wy ay ux uy 0 0))).2 ⟨0, 0, by omega, by omega, by omega, by omega, rfl⟩)
  refine ⟨?_, hl⟩
  obtain ⟨s1, s2, s3, s4⟩ := sides hc
  have ex : ∀ {X : Int}, orJ (G0 ax ux uy X h) (w - 0).toNat 0 = true → ∃ s t : Int, (0 ≤ s ∧ s < w) ∧ (0 ≤ t ∧ t < h) ∧ wx ax ux uy s t = X := by
    intro X g
    obtain ⟨s, g1, g2, g3⟩ := orJ_ex _ _ g
    obtain ⟨t, g4, g5, g6⟩ := orJ_ex _ _ g3
    exact ⟨s, t, by omega, by omega, by simpa [Hv.g0] using g6⟩
  have ey : ∀ {Y : Int}, orJ (G2 ay ux uy Y h) (w - 0).toNat 0 = true → ∃ s t : Int, (0 ≤ s ∧ s < w) ∧ (0 ≤ t ∧ t < h) ∧ wy ay ux uy s t = Y := by
    intro Y g
    obtain ⟨s, g1, g2, g3⟩ := orJ_ex _ _ g
    obtain ⟨t, g4, g5, g6⟩ := orJ_ex _ _ g3
    exact ⟨s, t, by omega, by omega, by simpa [Hv.g2] using g6⟩
  obtain ⟨l1, p1, q1, r1⟩ := least 0 hl
  obtain ⟨l2, p2, q2, r2⟩ := least 1 hl
  obtain ⟨l3, p3, q3, r3⟩ := most 0 hl
  obtain ⟨l4, p4, q4, r4⟩ := most 1 hl
  obtain ⟨a1, b1, c1, d1, e1⟩ := ex s1
  obtain ⟨a2, b2, c2, d2, e2⟩ := ex s2
  obtain ⟨a3, b3, c3, d3, e3⟩ := ey s3
  obtain ⟨a4, b4, c4, d4, e4⟩ := ey s4
  have k1 := l1 _ ((hmem _).2 ⟨a1, b1, c1.1, c1.2, d1.1, d1.2, rfl⟩)
  have k2 := l3 _ ((hmem _).2 ⟨a2, b2, c2.1, c2.2, d2.1, d2.2, rfl⟩)
  have k3 := l2 _ ((hmem _).2 ⟨a3, b3, c3.1, c3.2, d3.1, d3.2, rfl⟩)
  have k4 := l4 _ ((hmem _).2 ⟨a4, b4, c4.1, c4.2, d4.1, d4.2, rfl⟩)
  obtain ⟨x1, y1, g11, g12, g13, g14, rfl⟩ := (hmem _).1 q1
  obtain ⟨x2, y2, g21, g22, g23, g24, rfl⟩ := (hmem _).1 q2
  obtain ⟨x3, y3, g31, g32, g33, g34, rfl⟩ := (hmem _).1 q3
  obtain ⟨x4, y4, g41, g42, g43, g44, rfl⟩ := (hmem _).1 q4
  have m1 := (box_in hc ⟨g11, g12⟩ ⟨g13, g14⟩).1
  have m2 := (box_in hc ⟨g21, g22⟩ ⟨g23, g24⟩).2.2.1
  have m3 := (box_in hc ⟨g31, g32⟩ ⟨g33, g34⟩).2.1
  have m4 := (box_in hc ⟨g41, g42⟩ ⟨g43, g44⟩).2.2.2
  have cx : ∀ x y, cell (ptv x y) 0 = x := fun _ _ => rfl
  have cy : ∀ x y, cell (ptv x y) 1 = y := fun _ _ => rfl
  simp only [cx, cy] at k1 k2 k3 k4 r1 r2 r3 r4
  unfold box40
  rw [show fmn (all17 ax ay ux uy w h) 0 ((all17 ax ay ux uy w h).length - 1) 1 (lz (all17 ax ay ux uy w h) 0 0) = bx0 ax ux uy w h by omega,
    show fmn (all17 ax ay ux uy w h) 1 ((all17 ax ay ux uy w h).length - 1) 1 (lz (all17 ax ay ux uy w h) 0 1) = by0 ay ux uy w h by omega,
    show fmx (all17 ax ay ux uy w h) 0 ((all17 ax ay ux uy w h).length - 1) 1 (lz (all17 ax ay ux uy w h) 0 0) = bx1 ax ux uy w h by omega,
    show fmx (all17 ax ay ux uy w h) 1 ((all17 ax ay ux uy w h).length - 1) 1 (lz (all17 ax ay ux uy w h) 0 1) = by1 ay ux uy w h by omega]
theorem box_eq (ax ay ux uy w h hr : Int) : runP Try.prog E17b 60 17 [vwv ax ay ux uy w h hr] = c16 [vwv ax ay ux uy w h hr] := by
  rw [q17]
  simp only [c16, ok0, tall_eq]
  by_cases hc : ck ax ay ux uy w h hr = 0
  · obtain ⟨⟨h1, h2, h3, h4, h5, h6, h7, h8, h9⟩, _⟩ := ck_iff.1 hc
    obtain ⟨g1, g2⟩ := box_all hc
    have g3 : (all17 ax ay ux uy w h).length ≤ 1000000 := by
      show ([] ++ allL ax ay ux uy (h - 0).toNat (w - 0).toNat 0).length ≤ 1000000
      rw [List.nil_append, allL_len]
      have : (w - 0).toNat ≤ 64 := by omega
      have : (h - 0).toNat ≤ 64 := by omega
      have := Nat.mul_le_mul ‹(w - 0).toNat ≤ 64› ‹(h - 0).toNat ≤ 64›
      omega
    have hp : p17o ⟨0, 0, 0, 0, (ax, ay, ux, uy, w, h, hr), (0, 0, 0, 0), true, []⟩ = true := by
      simp only [p17o, Bool.and_eq_true, decide_eq_true_eq]
      refine ⟨⟨⟨⟨⟨by omega, h5.2⟩, h6.2⟩, rfl⟩, rfl⟩, ?_⟩
      show 0 + (w - 0).toNat * 64 ≤ 100000
      omega
    rw [hp, decide_eq_true g2, decide_eq_true g3, g1, hc]
    simp [need]
  · have e0 : (ck ax ay ux uy w h hr != 0) = true := by simp [hc]
    rw [e0]; rfl
theorem o17 (args : List PV) (r : PV) (h : c16 args = some r) : Enters Try.prog 17 ∧ PCall Try.prog 17 args r := by
  unfold c16 at h; split at h
  · rename_i ax ay ux uy w h' hr
    refine runP_sound ok17b (n := 60) ?_
    rw [box_eq]; exact h
  · cases h
end Go.Hv
