/- Thin: plain law of titles: how many ways have one; Can by membership. -/
import Derived.Test.YtliaeiggcleoaaaPart12
namespace Go.Hn
open Go.Hx Go.Hg Go.Proofs
def mup : List (PV × PV) → PV → PV → List (PV × PV)
  | [], k, v => [(k, v)]
  | (a, w) :: D, k, v => bif keq k a then (a, v) :: D else (a, w) :: mup D k v
theorem mup_eq (z v : PV) (k : PV) : ∀ (D : List (PV × PV)), mset (mins z D k) (midxN D k) v = mup D k v
  | [] => rfl
  | (a, w) :: D => by
    have ih := mup_eq z v k D
    unfold mset mins midxN at ih ⊢
    unfold mup mhas midx
    cases hk : keq k a with
    | true => simp
    | false =>
      rw [Bool.false_or, cond_false, cond_false, ← ih]
      have e : ((midx D k).map (· + 1)).getD ((a, w) :: D).length = (midx D k).getD D.length + 1 := by cases midx D k <;> rfl
      rw [e]
      cases mhas D k <;> simp
abbrev tk (d : Int) (s : ByteArray) : PV := .agg [iv d, .val (.string s)]
theorem keq_tk (a x : Int) (b y : ByteArray) : keq (tk a b) (tk x y) = ((a == x) && (b.toList == y.toList)) := by
  show ((a == x) && ((b.toList == y.toList) && true)) = _
  rw [Bool.and_true]
theorem keq_tk_iff (a x : Int) (b y : ByteArray) : keq (tk a b) (tk x y) = true ↔ a = x ∧ b.toList = y.toList := by
  rw [keq_tk, Bool.and_eq_true, beq_iff_eq, beq_iff_eq]
def kT (D : List (PV × PV)) : Prop := ∀ p ∈ D, ∃ d s, p.1 = tk d s
theorem kT_mup {d : Int} {s : ByteArray} {v : PV} : ∀ {D : List (PV × PV)}, kT D → kT (mup D (tk d s) v)
  | [], _ => fun p h => by
    rcases List.mem_cons.1 h with rfl | h
    · exact ⟨d, s, rfl⟩
    · cases h
  | (a, w) :: D, hk => fun p h => by
    unfold mup at h
    cases e : keq (tk d s) a with
    | true =>
      rw [e, cond_true] at h
      rcases List.mem_cons.1 h with rfl | h
      · exact hk (a, w) (.head _)
      · exact hk p (.tail _ h)
    | false =>
      rw [e, cond_false] at h
      rcases List.mem_cons.1 h with rfl | h
      · exact hk _ (.head _)
      · exact kT_mup (fun q hq => hk q (.tail _ hq)) p h
theorem mget_mup {d x : Int} {s y : ByteArray} {v z : PV} : ∀ {D : List (PV × PV)}, kT D → mget z (mup D (tk d s) v) (tk x y) = bif keq (tk x y) (tk d s) then v else mget z D (tk x y)
  | [], _ => rfl
  | (a, w) :: D, hk => by
    obtain ⟨p, q, hpq⟩ := hk _ (.head _)
    have hpq : a = tk p q := hpq
    subst hpq
    have ih := mget_mup (d := d) (x := x) (s := s) (y := y) (v := v) (z := z) (fun q hq => hk q (.tail _ hq) : kT D)
    unfold mup
    cases e : keq (tk d s) (tk p q) with
    | true =>
      obtain ⟨e1, e2⟩ := (keq_tk_iff ..).1 e
      have : keq (tk x y) (tk p q) = keq (tk x y) (tk d s) := by rw [keq_tk, keq_tk, e1, e2]
      rw [cond_true]
      simp only [mget, this]
      cases keq (tk x y) (tk d s) <;> rfl
    | false =>
      rw [cond_false]
      simp only [mget, ih]
      cases e1 : keq (tk x y) (tk p q) with
      | false => rfl
      | true =>
        cases e2 : keq (tk x y) (tk d s) with
        | false => rfl
        | true =>
          obtain ⟨g1, g2⟩ := (keq_tk_iff ..).1 e1
          obtain ⟨g3, g4⟩ := (keq_tk_iff ..).1 e2
          rw [(keq_tk_iff ..).2 ⟨g3.symm.trans g1, g4.symm.trans g2⟩] at e
          cases e
def tget (D : List (PV × PV)) (k : PV) : Int := ((mget (iv 0) D k).cellAt 0).getI
def ttQ (k x : PV) : Bool := keq k (ttE x)
theorem ttN_get {D : List (PV × PV)} (hk : kT D) (d : Int) (s : ByteArray) (x : PV) : kT (ttN D (ttE x)) ∧ tget (ttN D (ttE x)) (tk d s) = bif ttQ (tk d s) x then W (tget D (ttE x) + 1) else tget D (tk d s) := by
  unfold ttN
  rw [Int.toNat_natCast, mup_eq]
  refine ⟨kT_mup hk, ?_⟩
  unfold tget
  rw [mget_mup hk]
  unfold ttQ
  cases keq (tk d s) (ttE x) <;> rfl
theorem tget_keq {D : List (PV × PV)} (hk : kT D) {d x : Int} {s y : ByteArray} (h : keq (tk d s) (tk x y) = true) : mget (iv 0) D (tk d s) = mget (iv 0) D (tk x y) := by
  obtain ⟨h1, h2⟩ := (keq_tk_iff ..).1 h
  induction D with
  | nil => rfl
  | cons p D ih =>
    obtain ⟨a, w⟩ := p
    obtain ⟨u, v, huv⟩ := hk _ (.head _)
    have huv : a = tk u v := huv
    subst huv
    simp only [mget]
    rw [ih (fun q hq => hk q (.tail _ hq)), keq_tk, keq_tk, h1, h2]
theorem ttl_get {ws : List PV} (h6 : ws.length ≤ 1000) (d : Int) (s : ByteArray) : ∀ (n k : Nat) {D : List (PV × PV)}, kT D → k + n = ws.length → (∀ d s, 0 ≤ tget D (tk d s) ∧ tget D (tk d s) ≤ k) →
    tget (ttl ws (k : Int) n D) (tk d s) = tget D (tk d s) + ((ws.drop k).countP (ttQ (tk d s)) : Int)
  | 0, k, D, _, h, _ => by rw [List.drop_of_length_le (by omega)]; simp [ttl]
  | n + 1, k, D, hk, h, hb => by
    have hlt : k < ws.length := by omega
    unfold ttl
    rw [gdk hlt, show (k : Int) + 1 = ((k + 1 : Nat) : Int) by omega]
    have hb' : ∀ d s, 0 ≤ tget (ttN D (ttE ws[k])) (tk d s) ∧ tget (ttN D (ttE ws[k])) (tk d s) ≤ ((k + 1 : Nat) : Int) := fun d s => by
      rw [(ttN_get hk d s ws[k]).2]
      have h1 := hb d s
      have h2 : 0 ≤ tget D (ttE ws[k]) ∧ tget D (ttE ws[k]) ≤ k := hb (wDs ws[k]) (wNm ws[k])
      cases ttQ (tk d s) ws[k] with
      | true => rw [cond_true, W_id (by omega) (by omega)]; omega
      | false => rw [cond_false]; omega
    rw [ttl_get h6 d s n (k + 1) (ttN_get hk d s ws[k]).1 (by omega) hb', (ttN_get hk d s ws[k]).2, List.drop_eq_getElem_cons hlt, List.countP_cons]
    have h2 : 0 ≤ tget D (ttE ws[k]) ∧ tget D (ttE ws[k]) ≤ k := hb (wDs ws[k]) (wNm ws[k])
    cases hq : ttQ (tk d s) ws[k] with
    | true =>
      rw [cond_true, W_id (by omega) (by omega)]
      have : tget D (ttE ws[k]) = tget D (tk d s) := by unfold tget; rw [tget_keq hk (show keq (tk d s) (tk (wDs ws[k]) (wNm ws[k])) = true from hq)]
      rw [this]
      simp
      omega
    | false => simp
theorem ttC_eq {ws : List PV} (h6 : ws.length ≤ 1000) (e : PV) : ttC ws e = (ws.countP (ttQ (ttE e)) : Int) := by
  have := ttl_get h6 (wDs e) (wNm e) ws.length 0 (D := []) (fun p h => by cases h) (by omega) (fun d s => ⟨Int.le_refl _, Int.le_refl _⟩)
  rw [List.drop_zero, show tget [] (tk (wDs e) (wNm e)) = 0 from rfl] at this
  unfold ttC
  rw [show ((ws.length : Int) - 0).toNat = ws.length by omega]
  exact this.trans (Int.zero_add _)
theorem ttQ_iff (x y : PV) : ttQ (ttE x) y = true ↔ wDs x = wDs y ∧ (wNm x).toList = (wNm y).toList := keq_tk_iff ..
theorem ttC_lt {ws : List PV} (h6 : ws.length ≤ 1000) {a : Nat} (ha : a < ws.length) : ttC ws ws[a] < 2 ↔ ∀ e ∈ ws.eraseIdx a, ¬(wDs ws[a] = wDs e ∧ (wNm ws[a]).toList = (wNm e).toList) := by
  rw [ttC_eq h6]
  have hs : ws.countP (ttQ (ttE ws[a])) = (ws.eraseIdx a).countP (ttQ (ttE ws[a])) + 1 := by
    have h1 : ws = ws.take a ++ (ws[a] :: ws.drop (a + 1)) := by rw [← List.drop_eq_getElem_cons ha, List.take_append_drop]
    have h2 : ttQ (ttE ws[a]) ws[a] = true := (ttQ_iff ..).2 ⟨rfl, rfl⟩
    generalize hw : ws[a] = w at h1 h2 ⊢
    rw [List.eraseIdx_eq_take_drop_succ, List.countP_append]
    conv => lhs; rw [h1]
    rw [List.countP_append, List.countP_cons, h2]
    simp
    omega
  rw [hs]
  constructor
  · intro h e he hq
    have : 0 < (ws.eraseIdx a).countP (ttQ (ttE ws[a])) := List.countP_pos_iff.2 ⟨e, he, (ttQ_iff ..).2 hq⟩
    omega
  · intro h
    have : (ws.eraseIdx a).countP (ttQ (ttE ws[a])) = 0 := List.countP_eq_zero.2 fun e he hq => h e he ((ttQ_iff ..).1 hq)
    omega
theorem ids_idx {ws : List PV} (hI : (ws.map wI).Nodup) {i j : Nat} (hi : i < ws.length) (hj : j < ws.length) (h : wI ws[i] = wI ws[j]) : i = j := by
  have := (List.getElem_inj (xs := ws.map wI) (i := i) (j := j) (h₀ := by simpa using hi) (h₁ := by simpa using hj) hI).1 (by rw [List.getElem_map, List.getElem_map]; exact h)
  exact this
theorem fiW_at {ws : List PV} (hI : (ws.map wI).Nodup) {a : Nat} (ha : a < ws.length) : ∀ (n k : Nat), k + n = ws.length → k ≤ a → fiW ws (wI ws[a]) (k : Int) n = (a : Int)
  | 0, k, h, h2 => by omega
  | n + 1, k, h, h2 => by
    have hlt : k < ws.length := by omega
    unfold fiW
    have hn : wN ws (k : Int) = wI ws[k] := by unfold wN; rw [gdk hlt]
    rw [hn]
    by_cases e : k = a
    · subst e; rw [beq_self_eq_true, cond_true]
    · have : wI ws[k] ≠ wI ws[a] := fun hx => e (ids_idx hI hlt ha hx)
      rw [beq_eq_false_iff_ne.2 this, cond_false, show (k : Int) + 1 = ((k + 1 : Nat) : Int) by omega]
      exact fiW_at hI ha n (k + 1) (by omega) (by omega)
theorem can_iff {ws : List PV} (h : okW ws = true) (hI : (ws.map wI).Nodup) {a : Nat} (ha : a < ws.length) (hd : 1 ≤ wDs ws[a]) : ∃ B K : Bool, canW ws (wI ws[a]) = (bif B then 25 else bif brB (owl ws (nrE ws[a]) 0 ws.length) (plc ws (nrE ws[a]) (a : Int) 0 ws.length 0 0) then 23 else bif K then 24 else 0) ∧
    (B = true ↔ ∃ e ∈ ws, wDs e ≠ wDs ws[a] ∧ jnW e ws[a] = true) ∧
    (K = true ↔ (wNm ws[a]).toList ≠ (ByteArray.mk #[]).toList ∧ ∀ e ∈ ws.eraseIdx a, ¬(wDs ws[a] = wDs e ∧ (wNm ws[a]).toList = (wNm e).toList)) := by
  have h6 := (okW_iff h).1
  refine ⟨bdr ws (nrE ws[a]) 0 ws.length false, !((wNm ws[a]).toList == (ByteArray.mk #[]).toList) && decide (ttC ws ws[a] < 2), ?_, ?_, ?_⟩
  · have hf := fiW_at hI ha ws.length 0 (by omega) (Nat.zero_le _)
    rw [show ((0 : Nat) : Int) = 0 from rfl] at hf
    unfold canW
    rw [hf, decide_eq_false (by omega), cond_false, gdk ha]
    unfold canE
    rw [show decide (wDs ws[a] < 1) = false from decide_eq_false (by omega)]
  · have := bdr_iff (ws := ws) (w := nrE ws[a]) ws.length 0 false (by omega)
    rw [List.drop_zero] at this
    refine this.trans ⟨fun hx => ?_, fun hx => .inr hx⟩
    rcases hx with hx | hx
    · cases hx
    · exact hx
  · rw [Bool.and_eq_true, Bool.not_eq_true', beq_eq_false_iff_ne, decide_eq_true_eq, ttC_lt (by omega) ha]
end Go.Hn
/- Thin: ThinEnds: plain law: made ways, and what each round asks. -/
namespace Go.Hn
open Go.Hx Go.Hg Go.Proofs
def othP (p : PV → Bool) (ws : List PV) (i : Int) : Int → Nat → Bool → Bool
  | _, 0, b => b
  | k, n + 1, b => othP p ws i (k + 1) n (bif k == i then b else b || p (ws.getD k.toNat .any))
theorem eB_oth (ws : List PV) (w : PV) (i : Int) : ∀ (n : Nat) (k : Int) (b : Bool), eB ws w i k n b = othP (fun e => (wDs e != wDs w) && jnW e w) ws i k n b
  | 0, _, _ => rfl
  | n + 1, k, b => by unfold eB othP; rw [eB_oth ws w i n]
theorem eO_oth (ws : List PV) (x1 x2 x3 : Int) (i : Int) : ∀ (n : Nat) (k : Int) (b : Bool), eO ws x1 x2 x3 i k n b = othP (fun e => eqS (aX e) (aY e) (aL e) x1 x2 x3 || eqS (zX e) (zY e) (aL e) x1 x2 x3) ws i k n b
  | 0, _, _ => rfl
  | n + 1, k, b => by unfold eO othP; rw [eO_oth ws x1 x2 x3 i n]
theorem eK_oth (ws : List PV) (w : PV) (i : Int) : ∀ (n : Nat) (k : Int) (b : Bool), eK ws w i k n b = othP (fun e => ((wNm e).toList == (wNm w).toList) && (wDs e == wDs w)) ws i k n b
  | 0, _, _ => rfl
  | n + 1, k, b => by unfold eK othP; rw [eK_oth ws w i n]
theorem oth_iff {p : PV → Bool} {ws : List PV} {i : Nat} : ∀ (n k : Nat) (b : Bool), k + n = ws.length → (othP p ws (i : Int) (k : Int) n b = true ↔ b = true ∨ ∃ (j : Nat) (hj : j < ws.length), k ≤ j ∧ j ≠ i ∧ p ws[j] = true)
  | 0, k, b, h => ⟨.inl, fun h2 => by rcases h2 with h2 | ⟨j, hj, h3, _⟩; exact h2; omega⟩
  | n + 1, k, b, h => by
    have hlt : k < ws.length := by omega
    unfold othP
    rw [show (k : Int) + 1 = ((k + 1 : Nat) : Int) by omega, oth_iff n (k + 1) _ (by omega), gdk hlt]
    by_cases e : k = i
    · subst e
      rw [beq_self_eq_true, cond_true]
      constructor
      · rintro (h1 | ⟨j, hj, h1, h2, h3⟩)
        · exact .inl h1
        · exact .inr ⟨j, hj, by omega, h2, h3⟩
      · rintro (h1 | ⟨j, hj, h1, h2, h3⟩)
        · exact .inl h1
        · exact .inr ⟨j, hj, by omega, h2, h3⟩
    · rw [show ((k : Int) == (i : Int)) = false by rw [beq_eq_false_iff_ne]; omega, cond_false, Bool.or_eq_true]
      constructor
      · rintro ((h1 | h1) | ⟨j, hj, h1, h2, h3⟩)
        · exact .inl h1
        · exact .inr ⟨k, hlt, Nat.le_refl _, e, h1⟩
        · exact .inr ⟨j, hj, by omega, h2, h3⟩
      · rintro (h1 | ⟨j, hj, h1, h2, h3⟩)
        · exact .inl (.inl h1)
        · by_cases ej : j = k
          · subst ej; exact .inl (.inr h3)
          · exact .inr ⟨j, hj, by omega, h2, h3⟩
theorem oth_er {p : PV → Bool} {ws : List PV} (h6 : ws.length ≤ 6) {a : Nat} (ha : a < ws.length) (b : Bool) : othP p ws (a : Int) 0 ((ws.length : Int) - 0).toNat b = true ↔ b = true ∨ ∃ e ∈ ws.eraseIdx a, p e = true := by
  rw [show ((ws.length : Int) - 0).toNat = ws.length by omega]
  refine (oth_iff ws.length 0 b (by omega)).trans ⟨fun h => ?_, fun h => ?_⟩
  · rcases h with h | ⟨j, hj, _, h2, h3⟩
    · exact .inl h
    · obtain ⟨k, hk, _, fk⟩ := erase_at h6 ha hj h2
      exact .inr ⟨ws[j], by rw [← fk]; exact List.getElem_mem _, h3⟩
  · rcases h with h | ⟨e, he, h3⟩
    · exact .inl h
    · obtain ⟨j, hj, h2, rfl⟩ := erase_mem ha he
      exact .inr ⟨j, hj, Nat.zero_le _, h2, h3⟩
theorem eqA_iff {e : PV} (h : stB (wL e) = true) {w : PV} (hw : stB (wL w) = true) :
    (eqS (aX e) (aY e) (aL e) (aX w) (aY w) (aL w) = true ↔ stA3 e = stA3 w) ∧ (eqS (zX e) (zY e) (aL e) (aX w) (aY w) (aL w) = true ↔ stZ3 e = stA3 w) ∧
    (eqS (aX e) (aY e) (aL e) (zX w) (zY w) (aL w) = true ↔ stA3 e = stZ3 w) ∧ (eqS (zX e) (zY e) (aL e) (zX w) (zY w) (aL w) = true ↔ stZ3 e = stZ3 w) := by
  unfold aX aY aL zX zY zi
  rw [stB_len h, stB_len hw]
  exact ⟨eqS_iff .., eqS_iff .., eqS_iff .., eqS_iff ..⟩
theorem rd_law {ws : List PV} (hC : okC ws = true) (hI : (ws.map wI).Nodup) (hD : ∀ e ∈ ws, 1 ≤ wDs e) {a : Nat} (ha : a < ws.length) : rdE ws (a : Int) = true := by
  unfold okC at hC
  rw [Bool.and_eq_true] at hC
  obtain ⟨h, hb⟩ := hC
  obtain ⟨h6, hst⟩ := okW_iff h
  have hm : ∀ {e}, e ∈ ws.eraseIdx a → e ∈ ws := fun he => List.mem_of_mem_eraseIdx he
  have hw := hst _ (List.getElem_mem ha)
  obtain ⟨B, K, hc, hB, hK⟩ := can_iff h hI ha (hD _ (List.getElem_mem ha))
  have hdE : dE ws (a : Int) ws[a] = true ↔ B = true := by
    unfold dE
    rw [eB_oth, oth_er h6 ha, hB]
    constructor
    · rintro (h1 | ⟨e, he, h1⟩)
      · cases h1
      · rw [Bool.and_eq_true, bne_iff_ne] at h1
        exact ⟨e, hm he, h1.1, h1.2⟩
    · rintro ⟨e, he, h1, h2⟩
      obtain ⟨j, hj, rfl⟩ := List.mem_iff_getElem.1 he
      by_cases ej : j = a
      · subst ej; exact absurd rfl h1
      · obtain ⟨k, hk, _, fk⟩ := erase_at h6 ha hj ej
        exact .inr ⟨ws[j], by rw [← fk]; exact List.getElem_mem _, by rw [Bool.and_eq_true, bne_iff_ne]; exact ⟨h1, h2⟩⟩
  have hoE : oE ws (a : Int) ws[a] = true ↔ ∃ e ∈ ws.eraseIdx a, stA3 e = stA3 ws[a] ∨ stZ3 e = stA3 ws[a] := by
    unfold oE
    rw [eO_oth, oth_er h6 ha]
    constructor
    · rintro (h1 | ⟨e, he, h1⟩)
      · cases h1
      · have q := eqA_iff (hst e (hm he)) hw
        rw [Bool.or_eq_true, q.1, q.2.1] at h1
        exact ⟨e, he, h1⟩
    · rintro ⟨e, he, h1⟩
      have q := eqA_iff (hst e (hm he)) hw
      exact .inr ⟨e, he, by rw [Bool.or_eq_true, q.1, q.2.1]; exact h1⟩
  have htE : tE ws (a : Int) ws[a] = true ↔ ∃ e ∈ ws.eraseIdx a, stA3 e = stZ3 ws[a] ∨ stZ3 e = stZ3 ws[a] := by
    unfold tE
    rw [eO_oth, oth_er h6 ha]
    constructor
    · rintro (h1 | ⟨e, he, h1⟩)
      · cases h1
      · have q := eqA_iff (hst e (hm he)) hw
        rw [Bool.or_eq_true, q.2.2.1, q.2.2.2] at h1
        exact ⟨e, he, h1⟩
    · rintro ⟨e, he, h1⟩
      have q := eqA_iff (hst e (hm he)) hw
      exact .inr ⟨e, he, by rw [Bool.or_eq_true, q.2.2.1, q.2.2.2]; exact h1⟩
  have hkE : kE ws (a : Int) ws[a] = true ↔ K = false := by
    unfold kE
    rw [eK_oth, oth_er h6 ha, beq_iff_eq, ← Bool.not_eq_true, hK]
    constructor
    · rintro (h1 | ⟨e, he, h1⟩) ⟨g1, g2⟩
      · exact g1 h1
      · rw [Bool.and_eq_true, beq_iff_eq, beq_iff_eq] at h1
        exact g2 e he ⟨h1.2.symm, h1.1.symm⟩
    · intro hn
      by_cases h1 : (wNm ws[a]).toList = (ByteArray.mk #[]).toList
      · exact .inl h1
      · refine Classical.byContradiction fun hx => hn ⟨h1, fun e he hq => hx (.inr ⟨e, he, ?_⟩)⟩
        rw [Bool.and_eq_true, beq_iff_eq, beq_iff_eq]
        exact ⟨hq.2.symm, hq.1.symm⟩
  have hbr : brB (owl ws (nrE ws[a]) 0 ws.length) (plc ws (nrE ws[a]) (a : Int) 0 ws.length 0 0) = true → oE ws (a : Int) ws[a] = true ∧ tE ws (a : Int) ws[a] = true ∧ stA3 ws[a] ≠ stZ3 ws[a] := by
    intro hbr
    obtain ⟨k, hk, hk2, e1, e2⟩ := own_at ha
    rw [hk] at hbr
    have hfree := brB_free (owl_okW h (nrE ws[a])) hk2
    rw [e1, e2, stA3_nb, stZ3_nb] at hfree
    have sub : ∀ {e}, e ∈ ((ws.eraseIdx a).filter (ownB ws[a])).map nrE → ∃ d ∈ ws.eraseIdx a, stA3 e = stA3 d ∧ stZ3 e = stZ3 d := fun he => by
      obtain ⟨d, hd, rfl⟩ := List.mem_map.1 he
      exact ⟨d, (List.mem_filter.1 hd).1, stA3_nb .., stZ3_nb ..⟩
    refine ⟨Classical.byContradiction fun hx => ?_, Classical.byContradiction fun hx => ?_, fun hx => ?_⟩
    · rw [hfree (.inl fun e he => ?_)] at hbr
      · cases hbr
      · obtain ⟨d, hd, g1, g2⟩ := sub he
        rw [g1, g2]
        exact ⟨fun h1 => hx (hoE.2 ⟨d, hd, .inl h1⟩), fun h1 => hx (hoE.2 ⟨d, hd, .inr h1⟩)⟩
    · rw [hfree (.inr (.inl fun e he => ?_))] at hbr
      · cases hbr
      · obtain ⟨d, hd, g1, g2⟩ := sub he
        rw [g1, g2]
        exact ⟨fun h1 => hx (htE.2 ⟨d, hd, .inl h1⟩), fun h1 => hx (htE.2 ⟨d, hd, .inr h1⟩)⟩
    · rw [hfree (.inr (.inr hx))] at hbr
      cases hbr
  unfold rdE
  rw [gdk ha, hc]
  cases hB2 : B with
  | true => rw [hdE.2 hB2]; rfl
  | false =>
    have hd : dE ws (a : Int) ws[a] = false := by rw [← Bool.not_eq_true, hdE, hB2]; simp
    rw [hd]
    simp only [cond_false]
    cases hr : brB (owl ws (nrE ws[a]) 0 ws.length) (plc ws (nrE ws[a]) (a : Int) 0 ws.length 0 0) with
    | true =>
      obtain ⟨g1, g2, g3⟩ := hbr hr
      have q := (eqA_iff hw hw).2.2.1
      have g4 : eqS (aX ws[a]) (aY ws[a]) (aL ws[a]) (zX ws[a]) (zY ws[a]) (aL ws[a]) = false := by rw [← Bool.not_eq_true, q]; exact g3
      rw [g1, g2, g4]
      rfl
    | false =>
      cases hK2 : K with
      | true => rw [show kE ws (a : Int) ws[a] = false by rw [← Bool.not_eq_true, hkE, hK2]; simp]; rfl
      | false => rw [hkE.2 hK2]; rfl
theorem all_law {ws : List PV} (hC : okC ws = true) (hI : (ws.map wI).Nodup) (hD : ∀ e ∈ ws, 1 ≤ wDs e) : ∀ (n k : Nat), k + n = ws.length → allE ws (k : Int) n = true
  | 0, _, _ => rfl
  | n + 1, k, h => by
    unfold allE
    rw [rd_law hC hI hD (by omega), show (k : Int) + 1 = ((k + 1 : Nat) : Int) by omega, all_law hC hI hD n (k + 1) (by omega)]; rfl
end Go.Hn
/- Thin: ThinEnds: the outer loop as a contract; the law as a plain function. -/
namespace Go.Hn
open Go.Hx Go.Hg Go.Proofs
theorem sE2 : ∀ s r, pE2 s = true → (fE2 s).run = some r → r.1 ≠ .normal ∧ ∃ E : EnvK, EnvOK Try.prog E.env ∧ (runB Try.prog E 60 5 (lpb Try.f5 4) [5, 6, 7] [4, 5, 6] (shE2.put s).1 (shE2.put s).2 = some r ∨
      ∃ s', runB Try.prog E 60 5 (lpb Try.f5 4) [5, 6, 7] [4, 5, 6] (shE2.put s).1 (shE2.put s).2 = some (.normal, shE2.put s') ∧ pE2 s' = true ∧ mE2 s' < mE2 s ∧ (fE2 s').run = some r) := by
  intro s r hp hr
  unfold pE2 at hp; split at hp
  · rename_i u i f ws
    simp only [Bool.and_eq_true, decide_eq_true_eq] at hp
    obtain ⟨h1, h3, h4⟩ := hp
    have hr' := (Option.some.inj hr).symm
    refine ⟨by rw [hr']; simp, ?_⟩
    rw [show shE2.put ([.b u, .i i], [.l f ws]) = shE2.put (lE2 u i f ws) from rfl]
    have hC := h3
    unfold okC at h3
    rw [Bool.and_eq_true] at h3
    have h6 := (okW_iff h3.1).1
    by_cases hi : i < (ws.length : Int)
    · obtain ⟨n, hn⟩ : ∃ n, ((ws.length : Int) - i).toNat = n + 1 := ⟨((ws.length : Int) - i).toNat - 1, by omega⟩
      have hn2 : ((ws.length : Int) - (i + 1)).toNat = n := by omega
      rw [hn] at h4
      unfold allE at h4
      rw [Bool.and_eq_true] at h4
      obtain ⟨h5, h4⟩ := h4
      have hb := okB_at h3.2 h1 hi
      have hp1 : pE1 (lE1 u i false false ((wNm (ws.getD i.toNat .any)).toList == (ByteArray.mk #[]).toList) false 0 f ws false (ws.getD i.toNat .any) (aX (ws.getD i.toNat .any)) (aY (ws.getD i.toNat .any)) (aL (ws.getD i.toNat .any)) (zX (ws.getD i.toNat .any)) (zY (ws.getD i.toNat .any)) (aL (ws.getD i.toNat .any))) = true := by
        simp only [pE1, Bool.and_eq_true, decide_eq_true_eq]
        exact ⟨⟨Int.le_refl _, by omega⟩, h3.2, of_decide_eq_true hb⟩
      have hin := inr_of h1 hi
      have hw : W (i + 1) = i + 1 := W_id (by omega) (by omega)
      have nxt : ∀ E : EnvK, EnvOK Try.prog E.env → runB Try.prog E 60 5 (lpb Try.f5 4) [5, 6, 7] [4, 5, 6] (shE2.put (lE2 u i f ws)).1 (shE2.put (lE2 u i f ws)).2 = some (.normal, shE2.put (lE2 u (W (i + 1)) f ws)) →
          ∃ E : EnvK, EnvOK Try.prog E.env ∧ (runB Try.prog E 60 5 (lpb Try.f5 4) [5, 6, 7] [4, 5, 6] (shE2.put (lE2 u i f ws)).1 (shE2.put (lE2 u i f ws)).2 = some r ∨
            ∃ s', runB Try.prog E 60 5 (lpb Try.f5 4) [5, 6, 7] [4, 5, 6] (shE2.put (lE2 u i f ws)).1 (shE2.put (lE2 u i f ws)).2 = some (.normal, shE2.put s') ∧ pE2 s' = true ∧ mE2 s' < mE2 (lE2 u i f ws) ∧ (fE2 s').run = some r) := by
        intro E hE hq
        refine ⟨E, hE, .inr ⟨lE2 u (i + 1) f ws, by rw [hq, hw], ?_, by simp only [mE2]; omega, by rw [hr']; rfl⟩⟩
        simp only [pE2, Bool.and_eq_true, decide_eq_true_eq]
        exact ⟨by omega, hC, by rw [hn2]; exact h4⟩
      unfold rdE at h5
      simp only [Bool.or_eq_true, Bool.and_eq_true, Bool.not_eq_true'] at h5
      rcases h5 with ⟨c, d⟩ | ⟨c, d, o, t, q⟩ | ⟨c, d, k⟩ | ⟨c, d, k⟩
      · refine nxt (TV1 none none none (some true) 25) (okTV1 ..) ?_
        rw [qE25, decide_eq_true hi, hin, hb, hp1, hC, c, d]; rfl
      · refine nxt (TV1 (some true) (some true) none (some false) 23) (okTV1 ..) ?_
        rw [qE23, decide_eq_true hi, hin, hb, hp1, hC, c, d, o, t, q]; rfl
      · refine nxt (TV1 none none (some false) (some false) 24) (okTV1 ..) ?_
        rw [qE24, decide_eq_true hi, hin, hb, hp1, hC, c, d, k]
        cases oE ws i (ws.getD i.toNat .any) <;> cases tE ws i (ws.getD i.toNat .any) <;> rfl
      · refine nxt (TV1 none none (some true) (some false) 0) (okTV1 ..) ?_
        rw [qE0, decide_eq_true hi, hin, hb, hp1, hC, c, d, k]
        cases oE ws i (ws.getD i.toNat .any) <;> cases tE ws i (ws.getD i.toNat .any) <;> rfl
    · refine ⟨TV1 none none none (some true) 25, okTV1 .., .inl ?_⟩
      rw [qE25, decide_eq_false hi, hr']; rfl
  · cases hp
noncomputable def TW0 : EnvK := TU0.addW 5 4 [5, 6, 7] [] shE2 pE2 fE2
theorem okTW0 : EnvOK Try.prog TW0.env :=
  okTU0.addWv (n := 60) Try.func5 (show Try.f5.body = some (bod Try.f5) by kernel_rfl) (show (loops (bod Try.f5)).filter (fun b => rid b == 4) = [lpb Try.f5 4] by kernel_rfl) [5, 6, 7] [4, 5, 6] [] shE2 mE2 sE2
theorem qTE (f : Bool) (L : List PV) (g : Bool) (nm : List PV) : runP Try.prog TW0 100 5 [.lst f 3 L, .lst g 5 nm] =
  bif okN nm then bif pE2 (lE2 true 0 false (madeN L nm)) then some (bv true) else none else none := by kernel_rfl
end Go.Hn
/- Thin: what is made: numbers, lines and districts. -/
namespace Go.Hn
open Go.Hx Go.Hg Go.Proofs
theorem map_set_same {α β : Type} (F : α → β) : ∀ {l : List α} {k : Nat} {x : α}, (∀ y, l[k]? = some y → F x = F y) → (l.set k x).map F = l.map F
  | [], _, _, _ => rfl
  | y :: l, 0, x, h => by simp [h y rfl]
  | y :: l, k + 1, x, h => by simp only [List.set_cons_succ, List.map_cons]; rw [map_set_same F fun z hz => h z (by simpa using hz)]
theorem rE_at {es : List PV} {i : Int} {y : PV} (h : es[0 + i.toNat]? = some y) : rE es i = y := by
  unfold rE
  rw [List.getD_eq_getElem?_getD, h]; rfl
theorem esD_map {β : Type} (F : PV → β) (h1 : ∀ s e, F (nmE s e) = F e) (h2 : ∀ d e, F (dsE d e) = F e) (es : List PV) (i v : Int) : (esD es i v).map F = es.map F := by
  have e1 : (esN es i v).map F = es.map F := map_set_same F fun y hy => by rw [h1, rE_at hy]
  exact (map_set_same F fun y hy => by rw [h2, rE_at hy]).trans e1
theorem updL_map {β : Type} (F : PV → β) (h1 : ∀ s e, F (nmE s e) = F e) (h2 : ∀ d e, F (dsE d e) = F e) (nm : List PV) : ∀ (n : Nat) (i : Int) (es : List PV), (updL nm i n es).map F = es.map F
  | 0, _, _ => rfl
  | n + 1, i, es => by
    unfold updL
    rw [updL_map F h1 h2 nm n]; exact esD_map F h1 h2 ..
theorem dsV_range {v : Int} (h0 : 0 ≤ v) (h1 : v ≤ 255) : 1 ≤ dsV v ∧ dsV v ≤ 2 := by
  unfold dsV
  have a0 := Int.tdiv_nonneg h0 (show (0 : Int) ≤ 5 by omega)
  have a1 : Int.tdiv v 5 ≤ v := by rw [Int.tdiv_eq_ediv_of_nonneg h0]; omega
  rw [W_id (n := Int.tdiv v 5) (by omega) (by omega)]
  have b0 := Int.tmod_nonneg (2 : Int) a0
  have b1 := Int.tmod_lt_of_pos (Int.tdiv v 5) (show (0 : Int) < 2 by omega)
  rw [W_id (by omega) (by omega)]
  omega
theorem esD_get (es : List PV) (i v : Int) (j : Nat) : (esD es i v)[j]? = if 0 + i.toNat = j then (if 0 + i.toNat < es.length then some (dsE (dsV v) (rE (esN es i v) i)) else none) else es[j]? := by
  unfold esD
  rw [List.getElem?_set, show (esN es i v).length = es.length by unfold esN; simp]
  by_cases h : 0 + i.toNat = j
  · rw [if_pos h, if_pos h]
  · rw [if_neg h, if_neg h]
    unfold esN
    rw [List.getElem?_set, if_neg h]
theorem updL_ds {nm : List PV} (h : okN nm = true) : ∀ (n i : Nat) (es : List PV), i + n = es.length → (∀ j (hj : j < es.length), j < i → 1 ≤ wDs es[j] ∧ wDs es[j] ≤ 2) → ∀ e ∈ updL nm (i : Int) n es, 1 ≤ wDs e ∧ wDs e ≤ 2
  | 0, i, es, hl, hd => fun e he => by
    obtain ⟨j, hj, rfl⟩ := List.mem_iff_getElem.1 he
    exact hd j hj (by have : j < es.length := hj; omega)
  | n + 1, i, es, hl, hd => by
    unfold updL
    rw [show (i : Int) + 1 = ((i + 1 : Nat) : Int) by omega]
    refine updL_ds h n (i + 1) _ (by rw [esD_len]; omega) fun j hj hji => ?_
    have hv := vO_range h (i := (i : Int)) (by omega)
    have hlen : (esN es (i : Int) (vO nm (i : Int))).length = es.length := by unfold esN; simp
    have hg := esD_get es (i : Int) (vO nm (i : Int)) j
    by_cases e : j = i
    · subst e
      rw [if_pos (by omega), if_pos (by omega)] at hg
      rw [(List.getElem?_eq_some_iff.1 hg).2]
      exact dsV_range hv.1 hv.2
    · rw [if_neg (by omega), List.getElem?_eq_getElem (l := es) (by rw [esD_len] at hj; exact hj)] at hg
      rw [(List.getElem?_eq_some_iff.1 hg).2]
      exact hd j _ (by omega)
theorem madeN_map {β : Type} (F : PV → β) (h1 : ∀ s e, F (nmE s e) = F e) (h2 : ∀ d e, F (dsE d e) = F e) (L nm : List PV) : (madeN L nm).map F = (fineW L).map F := updL_map F h1 h2 ..
theorem madeN_ids (L nm : List PV) : ((madeN L nm).map wI).Nodup := by rw [madeN_map wI (fun _ _ => rfl) (fun _ _ => rfl)]; exact fine_ids L
theorem madeN_ds {L nm : List PV} (h : okN nm = true) : ∀ e ∈ madeN L nm, 1 ≤ wDs e ∧ wDs e ≤ 2 := updL_ds h (fineW L).length 0 _ (by omega) fun j _ hj => by omega
theorem all_of_map {β : Type} {F : PV → β} {p : β → Bool} {l l' : List PV} (h : l.map F = l'.map F) (h2 : l'.all (fun e => p (F e)) = true) : l.all (fun e => p (F e)) = true := by
  rw [List.all_eq_true] at h2 ⊢
  intro e he
  have : F e ∈ l'.map F := by rw [← h]; exact List.mem_map_of_mem he
  obtain ⟨d, hd, hx⟩ := List.mem_map.1 this
  rw [← hx]
  exact h2 d hd
theorem madeN_okW (L nm : List PV) : okW (madeN L nm) = true := by
  have h := fine_okW L
  unfold okW at h ⊢
  rw [madeN_len]
  rw [Bool.and_eq_true] at h ⊢
  exact ⟨h.1, all_of_map (F := wL) (p := stB) (madeN_map wL (fun _ _ => rfl) (fun _ _ => rfl) L nm) h.2⟩
theorem madeN_okB (L nm : List PV) : okB (madeN L nm) = true := by
  have h := fine_okB L
  unfold okB at h ⊢
  rw [Bool.and_eq_true] at h ⊢
  refine ⟨?_, all_of_map (F := wL) (p := bigL) (madeN_map wL (fun _ _ => rfl) (fun _ _ => rfl) L nm) h.2⟩
  rw [show bigL (madeN L nm) = bigL (fineW L) by unfold bigL; rw [madeN_len]]
  exact h.1
end Go.Hn
/- Thin: the law ThinEnds. -/
namespace Go.Hn
open Go.Hx Go.Hg Go.Proofs
theorem madeN_okC (L nm : List PV) : okC (madeN L nm) = true := by unfold okC; rw [madeN_okW, madeN_okB]; rfl
theorem lawE5 (f g : Bool) (L nm : List PV) (h : okN nm = true) : Hx.Enters Try.prog 5 ∧ PCall Try.prog 5 [.lst f 3 L, .lst g 5 nm] (bv true) := by
  refine runP_sound okTW0 (n := 100) ?_
  rw [qTE, h, show pE2 (lE2 true 0 false (madeN L nm)) = true by
    simp only [pE2, Bool.and_eq_true, decide_eq_true_eq]
    refine ⟨Int.le_refl _, madeN_okC L nm, ?_⟩
    have := all_law (madeN_okC L nm) (madeN_ids L nm) (fun e he => (madeN_ds h e he).1) (madeN L nm).length 0 (by omega)
    rw [show (((madeN L nm).length : Int) - 0).toNat = (madeN L nm).length by omega]
    exact this]
  rfl
end Go.Hn
