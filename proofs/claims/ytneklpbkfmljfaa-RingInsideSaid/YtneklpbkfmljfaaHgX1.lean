/- Geometry: numbers that are drawn from a list; made rings. -/
import Derived.Test.YtneklpbkfmljfaaHgW9
import Derived.Test.YtneklpbkfmljfaaHxPick
namespace Go.Hg
open Go.Hx Go.Proofs
/-- The number at a place. -/
def dv (es : List PV) (k : Nat) : Int := ((es.getD k .any).cellAt 0).getI
def dn (es : List PV) (k : Nat) (n : Int) : Int := if es.length ≤ k then 0 else dv es k % n
def da (es : List PV) (k : Nat) : Nat := if es.length ≤ k then k else k + 1
abbrev drw (f : Bool) (es : List PV) (k : Nat) : Row := r1 117 2 (.agg [.lst f 3 es, .val (.int .i64 (Int.ofNat k))])
/-- The number that is drawn; the first one as it is known. -/
def dnr (r : Int) (es : List PV) (k : Nat) (n : Int) : Int := bif decide (k = 0) then r else dn es k n
def ckc (r : Int) (es : List PV) (k : Nat) (n : Int) : Bool := decide (0 < n) && decide (n ≤ 4611686018427387904) && decide (k < 4611686018427387904) && decide (dnr r es k n = dn es k n)
def cNxt (r : Int) : List PV → List Row → Option (DT (PV × List Row))
  | [.ptr 0 1 0 0, .val (.int .i64 n)], [⟨[.agg [.lst f 3 es, .val (.int .i64 (.ofNat k))]], 2, 117, true, true, false, none⟩] =>
    some (.br (ckc r es k n) (.leaf (iv (dnr r es k n), [drw f es (da es k)])) .no)
  | _, _ => none
theorem qNxt (es : List PV) (k : Nat) (f : Bool) (n : Int) : runR Try.prog E38 60 0 101 [.ptr 0 1 0 0, iv n] [drw f es k] =
  bif decide (((k : Nat) : Int) ≥ ((es.length : Nat) : Int)) then some (iv 0, [drw f es k])
  else bif decide (0 ≤ W (W ((k : Int) + 1) - 1)) && decide (W (W ((k : Int) + 1) - 1) < ((es.length : Nat) : Int)) then
    bif decide (0 < n) && decide (n ≤ 4611686018427387904) then some (iv (dv es (W (W ((k : Int) + 1) - 1)).toNat % n), [r1 117 2 (.agg [.lst f 3 es, iv (W ((k : Int) + 1))])]) else none
  else none := by kernel_rfl
theorem eNxt : Enters Try.prog 101 := (runR_sound ok38 (n := 60) (ro := 0) (args := [.ptr 0 1 0 0, iv 1]) (H := [drw true [] 0]) (p := iv 0) (H' := [drw true [] 0]) (by kernel_rfl)).1
theorem oNxt (r : Int) (args : List PV) (H : List Row) (d : DT (PV × List Row)) (p : PV) (H' : List Row) (h : cNxt r args H = some d) (hd : d.run = some (p, H')) : RCall Try.prog 0 101 args H p H' := by
  unfold cNxt at h; split at h
  · rename_i n f es k
    cases h
    obtain ⟨hc, he⟩ := run_br hd
    cases he
    unfold ckc at hc
    simp only [Bool.and_eq_true, decide_eq_true_eq] at hc
    obtain ⟨⟨⟨h1, h2⟩, h3⟩, h4⟩ := hc
    refine (runR_sound ok38 (n := 60) ?_).2
    rw [qNxt, h4]
    have hw : W (W ((k : Int) + 1) - 1) = k := by rw [W_id (n := (k : Int) + 1) (by omega) (by omega), W_id (by omega) (by omega)]; omega
    have hw1 : W ((k : Int) + 1) = Int.ofNat (k + 1) := by rw [W_id (by omega) (by omega)]; rfl
    unfold dn da
    rcases Nat.lt_or_ge k es.length with hk | hk
    · have g1 : decide (((k : Nat) : Int) ≥ ((es.length : Nat) : Int)) = false := by simp; omega
      have g2 : (decide (0 ≤ (k : Int)) && decide ((k : Int) < ((es.length : Nat) : Int))) = true := by simp; omega
      rw [g1, hw, g2, hw1, if_neg (by omega), if_neg (by omega)]
      simp only [h1, h2, decide_true, Bool.and_true, cond_true, cond_false, Int.toNat_natCast]
    · have g1 : decide (((k : Nat) : Int) ≥ ((es.length : Nat) : Int)) = true := by simp; omega
      rw [g1, if_pos hk, if_pos hk]; rfl
  · cases h
noncomputable def EM (r : Int) : EnvK := E38.addR 101 (cNxt r)
theorem okM (r : Int) : EnvOK Try.prog (EM r).env := ok38.addR eNxt (oNxt r)
def pos (es : List PV) : Nat → Nat | 0 => 0 | j + 1 => da es (pos es j)
theorem pos_le (es : List PV) : ∀ j, pos es j ≤ j
  | 0 => Nat.le_refl _
  | j + 1 => by simp only [pos, da]; have := pos_le es j; split <;> omega
theorem dn_ge (es : List PV) (k : Nat) {n : Int} (h : 0 < n) : 0 ≤ dn es k n := by unfold dn; split; exact Int.le_refl _; exact Int.emod_nonneg _ (by omega)
theorem dn_lt (es : List PV) (k : Nat) {n : Int} (h : 0 < n) : dn es k n < n := by unfold dn; split; exact h; exact Int.emod_lt_of_pos _ h
/-- The j-th number that is drawn. -/
def dr (es : List PV) (j : Nat) (n : Int) : Int := dn es (pos es j) n
theorem da_pos {es : List PV} (h : 0 < es.length) (k : Nat) : da es k ≠ 0 := by unfold da; split <;> omega
theorem pos_zero {es : List PV} (h : 0 < es.length) (j : Nat) : pos es (j + 1) ≠ 0 := da_pos h _
theorem dnr_eq {r : Int} {es : List PV} (h : dr es 0 4 = r) (j : Nat) {n : Int} (hn : j = 0 → n = 4) : dnr r es (pos es j) n = dr es j n := by
  unfold dnr dr
  by_cases h0 : pos es j = 0
  · rw [decide_eq_true h0, cond_true, ← h]
    cases j with
    | zero => rw [hn rfl]; rfl
    | succ j =>
      have : es.length = 0 := by
        rcases Nat.eq_zero_or_pos es.length with g | g
        · exact g
        · exact absurd h0 (pos_zero g j)
      unfold dr dn; rw [if_pos (by omega), if_pos (by omega)]
  · rw [decide_eq_false h0]; rfl
theorem ckc_of {r : Int} {es : List PV} (h : dr es 0 4 = r) (j : Nat) {n : Int} (hn : j = 0 → n = 4) (h0 : 0 < n) (h1 : n ≤ 4611686018427387904) (hj : j < 1000) : ckc r es (pos es j) n = true := by
  unfold ckc
  have := pos_le es j
  simp only [Bool.and_eq_true, decide_eq_true_eq]
  exact ⟨⟨⟨h0, h1⟩, by omega⟩, dnr_eq h j hn⟩
/-- The columns of a made ring: where it is, the lower point, the upper one. -/
def mxF (g : Nat → Int → Int) : Nat → Int
  | 0 => W (g 2 8 - 4)
  | k + 1 => W (W (mxF g k + 1) + g (5 + 3 * k) 4)
def myF (g : Nat → Int → Int) (k : Nat) : Int := W (g (3 + 3 * k) 9 - 4)
def mhF (g : Nat → Int → Int) (k : Nat) : Int := W (W (myF g k + 1) + g (4 + 3 * k) 7)
def tp (t x y : Int) : PV := ptv (trx x y t) (tryy x y t)
def mdF (g : Nat → Int → Int) (n : Nat) : List PV := ((List.range n).map fun k => tp (g 1 4) (mxF g k) (myF g k)) ++ ((List.range n).reverse.map fun k => tp (g 1 4) (mxF g k) (mhF g k))
def gr (r : Int) (es : List PV) (j : Nat) (n : Int) : Int := dnr r es (pos es j) n
def ck (r : Int) (es : List PV) (j : Nat) (n : Int) (t : Option PV) : Option PV := bif ckc r es (pos es j) n then t else none
/-- The points of a made ring. -/
def madeL (es : List PV) : List PV := mdF (dr es) (2 + (dr es 0 4).toNat)

theorem qMade0 (f : Bool) (es : List PV) : runP Try.prog (EM 0) 100 55 [.lst f 3 es] = ck 0 es 0 4 (ck 0 es 1 4 (ck 0 es 2 8 (ck 0 es 3 9 (ck 0 es 4 7 (ck 0 es 5 4 (ck 0 es 6 9 (ck 0 es 7 7 (ck 0 es 8 4 (some (.lst false 23 (mdF (gr 0 es) 2))))))))))) := by kernel_rfl
theorem qMade1 (f : Bool) (es : List PV) : runP Try.prog (EM 1) 100 55 [.lst f 3 es] = ck 1 es 0 4 (ck 1 es 1 4 (ck 1 es 2 8 (ck 1 es 3 9 (ck 1 es 4 7 (ck 1 es 5 4 (ck 1 es 6 9 (ck 1 es 7 7 (ck 1 es 8 4 (ck 1 es 9 9 (ck 1 es 10 7 (ck 1 es 11 4 (some (.lst false 23 (mdF (gr 1 es) 3)))))))))))))) := by kernel_rfl
theorem qMade2 (f : Bool) (es : List PV) : runP Try.prog (EM 2) 100 55 [.lst f 3 es] = ck 2 es 0 4 (ck 2 es 1 4 (ck 2 es 2 8 (ck 2 es 3 9 (ck 2 es 4 7 (ck 2 es 5 4 (ck 2 es 6 9 (ck 2 es 7 7 (ck 2 es 8 4 (ck 2 es 9 9 (ck 2 es 10 7 (ck 2 es 11 4 (ck 2 es 12 9 (ck 2 es 13 7 (ck 2 es 14 4 (some (.lst false 23 (mdF (gr 2 es) 4))))))))))))))))) := by kernel_rfl
theorem qMade3 (f : Bool) (es : List PV) : runP Try.prog (EM 3) 100 55 [.lst f 3 es] = ck 3 es 0 4 (ck 3 es 1 4 (ck 3 es 2 8 (ck 3 es 3 9 (ck 3 es 4 7 (ck 3 es 5 4 (ck 3 es 6 9 (ck 3 es 7 7 (ck 3 es 8 4 (ck 3 es 9 9 (ck 3 es 10 7 (ck 3 es 11 4 (ck 3 es 12 9 (ck 3 es 13 7 (ck 3 es 14 4 (ck 3 es 15 9 (ck 3 es 16 7 (ck 3 es 17 4 (some (.lst false 23 (mdF (gr 3 es) 5)))))))))))))))))))) := by kernel_rfl
theorem mdF_congr {g h : Nat → Int → Int} (e : ∀ j n, (j = 0 → n = 4) → g j n = h j n) (n : Nat) : mdF g n = mdF h n := by
  have hx : ∀ k, mxF g k = mxF h k := fun k => by
    induction k with
    | zero => simp only [mxF]; rw [e 2 8 (by omega)]
    | succ k ih => simp only [mxF]; rw [ih, e _ 4 (by omega)]
  have hy : ∀ k, myF g k = myF h k := fun k => by unfold myF; rw [e _ 9 (by omega)]
  have hh : ∀ k, mhF g k = mhF h k := fun k => by unfold mhF; rw [hy, e _ 7 (by omega)]
  unfold mdF
  rw [e 1 4 (by omega)]
  simp only [hx, hy, hh]
theorem madeT_eq {r : Int} {es : List PV} (h : dr es 0 4 = r) (n : Nat) (hn : 2 + r.toNat = n) : mdF (gr r es) n = madeL es := by
  unfold madeL
  rw [h, hn]
  exact mdF_congr (fun j m hj => dnr_eq h j hj) n
theorem ck_of {r : Int} {es : List PV} (h : dr es 0 4 = r) (j : Nat) (n : Int) (t : Option PV) (hn : j = 0 → n = 4) (h0 : 0 < n) (h1 : n ≤ 1000) (hj : j < 1000) : ck r es j n t = t := by
  unfold ck; rw [ckc_of h j hn h0 (by omega) hj]; rfl
def cMade : List PV → Option PV | [.lst _ 3 es] => some (.lst false 23 (madeL es)) | _ => none
theorem oMade (args : List PV) (r : PV) (h : cMade args = some r) : Enters Try.prog 55 ∧ PCall Try.prog 55 args r := by
  unfold cMade at h; split at h
  · rename_i f es
    cases h
    have h1 := dn_ge es (pos es 0) (n := 4) (by omega)
    have h2 := dn_lt es (pos es 0) (n := 4) (by omega)
    have h4 : dr es 0 4 = 0 ∨ dr es 0 4 = 1 ∨ dr es 0 4 = 2 ∨ dr es 0 4 = 3 := by unfold dr; omega
    rcases h4 with h | h | h | h
    · exact runP_sound (okM 0) (n := 100) (by rw [qMade0, ck_of h 0 4 _ (by omega) (by omega) (by omega) (by omega), ck_of h 1 4 _ (by omega) (by omega) (by omega) (by omega), ck_of h 2 8 _ (by omega) (by omega) (by omega) (by omega), ck_of h 3 9 _ (by omega) (by omega) (by omega) (by omega), ck_of h 4 7 _ (by omega) (by omega) (by omega) (by omega), ck_of h 5 4 _ (by omega) (by omega) (by omega) (by omega), ck_of h 6 9 _ (by omega) (by omega) (by omega) (by omega), ck_of h 7 7 _ (by omega) (by omega) (by omega) (by omega), ck_of h 8 4 _ (by omega) (by omega) (by omega) (by omega), madeT_eq h 2 (by rfl)])
    · exact runP_sound (okM 1) (n := 100) (by rw [qMade1, ck_of h 0 4 _ (by omega) (by omega) (by omega) (by omega), ck_of h 1 4 _ (by omega) (by omega) (by omega) (by omega), ck_of h 2 8 _ (by omega) (by omega) (by omega) (by omega), ck_of h 3 9 _ (by omega) (by omega) (by omega) (by omega), ck_of h 4 7 _ (by omega) (by omega) (by omega) (by omega), ck_of h 5 4 _ (by omega) (by omega) (by omega) (by omega), ck_of h 6 9 _ (by omega) (by omega) (by omega) (by omega), ck_of h 7 7 _ (by omega) (by omega) (by omega) (by omega), ck_of h 8 4 _ (by omega) (by omega) (by omega) (by omega), ck_of h 9 9 _ (by omega) (by omega) (by omega) (by omega), ck_of h 10 7 _ (by omega) (by omega) (by omega) (by omega), ck_of h 11 4 _ (by omega) (by omega) (by omega) (by omega), madeT_eq h 3 (by rfl)])
    · exact runP_sound (okM 2) (n := 100) (by rw [qMade2, ck_of h 0 4 _ (by omega) (by omega) (by omega) (by omega), ck_of h 1 4 _ (by omega) (by omega) (by omega) (by omega), ck_of h 2 8 _ (by omega) (by omega) (by omega) (by omega), ck_of h 3 9 _ (by omega) (by omega) (by omega) (by omega), ck_of h 4 7 _ (by omega) (by omega) (by omega) (by omega), ck_of h 5 4 _ (by omega) (by omega) (by omega) (by omega), ck_of h 6 9 _ (by omega) (by omega) (by omega) (by omega), ck_of h 7 7 _ (by omega) (by omega) (by omega) (by omega), ck_of h 8 4 _ (by omega) (by omega) (by omega) (by omega), ck_of h 9 9 _ (by omega) (by omega) (by omega) (by omega), ck_of h 10 7 _ (by omega) (by omega) (by omega) (by omega), ck_of h 11 4 _ (by omega) (by omega) (by omega) (by omega), ck_of h 12 9 _ (by omega) (by omega) (by omega) (by omega), ck_of h 13 7 _ (by omega) (by omega) (by omega) (by omega), ck_of h 14 4 _ (by omega) (by omega) (by omega) (by omega), madeT_eq h 4 (by rfl)])
    · exact runP_sound (okM 3) (n := 100) (by rw [qMade3, ck_of h 0 4 _ (by omega) (by omega) (by omega) (by omega), ck_of h 1 4 _ (by omega) (by omega) (by omega) (by omega), ck_of h 2 8 _ (by omega) (by omega) (by omega) (by omega), ck_of h 3 9 _ (by omega) (by omega) (by omega) (by omega), ck_of h 4 7 _ (by omega) (by omega) (by omega) (by omega), ck_of h 5 4 _ (by omega) (by omega) (by omega) (by omega), ck_of h 6 9 _ (by omega) (by omega) (by omega) (by omega), ck_of h 7 7 _ (by omega) (by omega) (by omega) (by omega), ck_of h 8 4 _ (by omega) (by omega) (by omega) (by omega), ck_of h 9 9 _ (by omega) (by omega) (by omega) (by omega), ck_of h 10 7 _ (by omega) (by omega) (by omega) (by omega), ck_of h 11 4 _ (by omega) (by omega) (by omega) (by omega), ck_of h 12 9 _ (by omega) (by omega) (by omega) (by omega), ck_of h 13 7 _ (by omega) (by omega) (by omega) (by omega), ck_of h 14 4 _ (by omega) (by omega) (by omega) (by omega), ck_of h 15 9 _ (by omega) (by omega) (by omega) (by omega), ck_of h 16 7 _ (by omega) (by omega) (by omega) (by omega), ck_of h 17 4 _ (by omega) (by omega) (by omega) (by omega), madeT_eq h 5 (by rfl)])
  · cases h
noncomputable def E39 : EnvK := E38.addO 55 cMade
theorem ok39 : EnvOK Try.prog E39.env := ok38.addO oMade
theorem madeL_len (es : List PV) : 4 ≤ (madeL es).length ∧ (madeL es).length ≤ 10 := by
  have h1 := dn_ge es (pos es 0) (n := 4) (by omega)
  have h2 := dn_lt es (pos es 0) (n := 4) (by omega)
  unfold madeL mdF dr
  simp only [List.length_append, List.length_map, List.length_range, List.length_reverse]
  omega
end Go.Hg
