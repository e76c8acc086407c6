/- Geometry: PointSums answers true. -/
import Derived.Test.YtneklpbkfmljfaaHgU
namespace Go.Hg
open Go.Hx Go.Proofs
def near (a b c d e f g h : Int) : Bool := decide (a ≤ g) && decide (e ≤ c) && (decide (b ≤ h) && decide (f ≤ d))
def cNear : List PV → Option PV
  | [.agg [.val (.int .i64 a), .val (.int .i64 b), .val (.int .i64 c), .val (.int .i64 d)], .agg [.val (.int .i64 e), .val (.int .i64 f), .val (.int .i64 g), .val (.int .i64 h)]] => some (bv (near a b c d e f g h))
  | _ => none
theorem oNear (args : List PV) (r : PV) (h : cNear args = some r) : Enters Try.prog 52 ∧ PCall Try.prog 52 args r := by
  unfold cNear at h; split at h
  · rename_i a b c d e f g h'; cases h
    refine runP_sound okB (n := 60) (Eq.trans ?_ (tree4 (decide (a ≤ g)) (decide (e ≤ c)) (decide (b ≤ h')) (decide (f ≤ d)))); kernel_rfl
  · cases h
theorem oRNear (args : List PV) (r : PV) (h : cNear args = some r) : Enters Try.prog 53 ∧ PCall Try.prog 53 args r := by
  unfold cNear at h; split at h
  · rename_i a b c d e f g h'; cases h
    refine runP_sound okB (n := 60) (Eq.trans ?_ (tree4 (decide (a ≤ g)) (decide (e ≤ c)) (decide (b ≤ h')) (decide (f ≤ d)))); kernel_rfl
  · cases h
noncomputable def EN : EnvK := (EB.addO 52 cNear).addO 53 cNear
theorem okN : EnvOK Try.prog EN.env := (okB.addO oNear).addO oRNear
def lz (es : List PV) (k : Int) (j : Nat) : Int := ((es.getD k.toNat .any).cells[j]?.getD .any).getI
def in8 {α : Type} (k : Int) (L : List PV) (x : Option α) : Option α := bif decide (0 ≤ k) && decide (k < ((L.length : Nat) : Int)) then x else none
def sl8 {α : Type} (k : Int) (L : List PV) (x : Option α) : Option α := bif decide (0 ≤ k) && decide (k ≤ ((L.length : Nat) : Int)) then bif decide ((L.take k.toNat).length ≤ 10) then x else none else none
def eqB (L : List PV) : Bool := (bmn L 0 == bmn L 0) && ((bmn L 1 == bmn L 1) && ((bmx L 0 == bmx L 0) && ((bmx L 1 == bmx L 1) && true)))
def cmp8 {α : Type} (px py qx qy n : Int) (r t : α) : α :=
  bif !(right px py == right px py) then r else
  bif !((W (px + qx) == W (px + qx)) && ((W (py + qy) == W (py + qy)) && true)) then r else
  bif !((W (px - qx) == W (px - qx)) && ((W (py - qy) == W (py - qy)) && true)) then r else
  bif W (W (px * qy) - W (py * qx)) != W (W (px * qy) - W (py * qx)) then r else
  bif W (W (px * qx) + W (py * qy)) != W (W (px * qx) + W (py * qy)) then r else
  bif !((tpx px py n == trx px py n) && ((tpy px py n == tryy px py n) && true)) then r else
  bif !((px == px) && ((py == py) && (((1 : Int) == 1) && true))) then r else t
theorem q8l (f f' : Bool) (L M : List PV) (n : Int) (hd : Bool) (len k a b c d e g h i : Int) : runB Try.prog EN 60 8 (lpb Try.f8 4) [0, 2, 4, 7, 17, 18, 19] [0, 4, 7] (S8 f f' L M n hd len k) (H8 a b c d e g h i) =
  bif decide (k < len) then
    in8 k M (in8 (W (W (((L.length : Nat) : Int) - 1) - k)) L
      (cmp8 (lz M k 0) (lz M k 1) (lz L (W (W (((L.length : Nat) : Int) - 1) - k)) 0) (lz L (W (W (((L.length : Nat) : Int) - 1) - k)) 1) n (some (.ret, T8 f L hd, H8 a b c d e g h i))
        (sl8 k L (sl8 k L (bif !eqB (L.take k.toNat) then some (.ret, T8 f L hd, H8 a b c d e g h i) else some (.normal, S8 f f' L M n hd len (W (k + 1)), H8 a b c d e g h i))))))
  else some (.exit 0, T8 f L hd, H8 a b c d e g h i) := by kernel_rfl
structure M8 where
  f : Bool
  f' : Bool
  L : List PV
  M : List PV
  n : Int
  hd : Bool
  len : Int
  k : Int
  r : Int × Int × Int × Int × Int × Int × Int × Int
abbrev h8 (s : M8) : List Row := H8 s.r.1 s.r.2.1 s.r.2.2.1 s.r.2.2.2.1 s.r.2.2.2.2.1 s.r.2.2.2.2.2.1 s.r.2.2.2.2.2.2.1 s.r.2.2.2.2.2.2.2
def e8 (s : M8) : List PV × List Row := (S8 s.f s.f' s.L s.M s.n s.hd s.len s.k, h8 s)
def st8 : St := ⟨133, [(0, .cell (.lst 23)), (2, i64), (4, .ptr 0 1 0 0), (7, .cell .bool), (17, .cell (.lst 23)), (18, i64), (19, i64)], [.one 56 8 (i64s 8)]⟩
def d8 : List Lf → List Lf → Option M8
  | [.l f L, .i n, .b hd, .l f' M, .i len, .i k], [.i a, .i b, .i c, .i d, .i e, .i g, .i h, .i i] => some ⟨f, f', L, M, n, hd, len, k, (a, b, c, d, e, g, h, i)⟩
  | _, _ => none
theorem g8 : ∀ x y s, d8 x y = some s → st8.get (e8 s).1 (e8 s).2 = some (x, y) := by
  intro x y s h; unfold d8 at h; split at h
  · cases h; kernel_rfl
  · cases h
def rng (p : PV) : Bool := decide (-9223372036854775808 ≤ cell p 1) && decide (cell p 1 ≤ 9223372036854775807)
def p8 (s : M8) : Bool := decide (s.L.length ≤ 10) && decide (s.M.length = s.L.length) && decide (s.len = ((s.L.length : Nat) : Int)) && decide (0 ≤ s.k) && s.M.all rng
def n8 (s : M8) : Nat := (((s.L.length : Nat) : Int) - s.k).toNat
def f8 (s : M8) : DT (PX × List PV × List Row) := .leaf (.exit 0, T8 s.f s.L s.hd, h8 s)
theorem cmp8_eq {α : Type} {px py qx qy n : Int} (hy : -9223372036854775808 ≤ py ∧ py ≤ 9223372036854775807) (r t : α) : cmp8 px py qx qy n r t = t := by
  have e : tpx px py n = trx px py n ∧ tpy px py n = tryy px py n := by
    have h4 : n % 4 = 0 ∨ n % 4 = 1 ∨ n % 4 = 2 ∨ n % 4 = 3 := by omega
    have hw : W (0 - W (0 - py)) = py := by rw [W_eq, W_eq]; omega
    unfold tpx trx tpy tryy
    rw [hw]
    rcases h4 with g | g | g | g <;> rw [g] <;> simp
  unfold cmp8
  rw [e.1, e.2]
  simp
theorem eqB_true (L : List PV) : eqB L = true := by unfold eqB; simp
theorem step8 (s : M8) (r : PX × List PV × List Row) (hp : p8 s = true) (hr : (f8 s).run = some r) :
    r.1 ≠ .normal ∧ (runB Try.prog EN 60 8 (lpb Try.f8 4) [0, 2, 4, 7, 17, 18, 19] [0, 4, 7] (e8 s).1 (e8 s).2 = some r ∨
      ∃ s', runB Try.prog EN 60 8 (lpb Try.f8 4) [0, 2, 4, 7, 17, 18, 19] [0, 4, 7] (e8 s).1 (e8 s).2 = some (.normal, e8 s') ∧ p8 s' = true ∧ n8 s' < n8 s ∧ (f8 s').run = some r) := by
  obtain ⟨f, f', L, M, n, hd, len, k, ⟨a, b, c, d, e, g, h, i⟩⟩ := s
  obtain rfl := Option.some.inj hr
  simp only [p8, Bool.and_eq_true, decide_eq_true_eq] at hp
  obtain ⟨⟨⟨⟨h1, h2⟩, rfl⟩, h3⟩, h4⟩ := hp
  refine ⟨by simp, ?_⟩
  unfold e8 h8
  dsimp only
  rw [q8l]
  by_cases hk : k < ((L.length : Nat) : Int)
  · right
    refine ⟨⟨f, f', L, M, n, hd, ((L.length : Nat) : Int), k + 1, (a, b, c, d, e, g, h, i)⟩, ?_, ?_, ?_, rfl⟩
    · have hkM : k.toNat < M.length := by omega
      have hy : -9223372036854775808 ≤ lz M k 1 ∧ lz M k 1 ≤ 9223372036854775807 := by
        have := List.all_eq_true.1 h4 M[k.toNat] (List.getElem_mem hkM)
        unfold rng at this
        rw [Bool.and_eq_true, decide_eq_true_iff, decide_eq_true_iff] at this
        have el : lz M k 1 = cell M[k.toNat] 1 := by
          unfold lz cell
          rw [List.getD_eq_getElem?_getD, List.getElem?_eq_getElem hkM, Option.getD_some]
        rw [el]; exact this
      have hw : W (W (((L.length : Nat) : Int) - 1) - k) = ((L.length : Nat) : Int) - 1 - k := by rw [W_id (n := ((L.length : Nat) : Int) - 1) (by omega) (by omega), W_id (by omega) (by omega)]
      have ht : (L.take k.toNat).length ≤ 10 := by rw [List.length_take]; omega
      rw [cmp8_eq hy, eqB_true, hw]
      unfold in8 sl8
      rw [decide_eq_true hk, decide_eq_true h3, decide_eq_true (show k < ((M.length : Nat) : Int) by omega), decide_eq_true (show 0 ≤ ((L.length : Nat) : Int) - 1 - k by omega), decide_eq_true (show ((L.length : Nat) : Int) - 1 - k < ((L.length : Nat) : Int) by omega),
        decide_eq_true (show k ≤ ((L.length : Nat) : Int) by omega), decide_eq_true ht, W_id (n := k + 1) (by omega) (by omega)]
      rfl
    · simp only [p8, Bool.and_eq_true, decide_eq_true_eq]; exact ⟨⟨⟨⟨h1, h2⟩, trivial⟩, by omega⟩, h4⟩
    · show (((L.length : Nat) : Int) - (k + 1)).toNat < (((L.length : Nat) : Int) - k).toNat; omega
  · left
    rw [decide_eq_false hk]; rfl
noncomputable def E8a : EnvK := EN.addL 8 4 [0, 2, 4, 7, 17, 18, 19] (byModel [true] (ofSt st8 d8) p8 f8)
theorem ok8a : EnvOK Try.prog E8a.env :=
  okN.addM (n := 60) Try.func8 (show Try.f8.body = some (bod Try.f8) by kernel_rfl) (show (loops (bod Try.f8)).filter (fun b => rid b == 4) = [lpb Try.f8 4] by kernel_rfl) [0, 2, 4, 7, 17, 18, 19] [0, 4, 7] e8 (ofSt_emb g8) n8 step8
def no8 : Option PV := some (bv false)
def mn10 (es : List PV) : Int := if 10 < ((es.length : Nat) : Int) then 10 else ((es.length : Nat) : Int)
def cut10 (es : List PV) : List PV := es.take (mn10 es).toNat
def fin8 (L : List PV) (a b c d e f g h : Int) : Option PV :=
  bif decide (L.length ≤ 10) then bif decide (L.length ≤ 10) then bif eqB L then bif near a b c d e f g h == near a b c d e f g h then some (bv (near a b c d a b c d == near a b c d a b c d)) else no8 else no8 else none else none
theorem q8 (f : Bool) (es : List PV) (a b c d e g h i n : Int) : runP Try.prog E8a 60 8 [.lst f 23 es, .agg [iv a, iv b, iv c, iv d, iv e, iv g, iv h, iv i], iv n] =
  bif decide (0 ≤ mn10 es) && decide (mn10 es ≤ ((es.length : Nat) : Int)) then
    bif p8 ⟨f && false, f && false, cut10 es, cut10 es, n, true, (((cut10 es).length : Nat) : Int), 0, (a, b, c, d, e, g, h, i)⟩ then fin8 (cut10 es) a b c d e g h i else none else none := by kernel_rfl
theorem law8 (f : Bool) {es : List PV} (hr : ∀ p, p ∈ es → rng p = true) (a b c d e g h i n : Int) : Enters Try.prog 8 ∧ PCall Try.prog 8 [.lst f 23 es, .agg [iv a, iv b, iv c, iv d, iv e, iv g, iv h, iv i], iv n] (bv true) := by
  refine runP_sound ok8a (n := 60) ?_
  have hm : 0 ≤ mn10 es ∧ mn10 es ≤ ((es.length : Nat) : Int) ∧ mn10 es ≤ 10 := by unfold mn10; split <;> omega
  have hl : (cut10 es).length ≤ 10 := by unfold cut10; rw [List.length_take]; omega
  have hp : p8 ⟨f && false, f && false, cut10 es, cut10 es, n, true, (((cut10 es).length : Nat) : Int), 0, (a, b, c, d, e, g, h, i)⟩ = true := by
    simp only [p8, Bool.and_eq_true, decide_eq_true_eq]
    exact ⟨⟨⟨⟨hl, trivial⟩, trivial⟩, by omega⟩, List.all_eq_true.2 fun p hp => hr p (List.mem_of_mem_take hp)⟩
  rw [q8, decide_eq_true hm.1, decide_eq_true hm.2.1, hp]
  unfold fin8
  rw [decide_eq_true hl, eqB_true]
  simp
end Go.Hg
