/- Geometry: PointSpots answers true. -/
import Derived.Test.YtneklpbkfmljfaaHgL7
namespace Go.Hg
open Go.Hx Go.Proofs
theorem and31 (n : Int) : bits .and .i64 n 31 = n % 32 := by
  have h1 : BitVec.ofInt 64 31 = BitVec.ofNat 64 31 := rfl
  show IntKind.i64.wrap ((BitVec.ofInt 64 n &&& BitVec.ofInt 64 31).toNat : Int) = _
  have h2 : (BitVec.ofInt 64 n &&& BitVec.ofInt 64 31).toNat = (BitVec.ofInt 64 n).toNat % 32 := by
    rw [BitVec.toNat_and, h1]
    show (BitVec.ofInt 64 n).toNat &&& (2 ^ 5 - 1) = _
    rw [Nat.and_two_pow_sub_one_eq_mod]
  rw [h2]
  have h3 : ((BitVec.ofInt 64 n).toNat : Int) = n % 18446744073709551616 := by
    rw [BitVec.toNat_ofInt]
    omega
  rw [show (((BitVec.ofInt 64 n).toNat % 32 : Nat) : Int) = ((BitVec.ofInt 64 n).toNat : Int) % 32 by omega, h3]
  have := W_id (n := n % 18446744073709551616 % 32) (by omega) (by omega)
  rw [show IntKind.i64.wrap (n % 18446744073709551616 % 32) = n % 18446744073709551616 % 32 from this]
  omega
/-- A spot of small numbers. -/
structure Sm (a : P3) : Prop where
  d : 1 ≤ a.d ∧ a.d ≤ 32
  x : -(16384 * a.d) ≤ a.x ∧ a.x ≤ 16384 * a.d
  y : -(16384 * a.d) ≤ a.y ∧ a.y ≤ 16384 * a.d
theorem ma_sm (a b c : Int) : Sm (ma a b c) := by
  have hd : cutD (c % 32) = c % 32 + 1 := by unfold cutD; omega
  have hx : ∀ z : Int, -(16384 * cutD (c % 32)) ≤ cutX z (c % 32) ∧ cutX z (c % 32) ≤ 16384 * cutD (c % 32) := by
    intro z
    unfold cutX
    rw [hd]
    have h1 := Int.lt_tmod_of_pos z (show 0 < 16384 * (c % 32 + 1) + 1 by omega)
    have h2 := Int.tmod_lt_of_pos z (show 0 < 16384 * (c % 32 + 1) + 1 by omega)
    omega
  unfold ma
  rw [and31]
  exact ⟨by show 1 ≤ cutD (c % 32) ∧ cutD (c % 32) ≤ 32; rw [hd]; omega, hx a, hx b⟩
theorem gcdX_id {a b : Int} (ha : -1000000000000 ≤ a ∧ a ≤ 1000000000000) (hb : -1000000000000 ≤ b ∧ b ≤ 1000000000000) : gcdX a b = ((Nat.gcd a.natAbs b.natAbs : Nat) : Int) := by
  have h1 : (sz a).toNat = a.natAbs := by rw [sz_id (by omega) (by omega)]; omega
  have h2 : (sz b).toNat = b.natAbs := by rw [sz_id (by omega) (by omega)]; omega
  have hg : gN (sz a) (sz b) = ((Nat.gcd a.natAbs b.natAbs : Nat) : Int) := by unfold gN; rw [h1, h2]
  unfold gcdX
  rw [hg]
  have : Nat.gcd a.natAbs b.natAbs ≤ 1000000000000 := by
    rcases Nat.eq_zero_or_pos b.natAbs with h | h
    · rw [h, Nat.gcd_zero_right]; omega
    · have := Nat.gcd_le_right a.natAbs h; omega
  rw [if_neg (by omega)]
/-- What a moved spot is. -/
structure Mv (a b : P3) (n m : Int) (s : P3) (G : Int) : Prop where
  ok : mvB a b n m = true
  G1 : 1 ≤ G
  x : s.x * G = a.x * b.d * (m - n) + b.x * a.d * n
  y : s.y * G = a.y * b.d * (m - n) + b.y * a.d * n
  d : s.d * G = a.d * b.d * m
  d1 : 1 ≤ s.d ∧ s.d ≤ 65536
  bx : -4294967296 ≤ s.x ∧ s.x ≤ 4294967296
  by' : -4294967296 ≤ s.y ∧ s.y ≤ 4294967296
  g : gcdX (gcdX s.x s.y) s.d = 1
theorem mv_is {a b : P3} (ha : Sm a) (hb : Sm b) {n m : Int} (hm : 1 ≤ m ∧ m ≤ 64) (hn : 0 ≤ n ∧ n ≤ m) : ∃ G, Mv a b n m (mvS a b n m) G := by
  obtain ⟨ad, ax, ay⟩ := ha
  obtain ⟨bd, bx, by'⟩ := hb
  have hP : mvP a.x a.y a.d b.x b.y b.d n m = true := by
    unfold mvP
    simp only [Bool.and_eq_true, decide_eq_true_eq]
    exact ⟨⟨mvOK_iff.2 ⟨by omega, ax, ay⟩, mvOK_iff.2 ⟨by omega, bx, by'⟩⟩, by omega, by omega⟩
  have X : ∀ x y : Int, (-(16384 * a.d) ≤ x ∧ x ≤ 16384 * a.d) → (-(16384 * b.d) ≤ y ∧ y ≤ 16384 * b.d) → mvX x y a.d b.d n m = x * b.d * (m - n) + y * a.d * n ∧ -4294967296 ≤ x * b.d * (m - n) + y * a.d * n ∧ x * b.d * (m - n) + y * a.d * n ≤ 4294967296 := by
    intro x y hx hy
    have p1 := mul_bd (a := x) (b := b.d) (A := 524288) (B := 32) (by omega) (by omega)
    have p2 := mul_bd (a := x * b.d) (b := m - n) (A := 16777216) (B := 64) (by omega) (by omega)
    have p3 := mul_bd (a := y) (b := a.d) (A := 524288) (B := 32) (by omega) (by omega)
    have p4 := mul_bd (a := y * a.d) (b := n) (A := 16777216) (B := 64) (by omega) (by omega)
    unfold mvX
    rw [W_id (n := x * b.d) (by omega) (by omega), W_id (n := m - n) (by omega) (by omega), W_id (n := y * a.d) (by omega) (by omega), W_id (n := x * b.d * (m - n)) (by omega) (by omega), W_id (n := y * a.d * n) (by omega) (by omega), W_id (by omega) (by omega)]
    exact ⟨rfl, by omega, by omega⟩
  obtain ⟨ex, x1, x2⟩ := X a.x b.x ax bx
  obtain ⟨ey, y1, y2⟩ := X a.y b.y ay by'
  have q1 := mul_bd (a := a.d) (b := b.d) (A := 32) (B := 32) (by omega) (by omega)
  have q2 := mul_bd (a := a.d * b.d) (b := m) (A := 1024) (B := 64) (by omega) (by omega)
  have q3 := Int.mul_pos (Int.mul_pos (show 0 < a.d by omega) (show 0 < b.d by omega)) (show 0 < m by omega)
  have ed : mvD a.d b.d m = a.d * b.d * m := by
    unfold mvD
    rw [W_id (n := a.d * b.d) (by omega) (by omega), W_id (by omega) (by omega)]
  generalize hXX : a.x * b.d * (m - n) + b.x * a.d * n = XX at *
  generalize hYY : a.y * b.d * (m - n) + b.y * a.d * n = YY at *
  generalize hDD : a.d * b.d * m = DD at *
  have eG : mvG a.x a.y a.d b.x b.y b.d n m = ((Nat.gcd (Nat.gcd XX.natAbs YY.natAbs) DD.natAbs : Nat) : Int) := by
    have k : Nat.gcd XX.natAbs YY.natAbs ≤ 4294967296 := by
      rcases Nat.eq_zero_or_pos YY.natAbs with h | h
      · rw [h, Nat.gcd_zero_right]; omega
      · have := Nat.gcd_le_right XX.natAbs h; omega
    unfold mvG
    rw [ex, ey, ed, gcdX_id (a := XX) (b := YY) (by omega) (by omega), gcdX_id (by omega) (by omega), Int.natAbs_natCast]
  generalize hg : Nat.gcd (Nat.gcd XX.natAbs YY.natAbs) DD.natAbs = g at *
  have d3 : g ∣ DD.natAbs := hg ▸ Nat.gcd_dvd_right _ _
  have d0 : g ∣ Nat.gcd XX.natAbs YY.natAbs := hg ▸ Nat.gcd_dvd_left _ _
  have d1 : g ∣ XX.natAbs := Nat.dvd_trans d0 (Nat.gcd_dvd_left _ _)
  have d2 : g ∣ YY.natAbs := Nat.dvd_trans d0 (Nat.gcd_dvd_right _ _)
  have gpos : 0 < g := hg ▸ Nat.gcd_pos_of_pos_right _ (by omega)
  have tx : Int.tdiv XX g * g = XX := Int.tdiv_mul_cancel (Int.ofNat_dvd_left.2 d1)
  have ty : Int.tdiv YY g * g = YY := Int.tdiv_mul_cancel (Int.ofNat_dvd_left.2 d2)
  have td : Int.tdiv DD g * g = DD := Int.tdiv_mul_cancel (Int.ofNat_dvd_left.2 d3)
  have nx : (Int.tdiv XX g).natAbs = XX.natAbs / g := by rw [Int.natAbs_tdiv, Int.natAbs_natCast]; rfl
  have ny : (Int.tdiv YY g).natAbs = YY.natAbs / g := by rw [Int.natAbs_tdiv, Int.natAbs_natCast]; rfl
  have nd : (Int.tdiv DD g).natAbs = DD.natAbs / g := by rw [Int.natAbs_tdiv, Int.natAbs_natCast]; rfl
  have lx := Nat.div_le_self XX.natAbs g
  have ly := Nat.div_le_self YY.natAbs g
  have ld := Nat.div_le_self DD.natAbs g
  have dpos : 0 < DD.natAbs / g := Nat.div_pos (Nat.le_of_dvd (by omega) d3) gpos
  have dnn : 0 ≤ Int.tdiv DD g := Int.tdiv_nonneg (by omega) (by omega)
  have s1 : (mvS a b n m).x = Int.tdiv XX g := by
    unfold mvS; dsimp only; rw [hP, ex, eG]; exact W_id (by omega) (by omega)
  have s2 : (mvS a b n m).y = Int.tdiv YY g := by
    unfold mvS; dsimp only; rw [hP, ey, eG]; exact W_id (by omega) (by omega)
  have s3 : (mvS a b n m).d = Int.tdiv DD g := by
    unfold mvS; dsimp only; rw [hP, ed, eG]; exact W_id (by omega) (by omega)
  refine ⟨(g : Int), hP, by omega, by rw [s1, tx, hXX], by rw [s2, ty, hYY], by rw [s3, td, hDD], by rw [s3]; omega, by rw [s1]; omega, by rw [s2]; omega, ?_⟩
  have k : Nat.gcd (XX.natAbs / g) (YY.natAbs / g) ≤ 4294967296 := by
    rcases Nat.eq_zero_or_pos (YY.natAbs / g) with h | h
    · rw [h, Nat.gcd_zero_right]; omega
    · have := Nat.gcd_le_right (XX.natAbs / g) h; omega
  rw [s1, s2, s3, gcdX_id (a := Int.tdiv XX g) (b := Int.tdiv YY g) (by omega) (by omega), nx, ny, gcdX_id (by omega) (by omega), Int.natAbs_natCast, nd, Nat.gcd_div d1 d2, Nat.gcd_div d0 d3, hg, Nat.div_self gpos]
  rfl
theorem spOK_sm {a : P3} (h : Sm a) : spOK a.x a.y a.d = true := by
  obtain ⟨h1, h2, h3⟩ := h
  exact spOK_iff.2 ⟨by omega, by omega, by omega⟩
theorem sp_of {a b q : P3} (h1 : spOK a.x a.y a.d = true) (h2 : spOK b.x b.y b.d = true) (h3 : spOK q.x q.y q.d = true) : sp a b q = sgn (crsS a.x a.y a.d b.x b.y b.d q.x q.y q.d) := by
  unfold sp ssd; rw [h1, h2, h3]; rfl
theorem sgn_mulp {k n : Int} (h : 0 < k) : sgn (k * n) = sgn n := by
  rcases Int.lt_trichotomy n 0 with g | g | g
  · have := Int.mul_neg_of_pos_of_neg h g
    unfold sgn; rw [if_pos this, if_pos g]
  · subst g; rw [Int.mul_zero]
  · have := Int.mul_pos h g
    unfold sgn; rw [if_neg (by omega), if_pos this, if_neg (by omega), if_pos g]
theorem law7_plain {a b : P3} (ha : Sm a) (hb : Sm b) {px py N M k : Int} (hp : -1000 < px ∧ px < 1000) (hq : -1000 < py ∧ py < 1000) (hM : 1 ≤ M ∧ M ≤ 64) (hN : 0 ≤ N ∧ N ≤ M) (hk : 0 ≤ k ∧ k < 256) : all7 a b px py N M k = some (bv true) := by
  obtain ⟨G, s⟩ := mv_is ha hb hM hN
  obtain ⟨G0, f⟩ := mv_is ha hb hM (n := 0) (by omega)
  obtain ⟨G1, t⟩ := mv_is ha hb hM (n := M) (by omega)
  have hk0 := Int.tmod_nonneg 30 hk.1
  have hk1 := Int.tmod_lt_of_pos k (show (0 : Int) < 30 by omega)
  have ad := ha.d; have ax := ha.x; have ay := ha.y
  have bd' := hb.d; have bx' := hb.x; have by1 := hb.y
  have vx1 := Int.lt_tmod_of_pos a.x (show (0 : Int) < 1000 by omega)
  have vx2 := Int.tmod_lt_of_pos a.x (show (0 : Int) < 1000 by omega)
  have vy1 := Int.lt_tmod_of_pos b.y (show (0 : Int) < 1000 by omega)
  have vy2 := Int.tmod_lt_of_pos b.y (show (0 : Int) < 1000 by omega)
  -- the four equations
  have eq4 : ∀ (s : P3) (c xx : Int), (s.d = s.d) → (1 ≤ c ∧ c ≤ 32) → (-(16384 * c) ≤ xx ∧ xx ≤ 16384 * c) → ∀ (z G n : Int), (-4294967296 ≤ z ∧ z ≤ 4294967296) → (1 ≤ s.d ∧ s.d ≤ 65536) → 1 ≤ G → z * G = xx * n → s.d * G = c * n → W (z * c) = W (xx * s.d) := by
    intro s c xx _ hc hx z G n _ _ hG h1 h2
    have : G * (z * c) = G * (xx * s.d) := by grind
    rw [Int.eq_of_mul_eq_mul_left (by omega) this]
  have c1 : W ((mvS a b 0 M).x * a.d) = W (a.x * (mvS a b 0 M).d) := eq4 _ _ _ rfl ad ax _ G0 (b.d * M) f.bx f.d1 f.G1 (by have := f.x; grind) (by have := f.d; grind)
  have c2 : W ((mvS a b 0 M).y * a.d) = W (a.y * (mvS a b 0 M).d) := eq4 _ _ _ rfl ad ay _ G0 (b.d * M) f.by' f.d1 f.G1 (by have := f.y; grind) (by have := f.d; grind)
  have c3 : W ((mvS a b M M).x * b.d) = W (b.x * (mvS a b M M).d) := eq4 _ _ _ rfl bd' bx' _ G1 (a.d * M) t.bx t.d1 t.G1 (by have := t.x; grind) (by have := t.d; grind)
  have c4 : W ((mvS a b M M).y * b.d) = W (b.y * (mvS a b M M).d) := eq4 _ _ _ rfl bd' by1 _ G1 (a.d * M) t.by' t.d1 t.G1 (by have := t.y; grind) (by have := t.d; grind)
  -- plain
  have hpl : ssd (sm px) (sm py) 1 (Int.tmod a.x 1000) (Int.tmod b.y 1000) 1 px py 1 = sd (sm px) (sm py) (Int.tmod a.x 1000) (Int.tmod b.y 1000) px py := by
    have b1 : bd (sm px) (sm py) := by have := sm_range px; have := sm_range py; unfold bd; omega
    have b2 : bd (Int.tmod a.x 1000) (Int.tmod b.y 1000) := by unfold bd; omega
    have b3 : bd px py := by unfold bd; omega
    have r1 := sm_range px
    have r2 := sm_range py
    rw [sd_of b1 b2 b3]
    unfold ssd
    rw [spOK_iff.2 ⟨by omega, by omega, by omega⟩, spOK_iff.2 ⟨by omega, by omega, by omega⟩, spOK_iff.2 ⟨by omega, by omega, by omega⟩]
    simp only [Bool.and_self, cond_true]
    congr 1
    unfold crsS crs
    simp only [Int.mul_one]
  have oq : spOK px py 1 = true := spOK_iff.2 ⟨by omega, by omega, by omega⟩
  have oa := spOK_sm ha
  have ob := spOK_sm hb
  have os : spOK (mvS a b N M).x (mvS a b N M).y (mvS a b N M).d = true := by
    have h1 := s.bx; have h2 := s.by'; have h3 := s.d1
    exact spOK_iff.2 ⟨by omega, by omega, by omega⟩
  have e1 : sp a b (mvS a b N M) = 0 := by
    rw [sp_of oa ob os, sgn_zero]
    have h1 := s.x; have h2 := s.y; have h3 := s.d; have hG := s.G1
    have : G * crsS a.x a.y a.d b.x b.y b.d (mvS a b N M).x (mvS a b N M).y (mvS a b N M).d = 0 := by
      unfold crsS
      generalize (mvS a b N M).x = sx at *
      generalize (mvS a b N M).y = sy at *
      generalize (mvS a b N M).d = sdd at *
      have k1 : G * (sy * a.d - a.y * sdd) = a.d * N * (b.y * a.d - a.y * b.d) := by grind
      have k2 : G * (sx * a.d - a.x * sdd) = a.d * N * (b.x * a.d - a.x * b.d) := by grind
      have : G * ((b.x * a.d - a.x * b.d) * (sy * a.d - a.y * sdd) - (b.y * a.d - a.y * b.d) * (sx * a.d - a.x * sdd)) = (b.x * a.d - a.x * b.d) * (G * (sy * a.d - a.y * sdd)) - (b.y * a.d - a.y * b.d) * (G * (sx * a.d - a.x * sdd)) := by grind
      rw [this, k1, k2]
      grind
    rcases Int.mul_eq_zero.1 this with g | g
    · omega
    · exact g
  have hn : W k = k := W_id (by omega) (by omega)
  have hn2 : W (Int.tmod k 30 + 1) = Int.tmod k 30 + 1 := W_id (by omega) (by omega)
  generalize hnn : Int.tmod k 30 + 1 = n at *
  have w1 := mul_bd (a := n) (b := a.x) (A := 30) (B := 524288) (by omega) (by omega)
  have w2 := mul_bd (a := n) (b := a.y) (A := 30) (B := 524288) (by omega) (by omega)
  have w3 := mul_bd (a := n) (b := a.d) (A := 30) (B := 32) (by omega) (by omega)
  have w4 := Int.mul_pos (show 0 < n by omega) (show 0 < a.d by omega)
  have ow : spOK (n * a.x) (n * a.y) (n * a.d) = true := spOK_iff.2 ⟨by omega, by omega, by omega⟩
  have e2 : sp ⟨n * a.x, n * a.y, n * a.d⟩ b ⟨px, py, 1⟩ = sp a b ⟨px, py, 1⟩ := by
    rw [sp_of ow ob oq, sp_of oa ob oq]
    have : crsS (n * a.x) (n * a.y) (n * a.d) b.x b.y b.d px py 1 = (n * n) * crsS a.x a.y a.d b.x b.y b.d px py 1 := by unfold crsS; grind
    show sgn (crsS (n * a.x) (n * a.y) (n * a.d) b.x b.y b.d px py 1) = _
    rw [this, sgn_mulp (Int.mul_pos (by omega) (by omega))]
  have e3 : sp b a ⟨px, py, 1⟩ = 0 - sp a b ⟨px, py, 1⟩ := by
    rw [sp_of ob oa oq, sp_of oa ob oq]
    have : b.d * crsS a.x a.y a.d b.x b.y b.d px py 1 = a.d * -crsS b.x b.y b.d a.x a.y a.d px py 1 := by unfold crsS; grind
    have h1 := congrArg sgn this
    rw [sgn_mulp (by omega), sgn_mulp (by omega), sgn_neg] at h1
    show sgn (crsS b.x b.y b.d a.x a.y a.d px py 1) = 0 - sgn (crsS a.x a.y a.d b.x b.y b.d px py 1)
    omega
  have r0 : -1 ≤ sp a b ⟨px, py, 1⟩ ∧ sp a b ⟨px, py, 1⟩ ≤ 1 := by rw [sp_of oa ob oq]; exact sgn_range _
  unfold all7
  dsimp only
  rw [hn, hnn, hn2, s.ok, f.ok, t.ok, decide_eq_false (show ¬ (mvS a b N M).d < 1 by have := s.d1; omega), c1, c2, c3, c4, hpl, s.g, W_id (n := n * a.x) (by omega) (by omega), W_id (n := n * a.y) (by omega) (by omega), W_id (n := n * a.d) (by omega) (by omega)]
  unfold tail7
  rw [e1, e2, e3, W_id (n := 0 - sp a b ⟨px, py, 1⟩) (by omega) (by omega)]
  simp
theorem law7 (a b c d e f n m x y : Int) {k : Int} (hk : 0 ≤ k ∧ k < 256) : Enters Try.prog 7 ∧ PCall Try.prog 7 [.agg [iv a, iv b, iv c, iv d, iv e, iv f, iv n, iv m], ptv x y, .val (.int .u8 k)] (bv true) := by
  refine runP_sound ok27 (n := 60) ?_
  have h1 := Int.emod_nonneg m (show (64 : Int) ≠ 0 by omega)
  have h2 := Int.emod_lt_of_pos m (show (0 : Int) < 64 by omega)
  rw [q7, W_id (n := m % 64 + 1) (by omega) (by omega), W_id (n := m % 64 + 1 + 1) (by omega) (by omega), decide_eq_true (show 0 < m % 64 + 1 + 1 by omega), decide_eq_true (show m % 64 + 1 + 1 ≤ 4611686018427387904 by omega)]
  have h3 := Int.emod_nonneg n (show m % 64 + 1 + 1 ≠ 0 by omega)
  have h4 := Int.emod_lt_of_pos n (show 0 < m % 64 + 1 + 1 by omega)
  rw [law7_plain (ma_sm a b c) (ma_sm d e f) ⟨Int.lt_tmod_of_pos x (by omega), Int.tmod_lt_of_pos x (by omega)⟩ ⟨Int.lt_tmod_of_pos y (by omega), Int.tmod_lt_of_pos y (by omega)⟩ (by omega) (by omega) hk]
  rfl
end Go.Hg
