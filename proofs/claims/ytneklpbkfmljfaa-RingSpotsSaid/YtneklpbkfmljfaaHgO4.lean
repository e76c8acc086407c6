/- Geometry: RingSpots answers true. -/
import Derived.Test.YtneklpbkfmljfaaHgO
namespace Go.Hg
open Go.Hx Go.Proofs
namespace O4
/-- (As in HgT, HgT2 and HgL7b, whose texts are not needed else.) -/
theorem sgn_mulp {k n : Int} (h : 0 < k) : sgn (k * n) = sgn n := by
  rcases Int.lt_trichotomy n 0 with g | g | g
  · have := Int.mul_neg_of_pos_of_neg h g
    unfold sgn; rw [if_pos this, if_pos g]
  · subst g; rw [Int.mul_zero]
  · have := Int.mul_pos h g
    unfold sgn; rw [if_neg (by omega), if_pos this, if_neg (by omega), if_pos g]
theorem sgn_neg (n : Int) : sgn (-n) = -sgn n := by unfold sgn; (repeat' split) <;> omega
theorem sd_swap (a b c d e f : Int) : sd c d a b e f = -sd a b c d e f := by
  unfold sd
  rw [show crs c d a b e f = -crs a b c d e f by unfold crs; grind, sgn_neg, Bool.and_comm (bdd c d)]
  cases bdd a b && bdd c d && bdd e f <;> simp
abbrev bd (a b : Int) : Prop := (-1152921504606846976 ≤ a ∧ a ≤ 1152921504606846976) ∧ (-1152921504606846976 ≤ b ∧ b ≤ 1152921504606846976)
theorem sd_of {a b c d e f : Int} (h1 : bd a b) (h2 : bd c d) (h3 : bd e f) : sd a b c d e f = sgn (crs a b c d e f) := by
  unfold sd; rw [show bdd a b = true from inB2_iff.2 h1, show bdd c d = true from inB2_iff.2 h2, show bdd e f = true from inB2_iff.2 h3]; rfl
end O4
open O4
def mm29 (k : Int) : Int := W (1 + Int.tmod (W k) 50)
def all29 (a b c d e f m n : Int) : Option PV :=
  bif rsp a b 1 c d 1 e f == ray a b c d e f then bif rsp (W (m * a)) (W (m * b)) m (W (n * c)) (W (n * d)) n e f == ray a b c d e f then
    bif rsp (W (n * c)) (W (n * d)) n (W (m * a)) (W (m * b)) m e f == W (0 - ray a b c d e f) then some (bv (ray c d a b e f == W (0 - ray a b c d e f))) else some (bv false) else some (bv false) else some (bv false)
theorem q29 (a b c d e f m n : Int) : runP Try.prog E32 60 12 [.agg [iv a, iv b, iv c, iv d, iv e, iv f], .agg [.val (.int .u8 m), .val (.int .u8 n)]] =
  all29 (Int.tmod a 100) (Int.tmod b 100) (Int.tmod c 100) (Int.tmod d 100) (Int.tmod e 100) (Int.tmod f 100) (mm29 m) (mm29 n) := by kernel_rfl
theorem rayV_swap (u v : Bool) (s t : Int) (h : t = -s) : rayV v u t s = -rayV u v s t := by
  subst h
  unfold rayV
  generalize decide (s < 0) = p
  generalize decide (-s < 0) = q
  cases u <;> cases v <;> cases p <;> cases q <;> rfl
theorem ray_swap (a b c d e f : Int) : ray c d a b e f = -ray a b c d e f := by
  unfold ray
  exact rayV_swap _ _ _ _ (sd_swap a b c d e f)
def p29 (x : Int) : Prop := -100 < x ∧ x < 100
theorem upS_mul {y m h : Int} (hy : p29 y) (hh : p29 h) (hm : 1 ≤ m ∧ m ≤ 50) : upS (m * y) m h = decide (y > h) := by
  have k := mul_bd (A := 50) (B := 100) (a := m) (b := y) (by omega) ⟨by have := hy.1; omega, by have := hy.2; omega⟩
  unfold upS
  rw [show (decide (m < 1) || false) = false by simp; omega, cond_false, sg2_eq (by omega) (by omega) (by have := hh.1; have := hh.2; omega) (by omega)]
  rw [show m * y * 1 - h * m = m * (y - h) by grind, sgn_mulp (by omega), Bool.eq_iff_iff, decide_eq_true_iff, decide_eq_true_iff]
  unfold sgn
  (repeat' split) <;> omega
theorem ssd_mul {a b c d e f m n : Int} (ha : p29 a) (hb : p29 b) (hc : p29 c) (hd : p29 d) (he : p29 e) (hf : p29 f) (hm : 1 ≤ m ∧ m ≤ 50) (hn : 1 ≤ n ∧ n ≤ 50) :
    ssd (m * a) (m * b) m (n * c) (n * d) n e f 1 = sd a b c d e f := by
  have k : ∀ {m y : Int}, 1 ≤ m ∧ m ≤ 50 → p29 y → -5000 ≤ m * y ∧ m * y ≤ 5000 := fun hm hy => mul_bd (A := 50) (B := 100) (by omega) ⟨by have := hy.1; omega, by have := hy.2; omega⟩
  have k1 := k hm ha; have k2 := k hm hb; have k3 := k hn hc; have k4 := k hn hd
  obtain ⟨e1, e2⟩ := he; obtain ⟨f1, f2⟩ := hf
  unfold ssd
  rw [spOK_iff.2 ⟨by omega, by omega, by omega⟩, spOK_iff.2 ⟨by omega, by omega, by omega⟩, spOK_iff.2 ⟨by omega, by omega, by omega⟩]
  have hb' : ∀ {x y : Int}, p29 x → p29 y → bd x y := fun hx hy => by obtain ⟨_, _⟩ := hx; obtain ⟨_, _⟩ := hy; constructor <;> omega
  rw [sd_of (hb' ha hb) (hb' hc hd) (hb' ⟨e1, e2⟩ ⟨f1, f2⟩)]
  simp only [Bool.and_self, cond_true]
  rw [show crsS (m * a) (m * b) m (n * c) (n * d) n e f 1 = (m * m * n) * crs a b c d e f by unfold crsS crs; grind]
  exact sgn_mulp (Int.mul_pos (Int.mul_pos (by omega) (by omega)) (by omega))
theorem rsp_mul {a b c d e f m n : Int} (ha : p29 a) (hb : p29 b) (hc : p29 c) (hd : p29 d) (he : p29 e) (hf : p29 f) (hm : 1 ≤ m ∧ m ≤ 50) (hn : 1 ≤ n ∧ n ≤ 50) :
    rsp (m * a) (m * b) m (n * c) (n * d) n e f = ray a b c d e f := by
  unfold rsp ray
  rw [ssd_mul ha hb hc hd he hf hm hn, ssd_mul hc hd ha hb he hf hn hm, upS_mul hb hf hm, upS_mul hd hf hn]
  rw [show (decide (m < 1) || decide (n < 1)) = false by simp; omega]
  rfl
theorem ray_range (a b c d e f : Int) : -1 ≤ ray a b c d e f ∧ ray a b c d e f ≤ 1 := by
  unfold ray rayV
  cases decide (b > f) <;> cases decide (d > f) <;> cases decide (sd a b c d e f < 0) <;> cases decide (sd c d a b e f < 0) <;> decide
theorem all29_true {a b c d e f m n : Int} (ha : p29 a) (hb : p29 b) (hc : p29 c) (hd : p29 d) (he : p29 e) (hf : p29 f) (hm : 1 ≤ m ∧ m ≤ 50) (hn : 1 ≤ n ∧ n ≤ 50) : all29 a b c d e f m n = some (bv true) := by
  have k : ∀ {m y : Int}, 1 ≤ m ∧ m ≤ 50 → p29 y → W (m * y) = m * y := fun {m y} hm hy => by
    have := mul_bd (A := 50) (B := 100) (a := m) (b := y) (by omega) ⟨by have := hy.1; omega, by have := hy.2; omega⟩
    exact W_id (by omega) (by omega)
  unfold all29
  have r := ray_range a b c d e f
  have e1 := rsp_mul ha hb hc hd he hf (m := 1) (n := 1) (by omega) (by omega)
  simp only [Int.one_mul] at e1
  rw [k hm ha, k hm hb, k hn hc, k hn hd, rsp_mul ha hb hc hd he hf hm hn, rsp_mul hc hd ha hb he hf hn hm, e1, W_id (n := 0 - ray a b c d e f) (by omega) (by omega), ray_swap a b c d e f]
  simp
theorem law29 (a b c d e f : Int) {m n : Int} (hm : 0 ≤ m ∧ m < 256) (hn : 0 ≤ n ∧ n < 256) : Enters Try.prog 12 ∧ PCall Try.prog 12 [.agg [iv a, iv b, iv c, iv d, iv e, iv f], .agg [.val (.int .u8 m), .val (.int .u8 n)]] (bv true) := by
  have t : ∀ x : Int, p29 (Int.tmod x 100) := fun x => ⟨by have := Int.lt_tmod_of_pos x (show (0 : Int) < 100 by omega); omega, Int.tmod_lt_of_pos x (by omega)⟩
  have s : ∀ {k : Int}, 0 ≤ k ∧ k < 256 → 1 ≤ mm29 k ∧ mm29 k ≤ 50 := fun {k} hk => by
    unfold mm29
    rw [W_id (n := k) (by omega) (by omega)]
    have h1 := Int.tmod_nonneg 50 hk.1
    have h2 := Int.tmod_lt_of_pos k (show (0 : Int) < 50 by omega)
    rw [W_id (by omega) (by omega)]
    omega
  exact runP_sound ok32 (n := 60) ((q29 a b c d e f m n).trans (all29_true (t a) (t b) (t c) (t d) (t e) (t f) (s hm) (s hn)))
end Go.Hg
