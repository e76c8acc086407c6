/- Geometry: contracts: Gcd. -/
import Derived.Test.YtneklpbkfmljfaaHgK
namespace Go.Hg
open Go.Hx Go.Proofs
def E14 : EnvK := (E13.addO 34 cSsd).addO 140 (fun l => match l with | [.val (.int .u64 a)] => some (iv (sgn a)) | _ => none)
theorem ok14 : EnvOK Try.prog E14.env := (ok13.addO oRSsd).addO (fun args r h => by
  split at h
  · rename_i a; cases h
    rw [← sgn_sub0]
    exact runP_sound ok13 (n := 60) (by kernel_rfl)
  · cases h)
abbrev u64 : Sh := .cell (.int .u64)
def gN (x y : Int) : Int := ((Nat.gcd x.toNat y.toNat : Nat) : Int)
theorem gN_step {x y : Int} (hx : 0 ≤ x) (hy : 0 < y) : gN y (Int.tmod x y) = gN x y := by
  unfold gN
  rw [Int.tmod_eq_emod_of_nonneg hx, Int.toNat_emod hx (by omega), Nat.gcd_comm x.toNat, Nat.gcd_rec y.toNat x.toNat, Nat.gcd_comm]
theorem gN_zero {x : Int} (hx : 0 ≤ x) : gN x 0 = x := by unfold gN; simp; omega
abbrev SG (n : Nat) (x y : Int) : List PV := tm n [(5, uv x), (6, uv y)]
def eG (n : Nat) (s : Int × Int) : List PV × List Row := (SG n s.1 s.2, [])
def stG (n : Nat) : St := ⟨n, [(5, u64), (6, u64)], []⟩
def dG : List Lf → List Lf → Option (Int × Int)
  | [.i x, .i y], [] => some (x, y)
  | _, _ => none
def pG (s : Int × Int) : Bool := decide (0 ≤ s.1) && decide (0 ≤ s.2)
def fG (n : Nat) (s : Int × Int) : DT (PX × List PV × List Row) := .leaf (.exit 0, tm n [(5, uv (gN s.1 s.2))], [])
theorem dG1 : ∀ x y s, dG x y = some s → (stG 22).get (eG 22 s).1 (eG 22 s).2 = some (x, y) := by
  intro x y s h; unfold dG at h; split at h
  · cases h; kernel_rfl
  · cases h
theorem dG2 : ∀ x y s, dG x y = some s → (stG 21).get (eG 21 s).1 (eG 21 s).2 = some (x, y) := by
  intro x y s h; unfold dG at h; split at h
  · cases h; kernel_rfl
  · cases h
theorem qG1 (x y : Int) : runB Try.prog E14 60 91 (lpb Try.f91 2) [5, 6] [5] (SG 22 x y) [] =
  bif sgn y != 0 then bif !decide (y = 0) then some (.normal, SG 22 y (Int.tmod x y), []) else none else some (.exit 0, tm 22 [(5, uv x)], []) := by kernel_rfl
theorem qG2 (x y : Int) : runB Try.prog E14 60 37 (lpb Try.f37 3) [5, 6] [5] (SG 21 x y) [] =
  bif y != 0 then bif !decide (y = 0) then some (.normal, SG 21 y (Int.tmod x y), []) else none else some (.exit 0, tm 21 [(5, uv x)], []) := by kernel_rfl
theorem stepG {P : Program} {E : EnvK} {f : Nat} {b : Code} {n : Nat} {l l' : List Tmp} (q : ∀ x y : Int, runB P E 60 f b l l' (SG n x y) [] = bif y != 0 then some (.normal, SG n y (Int.tmod x y), []) else some (.exit 0, tm n [(5, uv x)], []))
    (s : Int × Int) (r : PX × List PV × List Row) (hp : pG s = true) (hr : (fG n s).run = some r) :
    r.1 ≠ .normal ∧ (runB P E 60 f b l l' (eG n s).1 (eG n s).2 = some r ∨
      ∃ s', runB P E 60 f b l l' (eG n s).1 (eG n s).2 = some (.normal, eG n s') ∧ pG s' = true ∧ s'.2.toNat < s.2.toNat ∧ (fG n s').run = some r) := by
  obtain ⟨x, y⟩ := s
  obtain rfl := Option.some.inj hr
  simp only [pG, Bool.and_eq_true, decide_eq_true_eq] at hp
  obtain ⟨hx, hy⟩ := hp
  refine ⟨by simp, ?_⟩
  unfold eG
  dsimp only
  rw [q]
  by_cases h0 : y = 0
  · left
    subst h0
    show some _ = some (PX.exit 0, tm n [(5, uv (gN x 0))], [])
    rw [gN_zero hx]
  · right
    have h1 := Int.tmod_lt_of_pos x (show 0 < y by omega)
    have h2 := Int.tmod_nonneg y hx
    refine ⟨(y, Int.tmod x y), ?_, ?_, ?_, ?_⟩
    · rw [show (y != 0) = true by simpa using h0]; rfl
    · simp only [pG, Bool.and_eq_true, decide_eq_true_eq]; omega
    · dsimp only; omega
    · show some (PX.exit 0, tm n [(5, uv (gN y (Int.tmod x y)))], []) = some (PX.exit 0, tm n [(5, uv (gN x y))], [])
      rw [gN_step hx (by omega)]
theorem bne0 (y : Int) : (sgn y != 0) = (y != 0) := by
  rw [Bool.eq_iff_iff, bne_iff_ne, bne_iff_ne]
  exact not_congr sgn_zero
theorem bneD (y : Int) : (!decide (y = 0)) = (y != 0) := by
  rw [Bool.eq_iff_iff]; simp
theorem bif2 {α : Type} (b : Bool) (x y z : α) : (bif b then (bif b then x else y) else z) = bif b then x else z := by cases b <;> rfl
noncomputable def E15 : EnvK := (E14.addL 91 2 [5, 6] (byModel [] (ofSt (stG 22) dG) pG (fG 22))).addL 37 3 [5, 6] (byModel [] (ofSt (stG 21) dG) pG (fG 21))
theorem ok15 : EnvOK Try.prog E15.env := by
  have h1 : EnvOK Try.prog (E14.addL 91 2 [5, 6] (byModel [] (ofSt (stG 22) dG) pG (fG 22))).env :=
    ok14.addM (n := 60) Try.func91 (show Try.f91.body = some (bod Try.f91) by kernel_rfl) (show (loops (bod Try.f91)).filter (fun b => rid b == 2) = [lpb Try.f91 2] by kernel_rfl) [5, 6] [5] (eG 22) (ofSt_emb dG1) (fun s => s.2.toNat)
      (stepG fun x y => by rw [qG1, bne0, bneD, bif2])
  have w := loopW (P := Try.prog) (E := E14) ok14 (n := 60) (f := 37) (b := lpb Try.f37 3) [5, 6] [5] (sel := []) (eG 21) (ofSt_emb dG2) (fun s => s.2.toNat) (stepG fun x y => by rw [qG2, bneD, bif2])
  exact h1.addL Try.func37 (show Try.f37.body = some (bod Try.f37) by kernel_rfl) (show (loops (bod Try.f37)).filter (fun b => rid b == 3) = [lpb Try.f37 3] by kernel_rfl) w
def gcdX (a b : Int) : Int := if gN (sz a) (sz b) > 9223372036854775807 then 1 else gN (sz a) (sz b)
def cGcd : List PV → Option PV | [.val (.int .i64 a), .val (.int .i64 b)] => some (iv (gcdX a b)) | _ => none
theorem qGcd1 (a b : Int) : runP Try.prog E15 60 91 [iv a, iv b] = bif pG (sz a, sz b) then bif decide (gN (sz a) (sz b) > 9223372036854775807) then some (iv 1) else some (iv (W (gN (sz a) (sz b)))) else none := by kernel_rfl
theorem qGcd2 (a b : Int) : runP Try.prog E15 60 37 [iv a, iv b] = bif pG (sz a, sz b) then bif decide (gN (sz a) (sz b) > 9223372036854775807) then some (iv 1) else some (iv (W (gN (sz a) (sz b)))) else none := by kernel_rfl
theorem gcd_tree (a b : Int) : (bif pG (sz a, sz b) then bif decide (gN (sz a) (sz b) > 9223372036854775807) then some (iv 1) else some (iv (W (gN (sz a) (sz b)))) else none) = some (iv (gcdX a b)) := by
  have h1 := sz_range a
  have h2 := sz_range b
  have : pG (sz a, sz b) = true := by unfold pG; simp; omega
  rw [this]
  unfold gcdX
  by_cases h : gN (sz a) (sz b) > 9223372036854775807
  · rw [decide_eq_true h, if_pos h]; rfl
  · rw [decide_eq_false h, if_neg h, W_id (by have : 0 ≤ gN (sz a) (sz b) := by { unfold gN; omega }; omega) (by omega)]; rfl
theorem oGcd (args : List PV) (r : PV) (h : cGcd args = some r) : Enters Try.prog 91 ∧ PCall Try.prog 91 args r := by
  unfold cGcd at h; split at h
  · cases h; exact runP_sound ok15 (n := 60) (by rw [qGcd1, gcd_tree])
  · cases h
theorem oRGcd (args : List PV) (r : PV) (h : cGcd args = some r) : Enters Try.prog 37 ∧ PCall Try.prog 37 args r := by
  unfold cGcd at h; split at h
  · cases h; exact runP_sound ok15 (n := 60) (by rw [qGcd2, gcd_tree])
  · cases h
def E16 : EnvK := ((E14.addO 91 cGcd).addO 37 cGcd).addQ 90
theorem ok16 : EnvOK Try.prog E16.env := ((ok14.addO oGcd).addO oRGcd).addQ 90
end Go.Hg
