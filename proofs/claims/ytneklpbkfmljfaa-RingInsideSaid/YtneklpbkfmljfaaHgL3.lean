/- Geometry: PointSides answers true. -/
import Derived.Test.YtneklpbkfmljfaaHgM
namespace Go.Hg
open Go.Hx Go.Proofs
def sm (x : Int) : Int := x % 25 - 12
theorem sm_range (x : Int) : -12 ≤ sm x ∧ sm x ≤ 12 := by unfold sm; omega
def cSmall : List PV → Option PV | [.agg [.val (.int .i64 a), .val (.int .i64 b)]] => some (ptv (sm a) (sm b)) | _ => none
theorem oSmall (args : List PV) (r : PV) (h : cSmall args = some r) : Enters Try.prog 21 ∧ PCall Try.prog 21 args r := by
  unfold cSmall at h; split at h
  · rename_i a b; cases h
    have e : ∀ x : Int, W (x % 25 - 12) = sm x := fun x => W_id (by omega) (by omega)
    rw [← e a, ← e b]
    exact runP_sound ok19 (n := 60) (by kernel_rfl)
  · cases h
noncomputable def E21 : EnvK := E19.addO 21 cSmall
theorem ok21 : EnvOK Try.prog E21.env := ok19.addO oSmall
noncomputable def E22 : EnvK := (E21.addL 3 4 [1, 2, 5, 6, 7, 14, 15] (fun _ _ _ => none)).addL 3 12 [5, 49, 50, 51] (fun _ _ _ => none)
theorem noL {P : Program} {b : Code} : ∀ (ro : Nat) (S : List PV) (H : List Row) (d : DT (PX × List PV × List Row)) (x : PX) (S' : List PV) (H' : List Row), (none : Option (DT (PX × List PV × List Row))) = some d → d.run = some (x, S', H') → WpTo P (.loop b) ro S H x S' H' := fun _ _ _ _ _ _ _ h => by cases h
theorem ok22 : EnvOK Try.prog E22.env :=
  (ok21.addL Try.func3 (show Try.f3.body = some (bod Try.f3) by kernel_rfl) (show (loops (bod Try.f3)).filter (fun b => rid b == 4) = [lpb Try.f3 4] by kernel_rfl) (fun _ => noL)).addL
    Try.func3 (show Try.f3.body = some (bod Try.f3) by kernel_rfl) (show (loops (bod Try.f3)).filter (fun b => rid b == 12) = [lpb Try.f3 12] by kernel_rfl) (fun _ => noL)
def sid (a b c d e f g h : Int) (t : Option PV) : Option PV :=
  bif sd a b c d e f != sd a b c d e f then some (bv false) else bif !(onX a b c d e f == onX a b c d e f) then some (bv false) else bif mt a b c d e f g h != mt a b c d e f g h then some (bv false) else
  bif mt a b a b e f g h != mt a b a b e f g h then some (bv false) else bif mt a b c d c d g h != mt a b c d c d g h then some (bv false) else t
theorem sid_eq (a b c d e f g h : Int) (t : Option PV) : sid a b c d e f g h t = t := by unfold sid; simp
def gt3 (f x : Int) : Int := W (sm x * 2 ^ min (Int.tmod f 57).toNat 64)
def nd3 (f : Int) (t : Option PV) : Option PV := bif !decide (Int.tmod f 57 < 0) then t else none
theorem q3 (a b c d e f g h n : Int) : runP Try.prog E22 60 3 [.agg [iv a, iv b, iv c, iv d, iv e, iv f, iv g, iv h], .val (.int .u8 n)] =
  nd3 n (nd3 n (nd3 n (nd3 n (nd3 n (nd3 n (nd3 n (nd3 n
    (sid (sm a) (sm b) (sm c) (sm d) (sm e) (sm f) (sm g) (sm h)
    (sid (gt3 n a) (gt3 n b) (gt3 n c) (gt3 n d) (gt3 n e) (gt3 n f) (gt3 n g) (gt3 n h)
    (sid (gt3 n a) (gt3 n b) (gt3 n c) (gt3 n d) (gt3 n e) (gt3 n f) g h
    (sid a b c d e f g h (some (bv true))))))))))))) := by kernel_rfl
theorem law3 (a b c d e f g h : Int) {n : Int} (hn : 0 ≤ n ∧ n < 256) : Enters Try.prog 3 ∧ PCall Try.prog 3 [.agg [iv a, iv b, iv c, iv d, iv e, iv f, iv g, iv h], .val (.int .u8 n)] (bv true) := by
  refine runP_sound ok22 (n := 60) ?_
  have h1 := Int.tmod_nonneg 57 hn.1
  rw [q3]
  unfold nd3
  rw [show (!decide (Int.tmod n 57 < 0)) = true by simp; omega]
  simp only [sid_eq]
  rfl
end Go.Hg
