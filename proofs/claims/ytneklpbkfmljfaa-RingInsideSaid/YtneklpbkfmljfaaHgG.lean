/- Geometry: contracts: two points sorted; the greater, the lesser. -/
import Derived.Test.YtneklpbkfmljfaaHgE
import Derived.Test.YtneklpbkfmljfaaHxPick
namespace Go.Hg
open Go.Hx Go.Proofs
/-- By the order of points: does the second come first? -/
def swp (a b c d : Int) : Bool := decide (cmp2 c d a b < 0)
def ifI (t : Bool) (x y : Int) : Int := bif t then x else y
abbrev sRow (es : List PV) : Row := { es, s := 2, t := 23, bv := true }
def cSort : List PV → List Row → Option (DT (PV × List Row))
  | [.sl 0 2 0 2, .fn (.func 84) [] []], [⟨[.agg [.val (.int .i64 a), .val (.int .i64 b)], .agg [.val (.int .i64 c), .val (.int .i64 d)]], 2, 23, true, true, false, none⟩] =>
    some (.leaf (.tup [], [sRow [ptv (ifI (swp a b c d) c a) (ifI (swp a b c d) d b), ptv (ifI (swp a b c d) a c) (ifI (swp a b c d) b d)]]))
  | _, _ => none
theorem qSort (a b c d : Int) : runR Try.prog E7 60 0 83 [.sl 0 2 0 2, .fn (.func 84) [] []] [sRow [ptv a b, ptv c d]] =
    bif swp a b c d then some (.tup [], [sRow [ptv c d, ptv a b]]) else some (.tup [], [sRow [ptv a b, ptv c d]]) := by kernel_rfl
theorem qSort2 (a b c d : Int) : runR Try.prog E7 60 0 83 [.sl 0 2 0 2, .fn (.func 84) [] []] [sRow [ptv a b, ptv c d]] =
    some (.tup [], [sRow [ptv (ifI (swp a b c d) c a) (ifI (swp a b c d) d b), ptv (ifI (swp a b c d) a c) (ifI (swp a b c d) b d)]]) := by
  rw [qSort]; cases swp a b c d <;> rfl
theorem eSort : Enters Try.prog 83 := (runR_sound ok7 (qSort2 0 0 0 0)).1
theorem oSort (args : List PV) (H : List Row) (d : DT (PV × List Row)) (p : PV) (H' : List Row) (h : cSort args H = some d) (hd : d.run = some (p, H')) : RCall Try.prog 0 83 args H p H' := by
  unfold cSort at h; split at h
  · rename_i a b c d
    cases h
    cases hd
    exact (runR_sound ok7 (qSort2 a b c d)).2
  · cases h
def cMaxF : List PV → Option PV
  | [.lst _ 23 [.agg [.val (.int .i64 a), .val (.int .i64 b)], .agg [.val (.int .i64 c), .val (.int .i64 d)]], .fn (.func 84) [] []] =>
    some (ptv (ifI (decide (cmp2 c d a b > 0)) c a) (ifI (decide (cmp2 c d a b > 0)) d b))
  | _ => none
def cMinF : List PV → Option PV
  | [.lst _ 23 [.agg [.val (.int .i64 a), .val (.int .i64 b)], .agg [.val (.int .i64 c), .val (.int .i64 d)]], .fn (.func 84) [] []] =>
    some (ptv (ifI (swp a b c d) c a) (ifI (swp a b c d) d b))
  | _ => none
theorem oMaxF (args : List PV) (r : PV) (h : cMaxF args = some r) : Enters Try.prog 85 ∧ PCall Try.prog 85 args r := by
  unfold cMaxF at h; split at h
  · rename_i f a b c d; cases h
    have q : (bif decide (cmp2 c d a b > 0) then some (ptv c d) else some (ptv a b)) = some (ptv (ifI (decide (cmp2 c d a b > 0)) c a) (ifI (decide (cmp2 c d a b > 0)) d b)) := by cases decide (cmp2 c d a b > 0) <;> rfl
    refine runP_sound ok7 (n := 60) (Eq.trans ?_ q); kernel_rfl
  · cases h
theorem oMinF (args : List PV) (r : PV) (h : cMinF args = some r) : Enters Try.prog 86 ∧ PCall Try.prog 86 args r := by
  unfold cMinF at h; split at h
  · rename_i f a b c d; cases h
    have q : (bif swp a b c d then some (ptv c d) else some (ptv a b)) = some (ptv (ifI (swp a b c d) c a) (ifI (swp a b c d) d b)) := by cases swp a b c d <;> rfl
    refine runP_sound ok7 (n := 60) (Eq.trans ?_ q); kernel_rfl
  · cases h
def E8 : EnvK := ((E7.addO 85 cMaxF).addO 86 cMinF).addR 83 cSort
theorem ok8 : EnvOK Try.prog E8.env := ((ok7.addO oMaxF).addO oMinF).addR eSort oSort
end Go.Hg
