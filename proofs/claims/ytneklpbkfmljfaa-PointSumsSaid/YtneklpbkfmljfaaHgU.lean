/- Geometry: the box of at most ten points. -/
import Derived.Test.YtneklpbkfmljfaaHgM
namespace Go.Hg
open Go.Hx Go.Proofs
def cell (p : PV) (j : Nat) : Int := (p.cells[j]?.getD .any).getI
def mnI (a b : Int) : Int := if b < a then b else a
def mxI (a b : Int) : Int := if b > a then b else a
def bmnI (es : List PV) (j : Nat) : Int := match es with | [] => 0 | p :: r => r.foldl (fun m q => mnI m (cell q j)) (mnI (cell p j) (cell p j))
def bmxI (es : List PV) (j : Nat) : Int := match es with | [] => 0 | p :: r => r.foldl (fun m q => mxI m (cell q j)) (mxI (cell p j) (cell p j))
def bmn (es : List PV) (j : Nat) : Int := match es with | [] => 0 | p :: r => r.foldl (fun m q => mnI m (cell q j)) (cell p j)
def bmx (es : List PV) (j : Nat) : Int := match es with | [] => 0 | p :: r => r.foldl (fun m q => mxI m (cell q j)) (cell p j)
theorem bmnI_eq (es : List PV) (j : Nat) : bmnI es j = bmn es j := by
  cases es with
  | nil => rfl
  | cons p r => simp only [bmnI, bmn]; rw [show mnI (cell p j) (cell p j) = cell p j by unfold mnI; split <;> rfl]
theorem bmxI_eq (es : List PV) (j : Nat) : bmxI es j = bmx es j := by
  cases es with
  | nil => rfl
  | cons p r => simp only [bmxI, bmx]; rw [show mxI (cell p j) (cell p j) = cell p j by unfold mxI; split <;> rfl]
def boxI (es : List PV) : PV := rcv (bmnI es 0) (bmnI es 1) (bmxI es 0) (bmxI es 1)
def boxV (es : List PV) : PV := rcv (bmn es 0) (bmn es 1) (bmx es 0) (bmx es 1)
noncomputable def EU : EnvK := E19.addK 98
theorem okU : EnvOK Try.prog EU.env := ok19.addK 98
theorem qBox0 (f : Bool) : runP Try.prog EU 100 50 [.lst f 23 []] = some (boxI []) := by kernel_rfl
theorem qBox1 (f : Bool) (a : PV) : runP Try.prog EU 100 50 [.lst f 23 [a]] = some (boxI [a]) := by kernel_rfl
theorem qBox2 (f : Bool) (a b : PV) : runP Try.prog EU 100 50 [.lst f 23 [a, b]] = some (boxI [a, b]) := by kernel_rfl
theorem qBox3 (f : Bool) (a b c : PV) : runP Try.prog EU 100 50 [.lst f 23 [a, b, c]] = some (boxI [a, b, c]) := by kernel_rfl
theorem qBox4 (f : Bool) (a b c d : PV) : runP Try.prog EU 100 50 [.lst f 23 [a, b, c, d]] = some (boxI [a, b, c, d]) := by kernel_rfl
theorem qBox5 (f : Bool) (a b c d e : PV) : runP Try.prog EU 100 50 [.lst f 23 [a, b, c, d, e]] = some (boxI [a, b, c, d, e]) := by kernel_rfl
theorem qBox6 (f : Bool) (a b c d e g : PV) : runP Try.prog EU 100 50 [.lst f 23 [a, b, c, d, e, g]] = some (boxI [a, b, c, d, e, g]) := by kernel_rfl
theorem qBox7 (f : Bool) (a b c d e g h : PV) : runP Try.prog EU 100 50 [.lst f 23 [a, b, c, d, e, g, h]] = some (boxI [a, b, c, d, e, g, h]) := by kernel_rfl
theorem qBox8 (f : Bool) (a b c d e g h i : PV) : runP Try.prog EU 100 50 [.lst f 23 [a, b, c, d, e, g, h, i]] = some (boxI [a, b, c, d, e, g, h, i]) := by kernel_rfl
theorem qBox9 (f : Bool) (a b c d e g h i j : PV) : runP Try.prog EU 100 50 [.lst f 23 [a, b, c, d, e, g, h, i, j]] = some (boxI [a, b, c, d, e, g, h, i, j]) := by kernel_rfl
theorem qBox10 (f : Bool) (a b c d e g h i j k : PV) : runP Try.prog EU 100 50 [.lst f 23 [a, b, c, d, e, g, h, i, j, k]] = some (boxI [a, b, c, d, e, g, h, i, j, k]) := by kernel_rfl
theorem qBox (f : Bool) : ∀ L : List PV, L.length ≤ 10 → runP Try.prog EU 100 50 [.lst f 23 L] = some (boxI L)
  | [], _ => qBox0 f
  | [a], _ => qBox1 f a
  | [a, b], _ => qBox2 f a b
  | [a, b, c], _ => qBox3 f a b c
  | [a, b, c, d], _ => qBox4 f a b c d
  | [a, b, c, d, e], _ => qBox5 f a b c d e
  | [a, b, c, d, e, g], _ => qBox6 f a b c d e g
  | [a, b, c, d, e, g, h], _ => qBox7 f a b c d e g h
  | [a, b, c, d, e, g, h, i], _ => qBox8 f a b c d e g h i
  | [a, b, c, d, e, g, h, i, j], _ => qBox9 f a b c d e g h i j
  | [a, b, c, d, e, g, h, i, j, k], _ => qBox10 f a b c d e g h i j k
  | _ :: _ :: _ :: _ :: _ :: _ :: _ :: _ :: _ :: _ :: _ :: _, h => absurd h (by simp only [List.length_cons]; omega)
theorem qRBox0 (f : Bool) : runP Try.prog EU 100 51 [.lst f 23 []] = some (boxV []) := by kernel_rfl
theorem qRBox1 (f : Bool) (a : PV) : runP Try.prog EU 100 51 [.lst f 23 [a]] = some (boxV [a]) := by kernel_rfl
theorem qRBox2 (f : Bool) (a b : PV) : runP Try.prog EU 100 51 [.lst f 23 [a, b]] = some (boxV [a, b]) := by kernel_rfl
theorem qRBox3 (f : Bool) (a b c : PV) : runP Try.prog EU 100 51 [.lst f 23 [a, b, c]] = some (boxV [a, b, c]) := by kernel_rfl
theorem qRBox4 (f : Bool) (a b c d : PV) : runP Try.prog EU 100 51 [.lst f 23 [a, b, c, d]] = some (boxV [a, b, c, d]) := by kernel_rfl
theorem qRBox5 (f : Bool) (a b c d e : PV) : runP Try.prog EU 100 51 [.lst f 23 [a, b, c, d, e]] = some (boxV [a, b, c, d, e]) := by kernel_rfl
theorem qRBox6 (f : Bool) (a b c d e g : PV) : runP Try.prog EU 100 51 [.lst f 23 [a, b, c, d, e, g]] = some (boxV [a, b, c, d, e, g]) := by kernel_rfl
theorem qRBox7 (f : Bool) (a b c d e g h : PV) : runP Try.prog EU 100 51 [.lst f 23 [a, b, c, d, e, g, h]] = some (boxV [a, b, c, d, e, g, h]) := by kernel_rfl
theorem qRBox8 (f : Bool) (a b c d e g h i : PV) : runP Try.prog EU 100 51 [.lst f 23 [a, b, c, d, e, g, h, i]] = some (boxV [a, b, c, d, e, g, h, i]) := by kernel_rfl
theorem qRBox9 (f : Bool) (a b c d e g h i j : PV) : runP Try.prog EU 100 51 [.lst f 23 [a, b, c, d, e, g, h, i, j]] = some (boxV [a, b, c, d, e, g, h, i, j]) := by kernel_rfl
theorem qRBox10 (f : Bool) (a b c d e g h i j k : PV) : runP Try.prog EU 100 51 [.lst f 23 [a, b, c, d, e, g, h, i, j, k]] = some (boxV [a, b, c, d, e, g, h, i, j, k]) := by kernel_rfl
theorem qRBox (f : Bool) : ∀ L : List PV, L.length ≤ 10 → runP Try.prog EU 100 51 [.lst f 23 L] = some (boxV L)
  | [], _ => qRBox0 f
  | [a], _ => qRBox1 f a
  | [a, b], _ => qRBox2 f a b
  | [a, b, c], _ => qRBox3 f a b c
  | [a, b, c, d], _ => qRBox4 f a b c d
  | [a, b, c, d, e], _ => qRBox5 f a b c d e
  | [a, b, c, d, e, g], _ => qRBox6 f a b c d e g
  | [a, b, c, d, e, g, h], _ => qRBox7 f a b c d e g h
  | [a, b, c, d, e, g, h, i], _ => qRBox8 f a b c d e g h i
  | [a, b, c, d, e, g, h, i, j], _ => qRBox9 f a b c d e g h i j
  | [a, b, c, d, e, g, h, i, j, k], _ => qRBox10 f a b c d e g h i j k
  | _ :: _ :: _ :: _ :: _ :: _ :: _ :: _ :: _ :: _ :: _ :: _, h => absurd h (by simp only [List.length_cons]; omega)
theorem boxI_eq (L : List PV) : boxI L = boxV L := by unfold boxI boxV; rw [bmnI_eq, bmnI_eq, bmxI_eq, bmxI_eq]
def cBox : List PV → Option (DT PV) | [.lst _ 23 L] => some (.br (decide (L.length ≤ 10)) (.leaf (boxV L)) .no) | _ => none
theorem eBox : Enters Try.prog 50 := (runP_sound okU (qBox0 true)).1
theorem eRBox : Enters Try.prog 51 := (runP_sound okU (qRBox0 true)).1
theorem oBox (args : List PV) (d : DT PV) (r : PV) (h : cBox args = some d) (hr : d.run = some r) : PCall Try.prog 50 args r := by
  unfold cBox at h; split at h
  · rename_i f L
    cases h
    obtain ⟨h1, rfl⟩ := run_br hr
    simp only [decide_eq_true_eq] at h1
    rw [← boxI_eq]
    exact (runP_sound okU (qBox f L h1)).2
  · cases h
theorem oRBox (args : List PV) (d : DT PV) (r : PV) (h : cBox args = some d) (hr : d.run = some r) : PCall Try.prog 51 args r := by
  unfold cBox at h; split at h
  · rename_i f L
    cases h
    obtain ⟨h1, rfl⟩ := run_br hr
    simp only [decide_eq_true_eq] at h1
    exact (runP_sound okU (qRBox f L h1)).2
  · cases h
noncomputable def EB : EnvK := (E19.addF 50 cBox).addF 51 cBox
theorem okB : EnvOK Try.prog EB.env := (ok19.addF eBox oBox).addF eRBox oRBox
abbrev S8 (f f' : Bool) (L M : List PV) (n : Int) (hd : Bool) (len k : Int) : List PV := tm 133 [(0, .lst f 23 L), (2, iv n), (4, .ptr 0 1 0 0), (7, bv hd), (17, .lst f' 23 M), (18, iv len), (19, iv k)]
abbrev T8 (f : Bool) (L : List PV) (hd : Bool) : List PV := tm 133 [(0, .lst f 23 L), (4, .ptr 0 1 0 0), (7, bv hd)]
abbrev H8 (a b c d e f g h : Int) : List Row := [r1 56 8 (.agg [iv a, iv b, iv c, iv d, iv e, iv f, iv g, iv h])]
end Go.Hg
