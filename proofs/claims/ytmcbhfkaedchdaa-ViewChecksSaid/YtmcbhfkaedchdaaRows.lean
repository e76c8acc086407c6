/-
  No cell of these rows narrows 'for every input' (looked for: loops, veiled, ifaces, maps, wideKeys, modest, calm, conditions, laid).
  DERIVED. THE GIVEN ROWS OF THIS SEAT. 6 by the template 'for every input the law returns true; each argument reads behind the call as it read before'; 0 by the template 'total and deterministic' (their statements: YtmcbhfkaedchdaaTotals.lean).
  GIVEN WITH THE SEED: the statements are not yours to turn. If you find one false, say at which input.
  Laid BY PROGRAM, IN A SANDBOX (cutbox-rows.mjs): the forced cells as the released guide's own fill.sh prints them over the translation 537fad29ee038450… (all of the seat's roots in one cut). By AI agents, Wed Nov 11 2026. No macro, syntax, notation, axiom, sorry.
-/
import Derived.Test.YtmcbhfkaedchdaaChecked
import GoSem.Claim
import GoSem.ClaimJoined
import GoSem.ClaimMapViews
import Derived.JoinedTies
import Derived.KernelRfl
namespace Go.Proofs.Ytmcbhfkaedchdaa
/- THE CELL 'sum', in the pinned program and in every row, IS THE sha256 OF THE DUMP (.gsa) THAT YtmcbhfkaedchdaaProg.lean LOADS. Nothing in Lean hashes anything: it is a label: what it is worth is what the hold of that sum in a sandbox is worth. -/
noncomputable def Try.pinned : Pinned := { name := "ytmcbhfkaedchdaa", sum := "537fad29ee0384504c6cb30d7f2472a3bf68d40f1e51a0a096e281817e581792", checked := Try.checked }
namespace Rows
def none {H : Type} : Left H := { results := [], args := [] }

/-- 'hachurelaw25.ViewChecks': WHATEVER THE INPUT: true; the input reads as it did. -/
def viewChecksSpec : ChangeSpec := { name := "viewChecks", fn := fun _ => fun
  | [d1, d2, d3] => { results := [.lit (.bool true)], args := [d1, d2, d3] }
  | _ => none }
def viewChecksRow : OpenClaim := { program := "ytmcbhfkaedchdaa", sum := "537fad29ee0384504c6cb30d7f2472a3bf68d40f1e51a0a096e281817e581792", func := "hachure/hachurelaw25.ViewChecks", spec := "viewChecks", unfollowed := true, recurses := true, apart := false }
def ViewChecksSaid : Prop := viewChecksRow.holds Try.pinned (OpenSpec.ofChange viewChecksSpec)

/-- ITS FALSE NEIGHBOUR: 'it returns false'. Refute it at one input. -/
def viewChecksWrong : ChangeSpec := { name := "viewChecks", fn := fun _ => fun
  | [d1, d2, d3] => { results := [.lit (.bool false)], args := [d1, d2, d3] }
  | _ => none }
def ViewChecksWrongFalsely : Prop := viewChecksRow.holds Try.pinned (OpenSpec.ofChange viewChecksWrong)

/-- 'hachurelaw25.ViewFinds': WHATEVER THE INPUT: true; the input reads as it did. -/
def viewFindsSpec : ChangeSpec := { name := "viewFinds", fn := fun _ => fun
  | [d1, d2, d3] => { results := [.lit (.bool true)], args := [d1, d2, d3] }
  | _ => none }
def viewFindsRow : OpenClaim := { program := "ytmcbhfkaedchdaa", sum := "537fad29ee0384504c6cb30d7f2472a3bf68d40f1e51a0a096e281817e581792", func := "hachure/hachurelaw25.ViewFinds", spec := "viewFinds", unfollowed := true, recurses := true, apart := false }
def ViewFindsSaid : Prop := viewFindsRow.holds Try.pinned (OpenSpec.ofChange viewFindsSpec)

/-- ITS FALSE NEIGHBOUR: 'it returns false'. Refute it at one input. -/
def viewFindsWrong : ChangeSpec := { name := "viewFinds", fn := fun _ => fun
  | [d1, d2, d3] => { results := [.lit (.bool false)], args := [d1, d2, d3] }
  | _ => none }
def ViewFindsWrongFalsely : Prop := viewFindsRow.holds Try.pinned (OpenSpec.ofChange viewFindsWrong)

/-- 'hachurelaw25.ViewBack': WHATEVER THE INPUT: true; the input reads as it did. -/
def viewBackSpec : ChangeSpec := { name := "viewBack", fn := fun _ => fun
  | [d1, d2] => { results := [.lit (.bool true)], args := [d1, d2] }
  | _ => none }
def viewBackRow : OpenClaim := { program := "ytmcbhfkaedchdaa", sum := "537fad29ee0384504c6cb30d7f2472a3bf68d40f1e51a0a096e281817e581792", func := "hachure/hachurelaw25.ViewBack", spec := "viewBack", unfollowed := true, recurses := true, apart := false }
def ViewBackSaid : Prop := viewBackRow.holds Try.pinned (OpenSpec.ofChange viewBackSpec)

/-- ITS FALSE NEIGHBOUR: 'it returns false'. Refute it at one input. -/
def viewBackWrong : ChangeSpec := { name := "viewBack", fn := fun _ => fun
  | [d1, d2] => { results := [.lit (.bool false)], args := [d1, d2] }
  | _ => none }
def ViewBackWrongFalsely : Prop := viewBackRow.holds Try.pinned (OpenSpec.ofChange viewBackWrong)

/-- 'hachurelaw25.ViewParts': WHATEVER THE INPUT: true; the input reads as it did. -/
def viewPartsSpec : ChangeSpec := { name := "viewParts", fn := fun _ => fun
  | [d1, d2] => { results := [.lit (.bool true)], args := [d1, d2] }
  | _ => none }
def viewPartsRow : OpenClaim := { program := "ytmcbhfkaedchdaa", sum := "537fad29ee0384504c6cb30d7f2472a3bf68d40f1e51a0a096e281817e581792", func := "hachure/hachurelaw25.ViewParts", spec := "viewParts", unfollowed := true, recurses := true, apart := false }
def ViewPartsSaid : Prop := viewPartsRow.holds Try.pinned (OpenSpec.ofChange viewPartsSpec)

/-- ITS FALSE NEIGHBOUR: 'it returns false'. Refute it at one input. -/
def viewPartsWrong : ChangeSpec := { name := "viewParts", fn := fun _ => fun
  | [d1, d2] => { results := [.lit (.bool false)], args := [d1, d2] }
  | _ => none }
def ViewPartsWrongFalsely : Prop := viewPartsRow.holds Try.pinned (OpenSpec.ofChange viewPartsWrong)

/-- 'hachurelaw25.ViewTurns': WHATEVER THE INPUT: true; the input reads as it did. -/
def viewTurnsSpec : ChangeSpec := { name := "viewTurns", fn := fun _ => fun
  | [d1, d2] => { results := [.lit (.bool true)], args := [d1, d2] }
  | _ => none }
def viewTurnsRow : OpenClaim := { program := "ytmcbhfkaedchdaa", sum := "537fad29ee0384504c6cb30d7f2472a3bf68d40f1e51a0a096e281817e581792", func := "hachure/hachurelaw25.ViewTurns", spec := "viewTurns", unfollowed := true, recurses := true, apart := false }
def ViewTurnsSaid : Prop := viewTurnsRow.holds Try.pinned (OpenSpec.ofChange viewTurnsSpec)

/-- ITS FALSE NEIGHBOUR: 'it returns false'. Refute it at one input. -/
def viewTurnsWrong : ChangeSpec := { name := "viewTurns", fn := fun _ => fun
  | [d1, d2] => { results := [.lit (.bool false)], args := [d1, d2] }
  | _ => none }
def ViewTurnsWrongFalsely : Prop := viewTurnsRow.holds Try.pinned (OpenSpec.ofChange viewTurnsWrong)

/-- 'hachurelaw25.ViewLimits': WHATEVER THE INPUT: true; the input reads as it did. -/
def viewLimitsSpec : ChangeSpec := { name := "viewLimits", fn := fun _ => fun
  | [d1, d2] => { results := [.lit (.bool true)], args := [d1, d2] }
  | _ => none }
def viewLimitsRow : OpenClaim := { program := "ytmcbhfkaedchdaa", sum := "537fad29ee0384504c6cb30d7f2472a3bf68d40f1e51a0a096e281817e581792", func := "hachure/hachurelaw25.ViewLimits", spec := "viewLimits", unfollowed := true, recurses := true, apart := false }
def ViewLimitsSaid : Prop := viewLimitsRow.holds Try.pinned (OpenSpec.ofChange viewLimitsSpec)

/-- ITS FALSE NEIGHBOUR: 'it returns false'. Refute it at one input. -/
def viewLimitsWrong : ChangeSpec := { name := "viewLimits", fn := fun _ => fun
  | [d1, d2] => { results := [.lit (.bool false)], args := [d1, d2] }
  | _ => none }
def ViewLimitsWrongFalsely : Prop := viewLimitsRow.holds Try.pinned (OpenSpec.ofChange viewLimitsWrong)

/- THE SECOND FORM. 'bulk': how many values and letters a reading holds, each counted each time it is reached (what is shared counts as often as it is met; a slice's spare places count too). A statement '..UptoSaid' is the law's where the arguments, and the package variables that the reading takes, are together of bulk at most 1048576: NARROWER than '..Said'. Prove '..Said' where nothing that the law and all that it calls make is longer than what came in: it says more and counts as full. Else prove '..UptoSaid'. A law counts once. -/
mutual
def uptoBulk {H : Type} : DataW H → Nat
  | .lit (.string bytes) => bytes.length + 1
  | .lit _ => 1
  | .nil => 1
  | .ptr d => uptoBulk d + 1
  | .slice elems spare => uptoBulkAll elems + uptoBulkAll spare + 1
  | .agg parts => uptoBulkAll parts + 1
  | .iface _ d => uptoBulk d + 1
  | .map entries => uptoBulkEntries entries + 1
  | .held _ => 1
def uptoBulkAll {H : Type} : List (DataW H) → Nat
  | [] => 0
  | d :: r => uptoBulk d + uptoBulkAll r
def uptoBulkEntries {H : Type} : List (Lit × DataW H) → Nat
  | [] => 0
  | x :: r => uptoBulkEntry x + uptoBulkEntries r
def uptoBulkEntry {H : Type} : Lit × DataW H → Nat
  | (.string bytes, d) => bytes.length + uptoBulk d + 1
  | (_, d) => uptoBulk d + 1
 end
def uptoSmall : (H : Type) → List (DataW H) → Bool := fun _ ds => decide (uptoBulkAll ds ≤ 1048576)
def OpenSpec.upto (s : _root_.Go.ChangeSpec) : _root_.Go.OpenSpec := { _root_.Go.OpenSpec.ofChange s with cond := some uptoSmall }

/-- 'hachurelaw25.ViewChecks', WHERE WHAT IT READS IS OF BULK AT MOST 1048576: true; the input reads as it did. -/
def viewChecksUptoRow : OpenClaim := { program := "ytmcbhfkaedchdaa", sum := "537fad29ee0384504c6cb30d7f2472a3bf68d40f1e51a0a096e281817e581792", func := "hachure/hachurelaw25.ViewChecks", spec := "viewChecks", unfollowed := true, recurses := true, apart := false, narrowed := true }
def ViewChecksUptoSaid : Prop := viewChecksUptoRow.holds Try.pinned (OpenSpec.upto viewChecksSpec)

/-- 'hachurelaw25.ViewFinds', WHERE WHAT IT READS IS OF BULK AT MOST 1048576: true; the input reads as it did. -/
def viewFindsUptoRow : OpenClaim := { program := "ytmcbhfkaedchdaa", sum := "537fad29ee0384504c6cb30d7f2472a3bf68d40f1e51a0a096e281817e581792", func := "hachure/hachurelaw25.ViewFinds", spec := "viewFinds", unfollowed := true, recurses := true, apart := false, narrowed := true }
def ViewFindsUptoSaid : Prop := viewFindsUptoRow.holds Try.pinned (OpenSpec.upto viewFindsSpec)

/-- 'hachurelaw25.ViewBack', WHERE WHAT IT READS IS OF BULK AT MOST 1048576: true; the input reads as it did. -/
def viewBackUptoRow : OpenClaim := { program := "ytmcbhfkaedchdaa", sum := "537fad29ee0384504c6cb30d7f2472a3bf68d40f1e51a0a096e281817e581792", func := "hachure/hachurelaw25.ViewBack", spec := "viewBack", unfollowed := true, recurses := true, apart := false, narrowed := true }
def ViewBackUptoSaid : Prop := viewBackUptoRow.holds Try.pinned (OpenSpec.upto viewBackSpec)

/-- 'hachurelaw25.ViewParts', WHERE WHAT IT READS IS OF BULK AT MOST 1048576: true; the input reads as it did. -/
def viewPartsUptoRow : OpenClaim := { program := "ytmcbhfkaedchdaa", sum := "537fad29ee0384504c6cb30d7f2472a3bf68d40f1e51a0a096e281817e581792", func := "hachure/hachurelaw25.ViewParts", spec := "viewParts", unfollowed := true, recurses := true, apart := false, narrowed := true }
def ViewPartsUptoSaid : Prop := viewPartsUptoRow.holds Try.pinned (OpenSpec.upto viewPartsSpec)

/-- 'hachurelaw25.ViewTurns', WHERE WHAT IT READS IS OF BULK AT MOST 1048576: true; the input reads as it did. -/
def viewTurnsUptoRow : OpenClaim := { program := "ytmcbhfkaedchdaa", sum := "537fad29ee0384504c6cb30d7f2472a3bf68d40f1e51a0a096e281817e581792", func := "hachure/hachurelaw25.ViewTurns", spec := "viewTurns", unfollowed := true, recurses := true, apart := false, narrowed := true }
def ViewTurnsUptoSaid : Prop := viewTurnsUptoRow.holds Try.pinned (OpenSpec.upto viewTurnsSpec)

/-- 'hachurelaw25.ViewLimits', WHERE WHAT IT READS IS OF BULK AT MOST 1048576: true; the input reads as it did. -/
def viewLimitsUptoRow : OpenClaim := { program := "ytmcbhfkaedchdaa", sum := "537fad29ee0384504c6cb30d7f2472a3bf68d40f1e51a0a096e281817e581792", func := "hachure/hachurelaw25.ViewLimits", spec := "viewLimits", unfollowed := true, recurses := true, apart := false, narrowed := true }
def ViewLimitsUptoSaid : Prop := viewLimitsUptoRow.holds Try.pinned (OpenSpec.upto viewLimitsSpec)

end Rows
end Go.Proofs.Ytmcbhfkaedchdaa
