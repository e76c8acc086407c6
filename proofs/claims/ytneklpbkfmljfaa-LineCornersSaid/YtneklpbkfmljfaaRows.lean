/-
  No cell of these rows narrows 'for every input' (looked for: loops, veiled, ifaces, maps, wideKeys, modest, calm, conditions, laid).
  DERIVED. THE GIVEN ROWS OF THIS SEAT. 17 by the template 'for every input the law returns true; each argument reads behind the call as it read before'; 0 by the template 'total and deterministic' (their statements: YtneklpbkfmljfaaTotals.lean).
  GIVEN WITH THE SEED: the statements are not yours to turn. If you find one false, say at which input.
  Laid BY PROGRAM, IN A SANDBOX (cutbox-rows.mjs): the forced cells as the released guide's own fill.sh prints them over the translation 8f6a3681d6576eb8… (all of the seat's roots in one cut). By AI agents, Wed Nov 11 2026. No macro, syntax, notation, axiom, sorry.
-/
import Derived.Test.YtneklpbkfmljfaaChecked
import GoSem.Claim
import GoSem.ClaimJoined
import GoSem.ClaimMapViews
import Derived.JoinedTies
import Derived.KernelRfl
namespace Go.Proofs.Ytneklpbkfmljfaa
/- THE CELL 'sum', in the pinned program and in every row, IS THE sha256 OF THE DUMP (.gsa) THAT YtneklpbkfmljfaaProg.lean LOADS. Nothing in Lean hashes anything: it is a label: what it is worth is what the hold of that sum in a sandbox is worth. -/
noncomputable def Try.pinned : Pinned := { name := "ytneklpbkfmljfaa", sum := "8f6a3681d6576eb8a2b6db201909850f75d978f766c964e740ec599e8dd72acf", checked := Try.checked }
namespace Rows
def none {H : Type} : Left H := { results := [], args := [] }

/-- 'hachurelaw04.PointSides': WHATEVER THE INPUT: true; the input reads as it did. -/
def pointSidesSpec : ChangeSpec := { name := "pointSides", fn := fun _ => fun
  | [d1, d2] => { results := [.lit (.bool true)], args := [d1, d2] }
  | _ => none }
def pointSidesRow : OpenClaim := { program := "ytneklpbkfmljfaa", sum := "8f6a3681d6576eb8a2b6db201909850f75d978f766c964e740ec599e8dd72acf", func := "hachure/hachurelaw04.PointSides", spec := "pointSides", unfollowed := true, recurses := true, apart := false }
def PointSidesSaid : Prop := pointSidesRow.holds Try.pinned (OpenSpec.ofChange pointSidesSpec)

/-- ITS FALSE NEIGHBOUR: 'it returns false'. Refute it at one input. -/
def pointSidesWrong : ChangeSpec := { name := "pointSides", fn := fun _ => fun
  | [d1, d2] => { results := [.lit (.bool false)], args := [d1, d2] }
  | _ => none }
def PointSidesWrongFalsely : Prop := pointSidesRow.holds Try.pinned (OpenSpec.ofChange pointSidesWrong)

/-- 'hachurelaw04.PointLattice': WHATEVER THE INPUT: true; the input reads as it did. -/
def pointLatticeSpec : ChangeSpec := { name := "pointLattice", fn := fun _ => fun
  | [d] => { results := [.lit (.bool true)], args := [d] }
  | _ => none }
def pointLatticeRow : OpenClaim := { program := "ytneklpbkfmljfaa", sum := "8f6a3681d6576eb8a2b6db201909850f75d978f766c964e740ec599e8dd72acf", func := "hachure/hachurelaw04.PointLattice", spec := "pointLattice", unfollowed := true, recurses := true, apart := false }
def PointLatticeSaid : Prop := pointLatticeRow.holds Try.pinned (OpenSpec.ofChange pointLatticeSpec)

/-- ITS FALSE NEIGHBOUR: 'it returns false'. Refute it at one input. -/
def pointLatticeWrong : ChangeSpec := { name := "pointLattice", fn := fun _ => fun
  | [d] => { results := [.lit (.bool false)], args := [d] }
  | _ => none }
def PointLatticeWrongFalsely : Prop := pointLatticeRow.holds Try.pinned (OpenSpec.ofChange pointLatticeWrong)

/-- 'hachurelaw04.PointMoves': WHATEVER THE INPUT: true; the input reads as it did. -/
def pointMovesSpec : ChangeSpec := { name := "pointMoves", fn := fun _ => fun
  | [d1, d2] => { results := [.lit (.bool true)], args := [d1, d2] }
  | _ => none }
def pointMovesRow : OpenClaim := { program := "ytneklpbkfmljfaa", sum := "8f6a3681d6576eb8a2b6db201909850f75d978f766c964e740ec599e8dd72acf", func := "hachure/hachurelaw04.PointMoves", spec := "pointMoves", unfollowed := true, recurses := true, apart := false }
def PointMovesSaid : Prop := pointMovesRow.holds Try.pinned (OpenSpec.ofChange pointMovesSpec)

/-- ITS FALSE NEIGHBOUR: 'it returns false'. Refute it at one input. -/
def pointMovesWrong : ChangeSpec := { name := "pointMoves", fn := fun _ => fun
  | [d1, d2] => { results := [.lit (.bool false)], args := [d1, d2] }
  | _ => none }
def PointMovesWrongFalsely : Prop := pointMovesRow.holds Try.pinned (OpenSpec.ofChange pointMovesWrong)

/-- 'hachurelaw04.PointTurns': WHATEVER THE INPUT: true; the input reads as it did. -/
def pointTurnsSpec : ChangeSpec := { name := "pointTurns", fn := fun _ => fun
  | [d1, d2, d3] => { results := [.lit (.bool true)], args := [d1, d2, d3] }
  | _ => none }
def pointTurnsRow : OpenClaim := { program := "ytneklpbkfmljfaa", sum := "8f6a3681d6576eb8a2b6db201909850f75d978f766c964e740ec599e8dd72acf", func := "hachure/hachurelaw04.PointTurns", spec := "pointTurns", unfollowed := true, recurses := true, apart := false }
def PointTurnsSaid : Prop := pointTurnsRow.holds Try.pinned (OpenSpec.ofChange pointTurnsSpec)

/-- ITS FALSE NEIGHBOUR: 'it returns false'. Refute it at one input. -/
def pointTurnsWrong : ChangeSpec := { name := "pointTurns", fn := fun _ => fun
  | [d1, d2, d3] => { results := [.lit (.bool false)], args := [d1, d2, d3] }
  | _ => none }
def PointTurnsWrongFalsely : Prop := pointTurnsRow.holds Try.pinned (OpenSpec.ofChange pointTurnsWrong)

/-- 'hachurelaw04.PointSpots': WHATEVER THE INPUT: true; the input reads as it did. -/
def pointSpotsSpec : ChangeSpec := { name := "pointSpots", fn := fun _ => fun
  | [d1, d2, d3] => { results := [.lit (.bool true)], args := [d1, d2, d3] }
  | _ => none }
def pointSpotsRow : OpenClaim := { program := "ytneklpbkfmljfaa", sum := "8f6a3681d6576eb8a2b6db201909850f75d978f766c964e740ec599e8dd72acf", func := "hachure/hachurelaw04.PointSpots", spec := "pointSpots", unfollowed := true, recurses := true, apart := false }
def PointSpotsSaid : Prop := pointSpotsRow.holds Try.pinned (OpenSpec.ofChange pointSpotsSpec)

/-- ITS FALSE NEIGHBOUR: 'it returns false'. Refute it at one input. -/
def pointSpotsWrong : ChangeSpec := { name := "pointSpots", fn := fun _ => fun
  | [d1, d2, d3] => { results := [.lit (.bool false)], args := [d1, d2, d3] }
  | _ => none }
def PointSpotsWrongFalsely : Prop := pointSpotsRow.holds Try.pinned (OpenSpec.ofChange pointSpotsWrong)

/-- 'hachurelaw04.PointSums': WHATEVER THE INPUT: true; the input reads as it did. -/
def pointSumsSpec : ChangeSpec := { name := "pointSums", fn := fun _ => fun
  | [d1, d2, d3] => { results := [.lit (.bool true)], args := [d1, d2, d3] }
  | _ => none }
def pointSumsRow : OpenClaim := { program := "ytneklpbkfmljfaa", sum := "8f6a3681d6576eb8a2b6db201909850f75d978f766c964e740ec599e8dd72acf", func := "hachure/hachurelaw04.PointSums", spec := "pointSums", unfollowed := true, recurses := true, apart := false }
def PointSumsSaid : Prop := pointSumsRow.holds Try.pinned (OpenSpec.ofChange pointSumsSpec)

/-- ITS FALSE NEIGHBOUR: 'it returns false'. Refute it at one input. -/
def pointSumsWrong : ChangeSpec := { name := "pointSums", fn := fun _ => fun
  | [d1, d2, d3] => { results := [.lit (.bool false)], args := [d1, d2, d3] }
  | _ => none }
def PointSumsWrongFalsely : Prop := pointSumsRow.holds Try.pinned (OpenSpec.ofChange pointSumsWrong)

/-- 'hachurelaw06.RingChecks': WHATEVER THE INPUT: true; the input reads as it did. -/
def ringChecksSpec : ChangeSpec := { name := "ringChecks", fn := fun _ => fun
  | [d1, d2, d3, d4] => { results := [.lit (.bool true)], args := [d1, d2, d3, d4] }
  | _ => none }
def ringChecksRow : OpenClaim := { program := "ytneklpbkfmljfaa", sum := "8f6a3681d6576eb8a2b6db201909850f75d978f766c964e740ec599e8dd72acf", func := "hachure/hachurelaw06.RingChecks", spec := "ringChecks", unfollowed := true, recurses := true, apart := false }
def RingChecksSaid : Prop := ringChecksRow.holds Try.pinned (OpenSpec.ofChange ringChecksSpec)

/-- ITS FALSE NEIGHBOUR: 'it returns false'. Refute it at one input. -/
def ringChecksWrong : ChangeSpec := { name := "ringChecks", fn := fun _ => fun
  | [d1, d2, d3, d4] => { results := [.lit (.bool false)], args := [d1, d2, d3, d4] }
  | _ => none }
def RingChecksWrongFalsely : Prop := ringChecksRow.holds Try.pinned (OpenSpec.ofChange ringChecksWrong)

/-- 'hachurelaw06.RingInside': WHATEVER THE INPUT: true; the input reads as it did. -/
def ringInsideSpec : ChangeSpec := { name := "ringInside", fn := fun _ => fun
  | [d1, d2, d3] => { results := [.lit (.bool true)], args := [d1, d2, d3] }
  | _ => none }
def ringInsideRow : OpenClaim := { program := "ytneklpbkfmljfaa", sum := "8f6a3681d6576eb8a2b6db201909850f75d978f766c964e740ec599e8dd72acf", func := "hachure/hachurelaw06.RingInside", spec := "ringInside", unfollowed := true, recurses := true, apart := false }
def RingInsideSaid : Prop := ringInsideRow.holds Try.pinned (OpenSpec.ofChange ringInsideSpec)

/-- ITS FALSE NEIGHBOUR: 'it returns false'. Refute it at one input. -/
def ringInsideWrong : ChangeSpec := { name := "ringInside", fn := fun _ => fun
  | [d1, d2, d3] => { results := [.lit (.bool false)], args := [d1, d2, d3] }
  | _ => none }
def RingInsideWrongFalsely : Prop := ringInsideRow.holds Try.pinned (OpenSpec.ofChange ringInsideWrong)

/-- 'hachurelaw06.RingRays': WHATEVER THE INPUT: true; the input reads as it did. -/
def ringRaysSpec : ChangeSpec := { name := "ringRays", fn := fun _ => fun
  | [d1, d2] => { results := [.lit (.bool true)], args := [d1, d2] }
  | _ => none }
def ringRaysRow : OpenClaim := { program := "ytneklpbkfmljfaa", sum := "8f6a3681d6576eb8a2b6db201909850f75d978f766c964e740ec599e8dd72acf", func := "hachure/hachurelaw06.RingRays", spec := "ringRays", unfollowed := true, recurses := true, apart := false }
def RingRaysSaid : Prop := ringRaysRow.holds Try.pinned (OpenSpec.ofChange ringRaysSpec)

/-- ITS FALSE NEIGHBOUR: 'it returns false'. Refute it at one input. -/
def ringRaysWrong : ChangeSpec := { name := "ringRays", fn := fun _ => fun
  | [d1, d2] => { results := [.lit (.bool false)], args := [d1, d2] }
  | _ => none }
def RingRaysWrongFalsely : Prop := ringRaysRow.holds Try.pinned (OpenSpec.ofChange ringRaysWrong)

/-- 'hachurelaw06.RingSpots': WHATEVER THE INPUT: true; the input reads as it did. -/
def ringSpotsSpec : ChangeSpec := { name := "ringSpots", fn := fun _ => fun
  | [d1, d2] => { results := [.lit (.bool true)], args := [d1, d2] }
  | _ => none }
def ringSpotsRow : OpenClaim := { program := "ytneklpbkfmljfaa", sum := "8f6a3681d6576eb8a2b6db201909850f75d978f766c964e740ec599e8dd72acf", func := "hachure/hachurelaw06.RingSpots", spec := "ringSpots", unfollowed := true, recurses := true, apart := false }
def RingSpotsSaid : Prop := ringSpotsRow.holds Try.pinned (OpenSpec.ofChange ringSpotsSpec)

/-- ITS FALSE NEIGHBOUR: 'it returns false'. Refute it at one input. -/
def ringSpotsWrong : ChangeSpec := { name := "ringSpots", fn := fun _ => fun
  | [d1, d2] => { results := [.lit (.bool false)], args := [d1, d2] }
  | _ => none }
def RingSpotsWrongFalsely : Prop := ringSpotsRow.holds Try.pinned (OpenSpec.ofChange ringSpotsWrong)

/-- 'hachurelaw06.RingArea': WHATEVER THE INPUT: true; the input reads as it did. -/
def ringAreaSpec : ChangeSpec := { name := "ringArea", fn := fun _ => fun
  | [d1, d2, d3, d4] => { results := [.lit (.bool true)], args := [d1, d2, d3, d4] }
  | _ => none }
def ringAreaRow : OpenClaim := { program := "ytneklpbkfmljfaa", sum := "8f6a3681d6576eb8a2b6db201909850f75d978f766c964e740ec599e8dd72acf", func := "hachure/hachurelaw06.RingArea", spec := "ringArea", unfollowed := true, recurses := true, apart := false }
def RingAreaSaid : Prop := ringAreaRow.holds Try.pinned (OpenSpec.ofChange ringAreaSpec)

/-- ITS FALSE NEIGHBOUR: 'it returns false'. Refute it at one input. -/
def ringAreaWrong : ChangeSpec := { name := "ringArea", fn := fun _ => fun
  | [d1, d2, d3, d4] => { results := [.lit (.bool false)], args := [d1, d2, d3, d4] }
  | _ => none }
def RingAreaWrongFalsely : Prop := ringAreaRow.holds Try.pinned (OpenSpec.ofChange ringAreaWrong)

/-- 'hachurelaw06.RingMoves': WHATEVER THE INPUT: true; the input reads as it did. -/
def ringMovesSpec : ChangeSpec := { name := "ringMoves", fn := fun _ => fun
  | [d1, d2, d3, d4] => { results := [.lit (.bool true)], args := [d1, d2, d3, d4] }
  | _ => none }
def ringMovesRow : OpenClaim := { program := "ytneklpbkfmljfaa", sum := "8f6a3681d6576eb8a2b6db201909850f75d978f766c964e740ec599e8dd72acf", func := "hachure/hachurelaw06.RingMoves", spec := "ringMoves", unfollowed := true, recurses := true, apart := false }
def RingMovesSaid : Prop := ringMovesRow.holds Try.pinned (OpenSpec.ofChange ringMovesSpec)

/-- ITS FALSE NEIGHBOUR: 'it returns false'. Refute it at one input. -/
def ringMovesWrong : ChangeSpec := { name := "ringMoves", fn := fun _ => fun
  | [d1, d2, d3, d4] => { results := [.lit (.bool false)], args := [d1, d2, d3, d4] }
  | _ => none }
def RingMovesWrongFalsely : Prop := ringMovesRow.holds Try.pinned (OpenSpec.ofChange ringMovesWrong)

/-- 'hachurelaw06.RingPick': WHATEVER THE INPUT: true; the input reads as it did. -/
def ringPickSpec : ChangeSpec := { name := "ringPick", fn := fun _ => fun
  | [d] => { results := [.lit (.bool true)], args := [d] }
  | _ => none }
def ringPickRow : OpenClaim := { program := "ytneklpbkfmljfaa", sum := "8f6a3681d6576eb8a2b6db201909850f75d978f766c964e740ec599e8dd72acf", func := "hachure/hachurelaw06.RingPick", spec := "ringPick", unfollowed := true, recurses := true, apart := false }
def RingPickSaid : Prop := ringPickRow.holds Try.pinned (OpenSpec.ofChange ringPickSpec)

/-- ITS FALSE NEIGHBOUR: 'it returns false'. Refute it at one input. -/
def ringPickWrong : ChangeSpec := { name := "ringPick", fn := fun _ => fun
  | [d] => { results := [.lit (.bool false)], args := [d] }
  | _ => none }
def RingPickWrongFalsely : Prop := ringPickRow.holds Try.pinned (OpenSpec.ofChange ringPickWrong)

/-- 'hachurelaw05.LineWithins': WHATEVER THE INPUT: true; the input reads as it did. -/
def lineWithinsSpec : ChangeSpec := { name := "lineWithins", fn := fun _ => fun
  | [d1, d2, d3] => { results := [.lit (.bool true)], args := [d1, d2, d3] }
  | _ => none }
def lineWithinsRow : OpenClaim := { program := "ytneklpbkfmljfaa", sum := "8f6a3681d6576eb8a2b6db201909850f75d978f766c964e740ec599e8dd72acf", func := "hachure/hachurelaw05.LineWithins", spec := "lineWithins", inPlace := ["math.sqrt"], unfollowed := true, recurses := true, apart := false }
def LineWithinsSaid : Prop := lineWithinsRow.holds Try.pinned (OpenSpec.ofChange lineWithinsSpec)

/-- ITS FALSE NEIGHBOUR: 'it returns false'. Refute it at one input. -/
def lineWithinsWrong : ChangeSpec := { name := "lineWithins", fn := fun _ => fun
  | [d1, d2, d3] => { results := [.lit (.bool false)], args := [d1, d2, d3] }
  | _ => none }
def LineWithinsWrongFalsely : Prop := lineWithinsRow.holds Try.pinned (OpenSpec.ofChange lineWithinsWrong)

/-- 'hachurelaw05.LineCrosses': WHATEVER THE INPUT: true; the input reads as it did. -/
def lineCrossesSpec : ChangeSpec := { name := "lineCrosses", fn := fun _ => fun
  | [d1, d2, d3] => { results := [.lit (.bool true)], args := [d1, d2, d3] }
  | _ => none }
def lineCrossesRow : OpenClaim := { program := "ytneklpbkfmljfaa", sum := "8f6a3681d6576eb8a2b6db201909850f75d978f766c964e740ec599e8dd72acf", func := "hachure/hachurelaw05.LineCrosses", spec := "lineCrosses", inPlace := ["math.sqrt"], unfollowed := true, recurses := true, apart := false }
def LineCrossesSaid : Prop := lineCrossesRow.holds Try.pinned (OpenSpec.ofChange lineCrossesSpec)

/-- ITS FALSE NEIGHBOUR: 'it returns false'. Refute it at one input. -/
def lineCrossesWrong : ChangeSpec := { name := "lineCrosses", fn := fun _ => fun
  | [d1, d2, d3] => { results := [.lit (.bool false)], args := [d1, d2, d3] }
  | _ => none }
def LineCrossesWrongFalsely : Prop := lineCrossesRow.holds Try.pinned (OpenSpec.ofChange lineCrossesWrong)

/-- 'hachurelaw05.LineNears': WHATEVER THE INPUT: true; the input reads as it did. -/
def lineNearsSpec : ChangeSpec := { name := "lineNears", fn := fun _ => fun
  | [d1, d2, d3] => { results := [.lit (.bool true)], args := [d1, d2, d3] }
  | _ => none }
def lineNearsRow : OpenClaim := { program := "ytneklpbkfmljfaa", sum := "8f6a3681d6576eb8a2b6db201909850f75d978f766c964e740ec599e8dd72acf", func := "hachure/hachurelaw05.LineNears", spec := "lineNears", inPlace := ["math.sqrt"], unfollowed := true, recurses := true, apart := false }
def LineNearsSaid : Prop := lineNearsRow.holds Try.pinned (OpenSpec.ofChange lineNearsSpec)

/-- ITS FALSE NEIGHBOUR: 'it returns false'. Refute it at one input. -/
def lineNearsWrong : ChangeSpec := { name := "lineNears", fn := fun _ => fun
  | [d1, d2, d3] => { results := [.lit (.bool false)], args := [d1, d2, d3] }
  | _ => none }
def LineNearsWrongFalsely : Prop := lineNearsRow.holds Try.pinned (OpenSpec.ofChange lineNearsWrong)

/-- 'hachurelaw05.LineCorners': WHATEVER THE INPUT: true; the input reads as it did. -/
def lineCornersSpec : ChangeSpec := { name := "lineCorners", fn := fun _ => fun
  | [d] => { results := [.lit (.bool true)], args := [d] }
  | _ => none }
def lineCornersRow : OpenClaim := { program := "ytneklpbkfmljfaa", sum := "8f6a3681d6576eb8a2b6db201909850f75d978f766c964e740ec599e8dd72acf", func := "hachure/hachurelaw05.LineCorners", spec := "lineCorners", inPlace := ["math.sqrt"], unfollowed := true, recurses := true, apart := false }
def LineCornersSaid : Prop := lineCornersRow.holds Try.pinned (OpenSpec.ofChange lineCornersSpec)

/-- ITS FALSE NEIGHBOUR: 'it returns false'. Refute it at one input. -/
def lineCornersWrong : ChangeSpec := { name := "lineCorners", fn := fun _ => fun
  | [d] => { results := [.lit (.bool false)], args := [d] }
  | _ => none }
def LineCornersWrongFalsely : Prop := lineCornersRow.holds Try.pinned (OpenSpec.ofChange lineCornersWrong)

/- THE SECOND FORM. 'bulk': how many values and letters a reading holds, each counted each time it is reached (what is shared counts as often as it is met; a slice's spare places count too). A statement '..UptoSaid' is the law's where the arguments, and the package variables that the reading takes, are together of bulk at most 1048576: NARROWER than '..Said'. Prove '..Said' where nothing that the law and all that it calls make is longer than what came in: it says more and counts as full. Else prove '..UptoSaid'. A law counts once. -/
mutual
def uptoBulk {H : Type} : DataW H → Nat
  | .lit (.string bytes) => bytes.length + 1
  | .lit _ => 1
  | .nil => 1
  | .ptr d => uptoBulk d + 1
  | .slice elems spare => uptoBulkAll elems + uptoBulkAll spare + 1
  | .agg parts => uptoBulkAll parts + 1
  | .iface _ d => uptoBulk d + 1
  | .map entries => uptoBulkEntries entries + 1
  | .held _ => 1
def uptoBulkAll {H : Type} : List (DataW H) → Nat
  | [] => 0
  | d :: r => uptoBulk d + uptoBulkAll r
def uptoBulkEntries {H : Type} : List (Lit × DataW H) → Nat
  | [] => 0
  | x :: r => uptoBulkEntry x + uptoBulkEntries r
def uptoBulkEntry {H : Type} : Lit × DataW H → Nat
  | (.string bytes, d) => bytes.length + uptoBulk d + 1
  | (_, d) => uptoBulk d + 1
 end
def uptoSmall : (H : Type) → List (DataW H) → Bool := fun _ ds => decide (uptoBulkAll ds ≤ 1048576)
def OpenSpec.upto (s : _root_.Go.ChangeSpec) : _root_.Go.OpenSpec := { _root_.Go.OpenSpec.ofChange s with cond := some uptoSmall }

/-- 'hachurelaw04.PointSides', WHERE WHAT IT READS IS OF BULK AT MOST 1048576: true; the input reads as it did. -/
def pointSidesUptoRow : OpenClaim := { program := "ytneklpbkfmljfaa", sum := "8f6a3681d6576eb8a2b6db201909850f75d978f766c964e740ec599e8dd72acf", func := "hachure/hachurelaw04.PointSides", spec := "pointSides", unfollowed := true, recurses := true, apart := false, narrowed := true }
def PointSidesUptoSaid : Prop := pointSidesUptoRow.holds Try.pinned (OpenSpec.upto pointSidesSpec)

/-- 'hachurelaw04.PointLattice', WHERE WHAT IT READS IS OF BULK AT MOST 1048576: true; the input reads as it did. -/
def pointLatticeUptoRow : OpenClaim := { program := "ytneklpbkfmljfaa", sum := "8f6a3681d6576eb8a2b6db201909850f75d978f766c964e740ec599e8dd72acf", func := "hachure/hachurelaw04.PointLattice", spec := "pointLattice", unfollowed := true, recurses := true, apart := false, narrowed := true }
def PointLatticeUptoSaid : Prop := pointLatticeUptoRow.holds Try.pinned (OpenSpec.upto pointLatticeSpec)

/-- 'hachurelaw04.PointMoves', WHERE WHAT IT READS IS OF BULK AT MOST 1048576: true; the input reads as it did. -/
def pointMovesUptoRow : OpenClaim := { program := "ytneklpbkfmljfaa", sum := "8f6a3681d6576eb8a2b6db201909850f75d978f766c964e740ec599e8dd72acf", func := "hachure/hachurelaw04.PointMoves", spec := "pointMoves", unfollowed := true, recurses := true, apart := false, narrowed := true }
def PointMovesUptoSaid : Prop := pointMovesUptoRow.holds Try.pinned (OpenSpec.upto pointMovesSpec)

/-- 'hachurelaw04.PointTurns', WHERE WHAT IT READS IS OF BULK AT MOST 1048576: true; the input reads as it did. -/
def pointTurnsUptoRow : OpenClaim := { program := "ytneklpbkfmljfaa", sum := "8f6a3681d6576eb8a2b6db201909850f75d978f766c964e740ec599e8dd72acf", func := "hachure/hachurelaw04.PointTurns", spec := "pointTurns", unfollowed := true, recurses := true, apart := false, narrowed := true }
def PointTurnsUptoSaid : Prop := pointTurnsUptoRow.holds Try.pinned (OpenSpec.upto pointTurnsSpec)

/-- 'hachurelaw04.PointSpots', WHERE WHAT IT READS IS OF BULK AT MOST 1048576: true; the input reads as it did. -/
def pointSpotsUptoRow : OpenClaim := { program := "ytneklpbkfmljfaa", sum := "8f6a3681d6576eb8a2b6db201909850f75d978f766c964e740ec599e8dd72acf", func := "hachure/hachurelaw04.PointSpots", spec := "pointSpots", unfollowed := true, recurses := true, apart := false, narrowed := true }
def PointSpotsUptoSaid : Prop := pointSpotsUptoRow.holds Try.pinned (OpenSpec.upto pointSpotsSpec)

/-- 'hachurelaw04.PointSums', WHERE WHAT IT READS IS OF BULK AT MOST 1048576: true; the input reads as it did. -/
def pointSumsUptoRow : OpenClaim := { program := "ytneklpbkfmljfaa", sum := "8f6a3681d6576eb8a2b6db201909850f75d978f766c964e740ec599e8dd72acf", func := "hachure/hachurelaw04.PointSums", spec := "pointSums", unfollowed := true, recurses := true, apart := false, narrowed := true }
def PointSumsUptoSaid : Prop := pointSumsUptoRow.holds Try.pinned (OpenSpec.upto pointSumsSpec)

/-- 'hachurelaw06.RingChecks', WHERE WHAT IT READS IS OF BULK AT MOST 1048576: true; the input reads as it did. -/
def ringChecksUptoRow : OpenClaim := { program := "ytneklpbkfmljfaa", sum := "8f6a3681d6576eb8a2b6db201909850f75d978f766c964e740ec599e8dd72acf", func := "hachure/hachurelaw06.RingChecks", spec := "ringChecks", unfollowed := true, recurses := true, apart := false, narrowed := true }
def RingChecksUptoSaid : Prop := ringChecksUptoRow.holds Try.pinned (OpenSpec.upto ringChecksSpec)

/-- 'hachurelaw06.RingInside', WHERE WHAT IT READS IS OF BULK AT MOST 1048576: true; the input reads as it did. -/
def ringInsideUptoRow : OpenClaim := { program := "ytneklpbkfmljfaa", sum := "8f6a3681d6576eb8a2b6db201909850f75d978f766c964e740ec599e8dd72acf", func := "hachure/hachurelaw06.RingInside", spec := "ringInside", unfollowed := true, recurses := true, apart := false, narrowed := true }
def RingInsideUptoSaid : Prop := ringInsideUptoRow.holds Try.pinned (OpenSpec.upto ringInsideSpec)

/-- 'hachurelaw06.RingRays', WHERE WHAT IT READS IS OF BULK AT MOST 1048576: true; the input reads as it did. -/
def ringRaysUptoRow : OpenClaim := { program := "ytneklpbkfmljfaa", sum := "8f6a3681d6576eb8a2b6db201909850f75d978f766c964e740ec599e8dd72acf", func := "hachure/hachurelaw06.RingRays", spec := "ringRays", unfollowed := true, recurses := true, apart := false, narrowed := true }
def RingRaysUptoSaid : Prop := ringRaysUptoRow.holds Try.pinned (OpenSpec.upto ringRaysSpec)

/-- 'hachurelaw06.RingSpots', WHERE WHAT IT READS IS OF BULK AT MOST 1048576: true; the input reads as it did. -/
def ringSpotsUptoRow : OpenClaim := { program := "ytneklpbkfmljfaa", sum := "8f6a3681d6576eb8a2b6db201909850f75d978f766c964e740ec599e8dd72acf", func := "hachure/hachurelaw06.RingSpots", spec := "ringSpots", unfollowed := true, recurses := true, apart := false, narrowed := true }
def RingSpotsUptoSaid : Prop := ringSpotsUptoRow.holds Try.pinned (OpenSpec.upto ringSpotsSpec)

/-- 'hachurelaw06.RingArea', WHERE WHAT IT READS IS OF BULK AT MOST 1048576: true; the input reads as it did. -/
def ringAreaUptoRow : OpenClaim := { program := "ytneklpbkfmljfaa", sum := "8f6a3681d6576eb8a2b6db201909850f75d978f766c964e740ec599e8dd72acf", func := "hachure/hachurelaw06.RingArea", spec := "ringArea", unfollowed := true, recurses := true, apart := false, narrowed := true }
def RingAreaUptoSaid : Prop := ringAreaUptoRow.holds Try.pinned (OpenSpec.upto ringAreaSpec)

/-- 'hachurelaw06.RingMoves', WHERE WHAT IT READS IS OF BULK AT MOST 1048576: true; the input reads as it did. -/
def ringMovesUptoRow : OpenClaim := { program := "ytneklpbkfmljfaa", sum := "8f6a3681d6576eb8a2b6db201909850f75d978f766c964e740ec599e8dd72acf", func := "hachure/hachurelaw06.RingMoves", spec := "ringMoves", unfollowed := true, recurses := true, apart := false, narrowed := true }
def RingMovesUptoSaid : Prop := ringMovesUptoRow.holds Try.pinned (OpenSpec.upto ringMovesSpec)

/-- 'hachurelaw06.RingPick', WHERE WHAT IT READS IS OF BULK AT MOST 1048576: true; the input reads as it did. -/
def ringPickUptoRow : OpenClaim := { program := "ytneklpbkfmljfaa", sum := "8f6a3681d6576eb8a2b6db201909850f75d978f766c964e740ec599e8dd72acf", func := "hachure/hachurelaw06.RingPick", spec := "ringPick", unfollowed := true, recurses := true, apart := false, narrowed := true }
def RingPickUptoSaid : Prop := ringPickUptoRow.holds Try.pinned (OpenSpec.upto ringPickSpec)

/-- 'hachurelaw05.LineWithins', WHERE WHAT IT READS IS OF BULK AT MOST 1048576: true; the input reads as it did. -/
def lineWithinsUptoRow : OpenClaim := { program := "ytneklpbkfmljfaa", sum := "8f6a3681d6576eb8a2b6db201909850f75d978f766c964e740ec599e8dd72acf", func := "hachure/hachurelaw05.LineWithins", spec := "lineWithins", inPlace := ["math.sqrt"], unfollowed := true, recurses := true, apart := false, narrowed := true }
def LineWithinsUptoSaid : Prop := lineWithinsUptoRow.holds Try.pinned (OpenSpec.upto lineWithinsSpec)

/-- 'hachurelaw05.LineCrosses', WHERE WHAT IT READS IS OF BULK AT MOST 1048576: true; the input reads as it did. -/
def lineCrossesUptoRow : OpenClaim := { program := "ytneklpbkfmljfaa", sum := "8f6a3681d6576eb8a2b6db201909850f75d978f766c964e740ec599e8dd72acf", func := "hachure/hachurelaw05.LineCrosses", spec := "lineCrosses", inPlace := ["math.sqrt"], unfollowed := true, recurses := true, apart := false, narrowed := true }
def LineCrossesUptoSaid : Prop := lineCrossesUptoRow.holds Try.pinned (OpenSpec.upto lineCrossesSpec)

/-- 'hachurelaw05.LineNears', WHERE WHAT IT READS IS OF BULK AT MOST 1048576: true; the input reads as it did. -/
def lineNearsUptoRow : OpenClaim := { program := "ytneklpbkfmljfaa", sum := "8f6a3681d6576eb8a2b6db201909850f75d978f766c964e740ec599e8dd72acf", func := "hachure/hachurelaw05.LineNears", spec := "lineNears", inPlace := ["math.sqrt"], unfollowed := true, recurses := true, apart := false, narrowed := true }
def LineNearsUptoSaid : Prop := lineNearsUptoRow.holds Try.pinned (OpenSpec.upto lineNearsSpec)

/-- 'hachurelaw05.LineCorners', WHERE WHAT IT READS IS OF BULK AT MOST 1048576: true; the input reads as it did. -/
def lineCornersUptoRow : OpenClaim := { program := "ytneklpbkfmljfaa", sum := "8f6a3681d6576eb8a2b6db201909850f75d978f766c964e740ec599e8dd72acf", func := "hachure/hachurelaw05.LineCorners", spec := "lineCorners", inPlace := ["math.sqrt"], unfollowed := true, recurses := true, apart := false, narrowed := true }
def LineCornersUptoSaid : Prop := lineCornersUptoRow.holds Try.pinned (OpenSpec.upto lineCornersSpec)

end Rows
end Go.Proofs.Ytneklpbkfmljfaa
