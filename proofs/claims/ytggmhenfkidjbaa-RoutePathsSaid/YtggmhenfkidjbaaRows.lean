/-
  No cell of these rows narrows 'for every input' (looked for: loops, veiled, ifaces, maps, wideKeys, modest, calm, conditions, laid).
  DERIVED. THE GIVEN ROWS OF THIS SEAT. 5 by the template 'for every input the law returns true; each argument reads behind the call as it read before'; 0 by the template 'total and deterministic' (their statements: YtggmhenfkidjbaaTotals.lean).
  GIVEN WITH THE SEED: the statements are not yours to turn. If you find one false, say at which input.
  Laid BY PROGRAM, IN A SANDBOX (cutbox-rows.mjs): the forced cells as the released guide's own fill.sh prints them over the translation 2e1056161200f99c… (all of the seat's roots in one cut). By AI agents, Wed Nov 11 2026. No macro, syntax, notation, axiom, sorry.
-/
import Derived.Test.YtggmhenfkidjbaaChecked
import GoSem.Claim
import GoSem.ClaimJoined
import GoSem.ClaimMapViews
import Derived.JoinedTies
import Derived.KernelRfl
namespace Go.Proofs.Ytggmhenfkidjbaa
/- THE CELL 'sum', in the pinned program and in every row, IS THE sha256 OF THE DUMP (.gsa) THAT YtggmhenfkidjbaaProg.lean LOADS. Nothing in Lean hashes anything: it is a label: what it is worth is what the hold of that sum in a sandbox is worth. -/
noncomputable def Try.pinned : Pinned := { name := "ytggmhenfkidjbaa", sum := "2e1056161200f99c11abde0049fa85e615809fbd9b75dca08d667a6b884feec8", checked := Try.checked }
namespace Rows
def none {H : Type} : Left H := { results := [], args := [] }

/-- 'hachurelaw31.RoutePaths': WHATEVER THE INPUT: true; the input reads as it did. -/
def routePathsSpec : ChangeSpec := { name := "routePaths", fn := fun _ => fun
  | [d1, d2, d3] => { results := [.lit (.bool true)], args := [d1, d2, d3] }
  | _ => none }
def routePathsRow : OpenClaim := { program := "ytggmhenfkidjbaa", sum := "2e1056161200f99c11abde0049fa85e615809fbd9b75dca08d667a6b884feec8", func := "hachure/hachurelaw31.RoutePaths", spec := "routePaths", inPlace := ["math.sqrt"], unfollowed := true, recurses := true, plainKeys := false, apart := false }
def RoutePathsSaid : Prop := routePathsRow.holds Try.pinned (OpenSpec.ofChange routePathsSpec)

/-- ITS FALSE NEIGHBOUR: 'it returns false'. Refute it at one input. -/
def routePathsWrong : ChangeSpec := { name := "routePaths", fn := fun _ => fun
  | [d1, d2, d3] => { results := [.lit (.bool false)], args := [d1, d2, d3] }
  | _ => none }
def RoutePathsWrongFalsely : Prop := routePathsRow.holds Try.pinned (OpenSpec.ofChange routePathsWrong)

/-- 'hachurelaw31.RouteChecks': WHATEVER THE INPUT: true; the input reads as it did. -/
def routeChecksSpec : ChangeSpec := { name := "routeChecks", fn := fun _ => fun
  | [d1, d2, d3] => { results := [.lit (.bool true)], args := [d1, d2, d3] }
  | _ => none }
def routeChecksRow : OpenClaim := { program := "ytggmhenfkidjbaa", sum := "2e1056161200f99c11abde0049fa85e615809fbd9b75dca08d667a6b884feec8", func := "hachure/hachurelaw31.RouteChecks", spec := "routeChecks", inPlace := ["math.sqrt"], unfollowed := true, recurses := true, plainKeys := false, apart := false }
def RouteChecksSaid : Prop := routeChecksRow.holds Try.pinned (OpenSpec.ofChange routeChecksSpec)

/-- ITS FALSE NEIGHBOUR: 'it returns false'. Refute it at one input. -/
def routeChecksWrong : ChangeSpec := { name := "routeChecks", fn := fun _ => fun
  | [d1, d2, d3] => { results := [.lit (.bool false)], args := [d1, d2, d3] }
  | _ => none }
def RouteChecksWrongFalsely : Prop := routeChecksRow.holds Try.pinned (OpenSpec.ofChange routeChecksWrong)

/-- 'hachurelaw31.RouteLeast': WHATEVER THE INPUT: true; the input reads as it did. -/
def routeLeastSpec : ChangeSpec := { name := "routeLeast", fn := fun _ => fun
  | [d] => { results := [.lit (.bool true)], args := [d] }
  | _ => none }
def routeLeastRow : OpenClaim := { program := "ytggmhenfkidjbaa", sum := "2e1056161200f99c11abde0049fa85e615809fbd9b75dca08d667a6b884feec8", func := "hachure/hachurelaw31.RouteLeast", spec := "routeLeast", inPlace := ["math.sqrt"], unfollowed := true, recurses := true, plainKeys := false, apart := false }
def RouteLeastSaid : Prop := routeLeastRow.holds Try.pinned (OpenSpec.ofChange routeLeastSpec)

/-- ITS FALSE NEIGHBOUR: 'it returns false'. Refute it at one input. -/
def routeLeastWrong : ChangeSpec := { name := "routeLeast", fn := fun _ => fun
  | [d] => { results := [.lit (.bool false)], args := [d] }
  | _ => none }
def RouteLeastWrongFalsely : Prop := routeLeastRow.holds Try.pinned (OpenSpec.ofChange routeLeastWrong)

/-- 'hachurelaw31.RouteTurns': WHATEVER THE INPUT: true; the input reads as it did. -/
def routeTurnsSpec : ChangeSpec := { name := "routeTurns", fn := fun _ => fun
  | [d1, d2] => { results := [.lit (.bool true)], args := [d1, d2] }
  | _ => none }
def routeTurnsRow : OpenClaim := { program := "ytggmhenfkidjbaa", sum := "2e1056161200f99c11abde0049fa85e615809fbd9b75dca08d667a6b884feec8", func := "hachure/hachurelaw31.RouteTurns", spec := "routeTurns", inPlace := ["math.sqrt"], unfollowed := true, recurses := true, plainKeys := false, apart := false }
def RouteTurnsSaid : Prop := routeTurnsRow.holds Try.pinned (OpenSpec.ofChange routeTurnsSpec)

/-- ITS FALSE NEIGHBOUR: 'it returns false'. Refute it at one input. -/
def routeTurnsWrong : ChangeSpec := { name := "routeTurns", fn := fun _ => fun
  | [d1, d2] => { results := [.lit (.bool false)], args := [d1, d2] }
  | _ => none }
def RouteTurnsWrongFalsely : Prop := routeTurnsRow.holds Try.pinned (OpenSpec.ofChange routeTurnsWrong)

/-- 'hachurelaw31.RouteEntries': WHATEVER THE INPUT: true; the input reads as it did. -/
def routeEntriesSpec : ChangeSpec := { name := "routeEntries", fn := fun _ => fun
  | [d1, d2] => { results := [.lit (.bool true)], args := [d1, d2] }
  | _ => none }
def routeEntriesRow : OpenClaim := { program := "ytggmhenfkidjbaa", sum := "2e1056161200f99c11abde0049fa85e615809fbd9b75dca08d667a6b884feec8", func := "hachure/hachurelaw31.RouteEntries", spec := "routeEntries", inPlace := ["math.sqrt"], unfollowed := true, recurses := true, plainKeys := false, apart := false }
def RouteEntriesSaid : Prop := routeEntriesRow.holds Try.pinned (OpenSpec.ofChange routeEntriesSpec)

/-- ITS FALSE NEIGHBOUR: 'it returns false'. Refute it at one input. -/
def routeEntriesWrong : ChangeSpec := { name := "routeEntries", fn := fun _ => fun
  | [d1, d2] => { results := [.lit (.bool false)], args := [d1, d2] }
  | _ => none }
def RouteEntriesWrongFalsely : Prop := routeEntriesRow.holds Try.pinned (OpenSpec.ofChange routeEntriesWrong)

/- THE SECOND FORM. 'bulk': how many values and letters a reading holds, each counted each time it is reached (what is shared counts as often as it is met; a slice's spare places count too). A statement '..UptoSaid' is the law's where the arguments, and the package variables that the reading takes, are together of bulk at most 1048576: NARROWER than '..Said'. Prove '..Said' where nothing that the law and all that it calls make is longer than what came in: it says more and counts as full. Else prove '..UptoSaid'. A law counts once. -/
mutual
def uptoBulk {H : Type} : DataW H → Nat
  | .lit (.string bytes) => bytes.length + 1
  | .lit _ => 1
  | .nil => 1
  | .ptr d => uptoBulk d + 1
  | .slice elems spare => uptoBulkAll elems + uptoBulkAll spare + 1
  | .agg parts => uptoBulkAll parts + 1
  | .iface _ d => uptoBulk d + 1
  | .map entries => uptoBulkEntries entries + 1
  | .held _ => 1
def uptoBulkAll {H : Type} : List (DataW H) → Nat
  | [] => 0
  | d :: r => uptoBulk d + uptoBulkAll r
def uptoBulkEntries {H : Type} : List (Lit × DataW H) → Nat
  | [] => 0
  | x :: r => uptoBulkEntry x + uptoBulkEntries r
def uptoBulkEntry {H : Type} : Lit × DataW H → Nat
  | (.string bytes, d) => bytes.length + uptoBulk d + 1
  | (_, d) => uptoBulk d + 1
 end
def uptoSmall : (H : Type) → List (DataW H) → Bool := fun _ ds => decide (uptoBulkAll ds ≤ 1048576)
def OpenSpec.upto (s : _root_.Go.ChangeSpec) : _root_.Go.OpenSpec := { _root_.Go.OpenSpec.ofChange s with cond := some uptoSmall }

/-- 'hachurelaw31.RoutePaths', WHERE WHAT IT READS IS OF BULK AT MOST 1048576: true; the input reads as it did. -/
def routePathsUptoRow : OpenClaim := { program := "ytggmhenfkidjbaa", sum := "2e1056161200f99c11abde0049fa85e615809fbd9b75dca08d667a6b884feec8", func := "hachure/hachurelaw31.RoutePaths", spec := "routePaths", inPlace := ["math.sqrt"], unfollowed := true, recurses := true, plainKeys := false, apart := false, narrowed := true }
def RoutePathsUptoSaid : Prop := routePathsUptoRow.holds Try.pinned (OpenSpec.upto routePathsSpec)

/-- 'hachurelaw31.RouteChecks', WHERE WHAT IT READS IS OF BULK AT MOST 1048576: true; the input reads as it did. -/
def routeChecksUptoRow : OpenClaim := { program := "ytggmhenfkidjbaa", sum := "2e1056161200f99c11abde0049fa85e615809fbd9b75dca08d667a6b884feec8", func := "hachure/hachurelaw31.RouteChecks", spec := "routeChecks", inPlace := ["math.sqrt"], unfollowed := true, recurses := true, plainKeys := false, apart := false, narrowed := true }
def RouteChecksUptoSaid : Prop := routeChecksUptoRow.holds Try.pinned (OpenSpec.upto routeChecksSpec)

/-- 'hachurelaw31.RouteLeast', WHERE WHAT IT READS IS OF BULK AT MOST 1048576: true; the input reads as it did. -/
def routeLeastUptoRow : OpenClaim := { program := "ytggmhenfkidjbaa", sum := "2e1056161200f99c11abde0049fa85e615809fbd9b75dca08d667a6b884feec8", func := "hachure/hachurelaw31.RouteLeast", spec := "routeLeast", inPlace := ["math.sqrt"], unfollowed := true, recurses := true, plainKeys := false, apart := false, narrowed := true }
def RouteLeastUptoSaid : Prop := routeLeastUptoRow.holds Try.pinned (OpenSpec.upto routeLeastSpec)

/-- 'hachurelaw31.RouteTurns', WHERE WHAT IT READS IS OF BULK AT MOST 1048576: true; the input reads as it did. -/
def routeTurnsUptoRow : OpenClaim := { program := "ytggmhenfkidjbaa", sum := "2e1056161200f99c11abde0049fa85e615809fbd9b75dca08d667a6b884feec8", func := "hachure/hachurelaw31.RouteTurns", spec := "routeTurns", inPlace := ["math.sqrt"], unfollowed := true, recurses := true, plainKeys := false, apart := false, narrowed := true }
def RouteTurnsUptoSaid : Prop := routeTurnsUptoRow.holds Try.pinned (OpenSpec.upto routeTurnsSpec)

/-- 'hachurelaw31.RouteEntries', WHERE WHAT IT READS IS OF BULK AT MOST 1048576: true; the input reads as it did. -/
def routeEntriesUptoRow : OpenClaim := { program := "ytggmhenfkidjbaa", sum := "2e1056161200f99c11abde0049fa85e615809fbd9b75dca08d667a6b884feec8", func := "hachure/hachurelaw31.RouteEntries", spec := "routeEntries", inPlace := ["math.sqrt"], unfollowed := true, recurses := true, plainKeys := false, apart := false, narrowed := true }
def RouteEntriesUptoSaid : Prop := routeEntriesUptoRow.holds Try.pinned (OpenSpec.upto routeEntriesSpec)

end Rows
end Go.Proofs.Ytggmhenfkidjbaa
