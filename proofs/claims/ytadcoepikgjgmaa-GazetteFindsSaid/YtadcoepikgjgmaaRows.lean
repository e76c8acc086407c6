/-
  No cell of these rows narrows 'for every input' (looked for: loops, veiled, ifaces, maps, wideKeys, modest, calm, conditions, laid).
  DERIVED. THE GIVEN ROWS OF THIS SEAT. 6 by the template 'for every input the law returns true; each argument reads behind the call as it read before'; 0 by the template 'total and deterministic' (their statements: YtadcoepikgjgmaaTotals.lean).
  GIVEN WITH THE SEED: the statements are not yours to turn. If you find one false, say at which input.
  Laid BY PROGRAM, IN A SANDBOX (cutbox-rows.mjs): the forced cells as the released guide's own fill.sh prints them over the translation 76130587141c0cb6… (all of the seat's roots in one cut). By AI agents, Wed Nov 11 2026. No macro, syntax, notation, axiom, sorry.
-/
import Derived.Test.YtadcoepikgjgmaaChecked
import GoSem.Claim
import GoSem.ClaimJoined
import GoSem.ClaimMapViews
import Derived.JoinedTies
import Derived.KernelRfl
namespace Go.Proofs.Ytadcoepikgjgmaa
/- THE CELL 'sum', in the pinned program and in every row, IS THE sha256 OF THE DUMP (.gsa) THAT YtadcoepikgjgmaaProg.lean LOADS. Nothing in Lean hashes anything: it is a label: what it is worth is what the hold of that sum in a sandbox is worth. -/
noncomputable def Try.pinned : Pinned := { name := "ytadcoepikgjgmaa", sum := "76130587141c0cb60175ef6b5bd8ba8b7110465788505310e825bac39cd3d774", checked := Try.checked }
namespace Rows
def none {H : Type} : Left H := { results := [], args := [] }

/-- 'hachurelaw09.GazetteNames': WHATEVER THE INPUT: true; the input reads as it did. -/
def gazetteNamesSpec : ChangeSpec := { name := "gazetteNames", fn := fun _ => fun
  | [d1, d2] => { results := [.lit (.bool true)], args := [d1, d2] }
  | _ => none }
def gazetteNamesRow : OpenClaim := { program := "ytadcoepikgjgmaa", sum := "76130587141c0cb60175ef6b5bd8ba8b7110465788505310e825bac39cd3d774", func := "hachure/hachurelaw09.GazetteNames", spec := "gazetteNames", inPlace := ["internal/bytealg.abigen_runtime_cmpstring"], unfollowed := true, recurses := true, apart := false }
def GazetteNamesSaid : Prop := gazetteNamesRow.holds Try.pinned (OpenSpec.ofChange gazetteNamesSpec)

/-- ITS FALSE NEIGHBOUR: 'it returns false'. Refute it at one input. -/
def gazetteNamesWrong : ChangeSpec := { name := "gazetteNames", fn := fun _ => fun
  | [d1, d2] => { results := [.lit (.bool false)], args := [d1, d2] }
  | _ => none }
def GazetteNamesWrongFalsely : Prop := gazetteNamesRow.holds Try.pinned (OpenSpec.ofChange gazetteNamesWrong)

/-- 'hachurelaw09.GazetteFinds': WHATEVER THE INPUT: true; the input reads as it did. -/
def gazetteFindsSpec : ChangeSpec := { name := "gazetteFinds", fn := fun _ => fun
  | [d1, d2] => { results := [.lit (.bool true)], args := [d1, d2] }
  | _ => none }
def gazetteFindsRow : OpenClaim := { program := "ytadcoepikgjgmaa", sum := "76130587141c0cb60175ef6b5bd8ba8b7110465788505310e825bac39cd3d774", func := "hachure/hachurelaw09.GazetteFinds", spec := "gazetteFinds", inPlace := ["internal/bytealg.abigen_runtime_cmpstring"], unfollowed := true, recurses := true, apart := false }
def GazetteFindsSaid : Prop := gazetteFindsRow.holds Try.pinned (OpenSpec.ofChange gazetteFindsSpec)

/-- ITS FALSE NEIGHBOUR: 'it returns false'. Refute it at one input. -/
def gazetteFindsWrong : ChangeSpec := { name := "gazetteFinds", fn := fun _ => fun
  | [d1, d2] => { results := [.lit (.bool false)], args := [d1, d2] }
  | _ => none }
def GazetteFindsWrongFalsely : Prop := gazetteFindsRow.holds Try.pinned (OpenSpec.ofChange gazetteFindsWrong)

/-- 'hachurelaw09.GazetteOrder': WHATEVER THE INPUT: true; the input reads as it did. -/
def gazetteOrderSpec : ChangeSpec := { name := "gazetteOrder", fn := fun _ => fun
  | [d] => { results := [.lit (.bool true)], args := [d] }
  | _ => none }
def gazetteOrderRow : OpenClaim := { program := "ytadcoepikgjgmaa", sum := "76130587141c0cb60175ef6b5bd8ba8b7110465788505310e825bac39cd3d774", func := "hachure/hachurelaw09.GazetteOrder", spec := "gazetteOrder", inPlace := ["internal/bytealg.abigen_runtime_cmpstring"], unfollowed := true, recurses := true, apart := false }
def GazetteOrderSaid : Prop := gazetteOrderRow.holds Try.pinned (OpenSpec.ofChange gazetteOrderSpec)

/-- ITS FALSE NEIGHBOUR: 'it returns false'. Refute it at one input. -/
def gazetteOrderWrong : ChangeSpec := { name := "gazetteOrder", fn := fun _ => fun
  | [d] => { results := [.lit (.bool false)], args := [d] }
  | _ => none }
def GazetteOrderWrongFalsely : Prop := gazetteOrderRow.holds Try.pinned (OpenSpec.ofChange gazetteOrderWrong)

/-- 'hachurelaw09.GazettePrefix': WHATEVER THE INPUT: true; the input reads as it did. -/
def gazettePrefixSpec : ChangeSpec := { name := "gazettePrefix", fn := fun _ => fun
  | [d1, d2, d3] => { results := [.lit (.bool true)], args := [d1, d2, d3] }
  | _ => none }
def gazettePrefixRow : OpenClaim := { program := "ytadcoepikgjgmaa", sum := "76130587141c0cb60175ef6b5bd8ba8b7110465788505310e825bac39cd3d774", func := "hachure/hachurelaw09.GazettePrefix", spec := "gazettePrefix", inPlace := ["internal/bytealg.abigen_runtime_cmpstring"], unfollowed := true, recurses := true, apart := false }
def GazettePrefixSaid : Prop := gazettePrefixRow.holds Try.pinned (OpenSpec.ofChange gazettePrefixSpec)

/-- ITS FALSE NEIGHBOUR: 'it returns false'. Refute it at one input. -/
def gazettePrefixWrong : ChangeSpec := { name := "gazettePrefix", fn := fun _ => fun
  | [d1, d2, d3] => { results := [.lit (.bool false)], args := [d1, d2, d3] }
  | _ => none }
def GazettePrefixWrongFalsely : Prop := gazettePrefixRow.holds Try.pinned (OpenSpec.ofChange gazettePrefixWrong)

/-- 'hachurelaw09.GazetteTurns': WHATEVER THE INPUT: true; the input reads as it did. -/
def gazetteTurnsSpec : ChangeSpec := { name := "gazetteTurns", fn := fun _ => fun
  | [d1, d2, d3] => { results := [.lit (.bool true)], args := [d1, d2, d3] }
  | _ => none }
def gazetteTurnsRow : OpenClaim := { program := "ytadcoepikgjgmaa", sum := "76130587141c0cb60175ef6b5bd8ba8b7110465788505310e825bac39cd3d774", func := "hachure/hachurelaw09.GazetteTurns", spec := "gazetteTurns", inPlace := ["internal/bytealg.abigen_runtime_cmpstring"], unfollowed := true, recurses := true, apart := false }
def GazetteTurnsSaid : Prop := gazetteTurnsRow.holds Try.pinned (OpenSpec.ofChange gazetteTurnsSpec)

/-- ITS FALSE NEIGHBOUR: 'it returns false'. Refute it at one input. -/
def gazetteTurnsWrong : ChangeSpec := { name := "gazetteTurns", fn := fun _ => fun
  | [d1, d2, d3] => { results := [.lit (.bool false)], args := [d1, d2, d3] }
  | _ => none }
def GazetteTurnsWrongFalsely : Prop := gazetteTurnsRow.holds Try.pinned (OpenSpec.ofChange gazetteTurnsWrong)

/-- 'hachurelaw09.GazetteNamed': WHATEVER THE INPUT: true; the input reads as it did. -/
def gazetteNamedSpec : ChangeSpec := { name := "gazetteNamed", fn := fun _ => fun
  | [d1, d2] => { results := [.lit (.bool true)], args := [d1, d2] }
  | _ => none }
def gazetteNamedRow : OpenClaim := { program := "ytadcoepikgjgmaa", sum := "76130587141c0cb60175ef6b5bd8ba8b7110465788505310e825bac39cd3d774", func := "hachure/hachurelaw09.GazetteNamed", spec := "gazetteNamed", inPlace := ["internal/bytealg.abigen_runtime_cmpstring"], unfollowed := true, recurses := true, apart := false }
def GazetteNamedSaid : Prop := gazetteNamedRow.holds Try.pinned (OpenSpec.ofChange gazetteNamedSpec)

/-- ITS FALSE NEIGHBOUR: 'it returns false'. Refute it at one input. -/
def gazetteNamedWrong : ChangeSpec := { name := "gazetteNamed", fn := fun _ => fun
  | [d1, d2] => { results := [.lit (.bool false)], args := [d1, d2] }
  | _ => none }
def GazetteNamedWrongFalsely : Prop := gazetteNamedRow.holds Try.pinned (OpenSpec.ofChange gazetteNamedWrong)

/- THE SECOND FORM. 'bulk': how many values and letters a reading holds, each counted each time it is reached (what is shared counts as often as it is met; a slice's spare places count too). A statement '..UptoSaid' is the law's where the arguments, and the package variables that the reading takes, are together of bulk at most 1048576: NARROWER than '..Said'. Prove '..Said' where nothing that the law and all that it calls make is longer than what came in: it says more and counts as full. Else prove '..UptoSaid'. A law counts once. -/
mutual
def uptoBulk {H : Type} : DataW H → Nat
  | .lit (.string bytes) => bytes.length + 1
  | .lit _ => 1
  | .nil => 1
  | .ptr d => uptoBulk d + 1
  | .slice elems spare => uptoBulkAll elems + uptoBulkAll spare + 1
  | .agg parts => uptoBulkAll parts + 1
  | .iface _ d => uptoBulk d + 1
  | .map entries => uptoBulkEntries entries + 1
  | .held _ => 1
def uptoBulkAll {H : Type} : List (DataW H) → Nat
  | [] => 0
  | d :: r => uptoBulk d + uptoBulkAll r
def uptoBulkEntries {H : Type} : List (Lit × DataW H) → Nat
  | [] => 0
  | x :: r => uptoBulkEntry x + uptoBulkEntries r
def uptoBulkEntry {H : Type} : Lit × DataW H → Nat
  | (.string bytes, d) => bytes.length + uptoBulk d + 1
  | (_, d) => uptoBulk d + 1
 end
def uptoSmall : (H : Type) → List (DataW H) → Bool := fun _ ds => decide (uptoBulkAll ds ≤ 1048576)
def OpenSpec.upto (s : _root_.Go.ChangeSpec) : _root_.Go.OpenSpec := { _root_.Go.OpenSpec.ofChange s with cond := some uptoSmall }

/-- 'hachurelaw09.GazetteNames', WHERE WHAT IT READS IS OF BULK AT MOST 1048576: true; the input reads as it did. -/
def gazetteNamesUptoRow : OpenClaim := { program := "ytadcoepikgjgmaa", sum := "76130587141c0cb60175ef6b5bd8ba8b7110465788505310e825bac39cd3d774", func := "hachure/hachurelaw09.GazetteNames", spec := "gazetteNames", inPlace := ["internal/bytealg.abigen_runtime_cmpstring"], unfollowed := true, recurses := true, apart := false, narrowed := true }
def GazetteNamesUptoSaid : Prop := gazetteNamesUptoRow.holds Try.pinned (OpenSpec.upto gazetteNamesSpec)

/-- 'hachurelaw09.GazetteFinds', WHERE WHAT IT READS IS OF BULK AT MOST 1048576: true; the input reads as it did. -/
def gazetteFindsUptoRow : OpenClaim := { program := "ytadcoepikgjgmaa", sum := "76130587141c0cb60175ef6b5bd8ba8b7110465788505310e825bac39cd3d774", func := "hachure/hachurelaw09.GazetteFinds", spec := "gazetteFinds", inPlace := ["internal/bytealg.abigen_runtime_cmpstring"], unfollowed := true, recurses := true, apart := false, narrowed := true }
def GazetteFindsUptoSaid : Prop := gazetteFindsUptoRow.holds Try.pinned (OpenSpec.upto gazetteFindsSpec)

/-- 'hachurelaw09.GazetteOrder', WHERE WHAT IT READS IS OF BULK AT MOST 1048576: true; the input reads as it did. -/
def gazetteOrderUptoRow : OpenClaim := { program := "ytadcoepikgjgmaa", sum := "76130587141c0cb60175ef6b5bd8ba8b7110465788505310e825bac39cd3d774", func := "hachure/hachurelaw09.GazetteOrder", spec := "gazetteOrder", inPlace := ["internal/bytealg.abigen_runtime_cmpstring"], unfollowed := true, recurses := true, apart := false, narrowed := true }
def GazetteOrderUptoSaid : Prop := gazetteOrderUptoRow.holds Try.pinned (OpenSpec.upto gazetteOrderSpec)

/-- 'hachurelaw09.GazettePrefix', WHERE WHAT IT READS IS OF BULK AT MOST 1048576: true; the input reads as it did. -/
def gazettePrefixUptoRow : OpenClaim := { program := "ytadcoepikgjgmaa", sum := "76130587141c0cb60175ef6b5bd8ba8b7110465788505310e825bac39cd3d774", func := "hachure/hachurelaw09.GazettePrefix", spec := "gazettePrefix", inPlace := ["internal/bytealg.abigen_runtime_cmpstring"], unfollowed := true, recurses := true, apart := false, narrowed := true }
def GazettePrefixUptoSaid : Prop := gazettePrefixUptoRow.holds Try.pinned (OpenSpec.upto gazettePrefixSpec)

/-- 'hachurelaw09.GazetteTurns', WHERE WHAT IT READS IS OF BULK AT MOST 1048576: true; the input reads as it did. -/
def gazetteTurnsUptoRow : OpenClaim := { program := "ytadcoepikgjgmaa", sum := "76130587141c0cb60175ef6b5bd8ba8b7110465788505310e825bac39cd3d774", func := "hachure/hachurelaw09.GazetteTurns", spec := "gazetteTurns", inPlace := ["internal/bytealg.abigen_runtime_cmpstring"], unfollowed := true, recurses := true, apart := false, narrowed := true }
def GazetteTurnsUptoSaid : Prop := gazetteTurnsUptoRow.holds Try.pinned (OpenSpec.upto gazetteTurnsSpec)

/-- 'hachurelaw09.GazetteNamed', WHERE WHAT IT READS IS OF BULK AT MOST 1048576: true; the input reads as it did. -/
def gazetteNamedUptoRow : OpenClaim := { program := "ytadcoepikgjgmaa", sum := "76130587141c0cb60175ef6b5bd8ba8b7110465788505310e825bac39cd3d774", func := "hachure/hachurelaw09.GazetteNamed", spec := "gazetteNamed", inPlace := ["internal/bytealg.abigen_runtime_cmpstring"], unfollowed := true, recurses := true, apart := false, narrowed := true }
def GazetteNamedUptoSaid : Prop := gazetteNamedUptoRow.holds Try.pinned (OpenSpec.upto gazetteNamedSpec)

end Rows
end Go.Proofs.Ytadcoepikgjgmaa
