/-
  No cell of these rows narrows 'for every input' (looked for: loops, veiled, ifaces, maps, wideKeys, modest, calm, conditions, laid).
  DERIVED. THE GIVEN ROWS OF THIS SEAT. 7 by the template 'for every input the law returns true; each argument reads behind the call as it read before'; 0 by the template 'total and deterministic' (their statements: YtliaeiggcleoaaaGreatTotals.lean).
  GIVEN WITH THE SEED: the statements are not yours to turn. If you find one false, say at which input.
  Laid BY PROGRAM, IN A SANDBOX (cutbox-rows.mjs): the forced cells as the released guide's own fill.sh prints them over the translation f2f2c2869a5c205f… (all of the seat's roots in one cut). By AI agents, Wed Nov 11 2026. No macro, syntax, notation, axiom, sorry.
-/
import Derived.Test.YtliaeiggcleoaaaGreatChecked
import GoSem.Claim
import GoSem.ClaimJoined
import GoSem.ClaimMapViews
import Derived.JoinedTies
import Derived.KernelRfl
namespace Go.Proofs.YtliaeiggcleoaaaGreat
/- THE CELL 'sum', in the pinned program and in every row, IS THE sha256 OF THE DUMP (.gsa) THAT YtliaeiggcleoaaaGreatProg.lean LOADS. Nothing in Lean hashes anything: it is a label: what it is worth is what the hold of that sum in a sandbox is worth. -/
noncomputable def Tryz.pinned : Pinned := { name := "ytliaeiggcleoaaagreat", sum := "f2f2c2869a5c205fd5c43596c8415e9ec36afae9dfa41226d3e388907ebbb754", checked := Tryz.checked }
namespace Rows
def none {H : Type} : Left H := { results := [], args := [] }

/-- 'hachurelaw08.NetworkChecks': WHATEVER THE INPUT: true; the input reads as it did. -/
def networkChecksSpec : ChangeSpec := { name := "networkChecks", fn := fun _ => fun
  | [d1, d2] => { results := [.lit (.bool true)], args := [d1, d2] }
  | _ => none }
def networkChecksRow : OpenClaim := { program := "ytliaeiggcleoaaagreat", sum := "f2f2c2869a5c205fd5c43596c8415e9ec36afae9dfa41226d3e388907ebbb754", func := "hachure/hachurelaw08.NetworkChecks", spec := "networkChecks", unfollowed := true, recurses := true, plainKeys := false, apart := false }
def NetworkChecksSaid : Prop := networkChecksRow.holds Tryz.pinned (OpenSpec.ofChange networkChecksSpec)

/-- ITS FALSE NEIGHBOUR: 'it returns false'. Refute it at one input. -/
def networkChecksWrong : ChangeSpec := { name := "networkChecks", fn := fun _ => fun
  | [d1, d2] => { results := [.lit (.bool false)], args := [d1, d2] }
  | _ => none }
def NetworkChecksWrongFalsely : Prop := networkChecksRow.holds Tryz.pinned (OpenSpec.ofChange networkChecksWrong)

/-- 'hachurelaw08.NetworkFine': WHATEVER THE INPUT: true; the input reads as it did. -/
def networkFineSpec : ChangeSpec := { name := "networkFine", fn := fun _ => fun
  | [d1, d2] => { results := [.lit (.bool true)], args := [d1, d2] }
  | _ => none }
def networkFineRow : OpenClaim := { program := "ytliaeiggcleoaaagreat", sum := "f2f2c2869a5c205fd5c43596c8415e9ec36afae9dfa41226d3e388907ebbb754", func := "hachure/hachurelaw08.NetworkFine", spec := "networkFine", unfollowed := true, recurses := true, plainKeys := false, apart := false }
def NetworkFineSaid : Prop := networkFineRow.holds Tryz.pinned (OpenSpec.ofChange networkFineSpec)

/-- ITS FALSE NEIGHBOUR: 'it returns false'. Refute it at one input. -/
def networkFineWrong : ChangeSpec := { name := "networkFine", fn := fun _ => fun
  | [d1, d2] => { results := [.lit (.bool false)], args := [d1, d2] }
  | _ => none }
def NetworkFineWrongFalsely : Prop := networkFineRow.holds Tryz.pinned (OpenSpec.ofChange networkFineWrong)

/-- 'hachurelaw08.NetworkGroups': WHATEVER THE INPUT: true; the input reads as it did. -/
def networkGroupsSpec : ChangeSpec := { name := "networkGroups", fn := fun _ => fun
  | [d] => { results := [.lit (.bool true)], args := [d] }
  | _ => none }
def networkGroupsRow : OpenClaim := { program := "ytliaeiggcleoaaagreat", sum := "f2f2c2869a5c205fd5c43596c8415e9ec36afae9dfa41226d3e388907ebbb754", func := "hachure/hachurelaw08.NetworkGroups", spec := "networkGroups", unfollowed := true, recurses := true, plainKeys := false, apart := false }
def NetworkGroupsSaid : Prop := networkGroupsRow.holds Tryz.pinned (OpenSpec.ofChange networkGroupsSpec)

/-- ITS FALSE NEIGHBOUR: 'it returns false'. Refute it at one input. -/
def networkGroupsWrong : ChangeSpec := { name := "networkGroups", fn := fun _ => fun
  | [d] => { results := [.lit (.bool false)], args := [d] }
  | _ => none }
def NetworkGroupsWrongFalsely : Prop := networkGroupsRow.holds Tryz.pinned (OpenSpec.ofChange networkGroupsWrong)

/-- 'hachurelaw08.NetworkMore': WHATEVER THE INPUT: true; the input reads as it did. -/
def networkMoreSpec : ChangeSpec := { name := "networkMore", fn := fun _ => fun
  | [d] => { results := [.lit (.bool true)], args := [d] }
  | _ => none }
def networkMoreRow : OpenClaim := { program := "ytliaeiggcleoaaagreat", sum := "f2f2c2869a5c205fd5c43596c8415e9ec36afae9dfa41226d3e388907ebbb754", func := "hachure/hachurelaw08.NetworkMore", spec := "networkMore", unfollowed := true, recurses := true, plainKeys := false, apart := false }
def NetworkMoreSaid : Prop := networkMoreRow.holds Tryz.pinned (OpenSpec.ofChange networkMoreSpec)

/-- ITS FALSE NEIGHBOUR: 'it returns false'. Refute it at one input. -/
def networkMoreWrong : ChangeSpec := { name := "networkMore", fn := fun _ => fun
  | [d] => { results := [.lit (.bool false)], args := [d] }
  | _ => none }
def NetworkMoreWrongFalsely : Prop := networkMoreRow.holds Tryz.pinned (OpenSpec.ofChange networkMoreWrong)

/-- 'hachurelaw08.NetworkTurns': WHATEVER THE INPUT: true; the input reads as it did. -/
def networkTurnsSpec : ChangeSpec := { name := "networkTurns", fn := fun _ => fun
  | [d1, d2, d3] => { results := [.lit (.bool true)], args := [d1, d2, d3] }
  | _ => none }
def networkTurnsRow : OpenClaim := { program := "ytliaeiggcleoaaagreat", sum := "f2f2c2869a5c205fd5c43596c8415e9ec36afae9dfa41226d3e388907ebbb754", func := "hachure/hachurelaw08.NetworkTurns", spec := "networkTurns", unfollowed := true, recurses := true, plainKeys := false, apart := false }
def NetworkTurnsSaid : Prop := networkTurnsRow.holds Tryz.pinned (OpenSpec.ofChange networkTurnsSpec)

/-- ITS FALSE NEIGHBOUR: 'it returns false'. Refute it at one input. -/
def networkTurnsWrong : ChangeSpec := { name := "networkTurns", fn := fun _ => fun
  | [d1, d2, d3] => { results := [.lit (.bool false)], args := [d1, d2, d3] }
  | _ => none }
def NetworkTurnsWrongFalsely : Prop := networkTurnsRow.holds Tryz.pinned (OpenSpec.ofChange networkTurnsWrong)

/-- 'hachurelaw14.ThinCans': WHATEVER THE INPUT: true; the input reads as it did. -/
def thinCansSpec : ChangeSpec := { name := "thinCans", fn := fun _ => fun
  | [d1, d2, d3] => { results := [.lit (.bool true)], args := [d1, d2, d3] }
  | _ => none }
def thinCansRow : OpenClaim := { program := "ytliaeiggcleoaaagreat", sum := "f2f2c2869a5c205fd5c43596c8415e9ec36afae9dfa41226d3e388907ebbb754", func := "hachure/hachurelaw14.ThinCans", spec := "thinCans", unfollowed := true, recurses := true, plainKeys := false, apart := false }
def ThinCansSaid : Prop := thinCansRow.holds Tryz.pinned (OpenSpec.ofChange thinCansSpec)

/-- ITS FALSE NEIGHBOUR: 'it returns false'. Refute it at one input. -/
def thinCansWrong : ChangeSpec := { name := "thinCans", fn := fun _ => fun
  | [d1, d2, d3] => { results := [.lit (.bool false)], args := [d1, d2, d3] }
  | _ => none }
def ThinCansWrongFalsely : Prop := thinCansRow.holds Tryz.pinned (OpenSpec.ofChange thinCansWrong)

/-- 'hachurelaw14.ThinKeeps': WHATEVER THE INPUT: true; the input reads as it did. -/
def thinKeepsSpec : ChangeSpec := { name := "thinKeeps", fn := fun _ => fun
  | [d1, d2, d3] => { results := [.lit (.bool true)], args := [d1, d2, d3] }
  | _ => none }
def thinKeepsRow : OpenClaim := { program := "ytliaeiggcleoaaagreat", sum := "f2f2c2869a5c205fd5c43596c8415e9ec36afae9dfa41226d3e388907ebbb754", func := "hachure/hachurelaw14.ThinKeeps", spec := "thinKeeps", unfollowed := true, recurses := true, plainKeys := false, apart := false }
def ThinKeepsSaid : Prop := thinKeepsRow.holds Tryz.pinned (OpenSpec.ofChange thinKeepsSpec)

/-- ITS FALSE NEIGHBOUR: 'it returns false'. Refute it at one input. -/
def thinKeepsWrong : ChangeSpec := { name := "thinKeeps", fn := fun _ => fun
  | [d1, d2, d3] => { results := [.lit (.bool false)], args := [d1, d2, d3] }
  | _ => none }
def ThinKeepsWrongFalsely : Prop := thinKeepsRow.holds Tryz.pinned (OpenSpec.ofChange thinKeepsWrong)

/- THE SECOND FORM. 'bulk': how many values and letters a reading holds, each counted each time it is reached (what is shared counts as often as it is met; a slice's spare places count too). A statement '..UptoSaid' is the law's where the arguments, and the package variables that the reading takes, are together of bulk at most 1048576: NARROWER than '..Said'. Prove '..Said' where nothing that the law and all that it calls make is longer than what came in: it says more and counts as full. Else prove '..UptoSaid'. A law counts once. -/
mutual
def uptoBulk {H : Type} : DataW H → Nat
  | .lit (.string bytes) => bytes.length + 1
  | .lit _ => 1
  | .nil => 1
  | .ptr d => uptoBulk d + 1
  | .slice elems spare => uptoBulkAll elems + uptoBulkAll spare + 1
  | .agg parts => uptoBulkAll parts + 1
  | .iface _ d => uptoBulk d + 1
  | .map entries => uptoBulkEntries entries + 1
  | .held _ => 1
def uptoBulkAll {H : Type} : List (DataW H) → Nat
  | [] => 0
  | d :: r => uptoBulk d + uptoBulkAll r
def uptoBulkEntries {H : Type} : List (Lit × DataW H) → Nat
  | [] => 0
  | x :: r => uptoBulkEntry x + uptoBulkEntries r
def uptoBulkEntry {H : Type} : Lit × DataW H → Nat
  | (.string bytes, d) => bytes.length + uptoBulk d + 1
  | (_, d) => uptoBulk d + 1
 end
def uptoSmall : (H : Type) → List (DataW H) → Bool := fun _ ds => decide (uptoBulkAll ds ≤ 1048576)
def OpenSpec.upto (s : _root_.Go.ChangeSpec) : _root_.Go.OpenSpec := { _root_.Go.OpenSpec.ofChange s with cond := some uptoSmall }

/-- 'hachurelaw08.NetworkChecks', WHERE WHAT IT READS IS OF BULK AT MOST 1048576: true; the input reads as it did. -/
def networkChecksUptoRow : OpenClaim := { program := "ytliaeiggcleoaaagreat", sum := "f2f2c2869a5c205fd5c43596c8415e9ec36afae9dfa41226d3e388907ebbb754", func := "hachure/hachurelaw08.NetworkChecks", spec := "networkChecks", unfollowed := true, recurses := true, plainKeys := false, apart := false, narrowed := true }
def NetworkChecksUptoSaid : Prop := networkChecksUptoRow.holds Tryz.pinned (OpenSpec.upto networkChecksSpec)

/-- 'hachurelaw08.NetworkFine', WHERE WHAT IT READS IS OF BULK AT MOST 1048576: true; the input reads as it did. -/
def networkFineUptoRow : OpenClaim := { program := "ytliaeiggcleoaaagreat", sum := "f2f2c2869a5c205fd5c43596c8415e9ec36afae9dfa41226d3e388907ebbb754", func := "hachure/hachurelaw08.NetworkFine", spec := "networkFine", unfollowed := true, recurses := true, plainKeys := false, apart := false, narrowed := true }
def NetworkFineUptoSaid : Prop := networkFineUptoRow.holds Tryz.pinned (OpenSpec.upto networkFineSpec)

/-- 'hachurelaw08.NetworkGroups', WHERE WHAT IT READS IS OF BULK AT MOST 1048576: true; the input reads as it did. -/
def networkGroupsUptoRow : OpenClaim := { program := "ytliaeiggcleoaaagreat", sum := "f2f2c2869a5c205fd5c43596c8415e9ec36afae9dfa41226d3e388907ebbb754", func := "hachure/hachurelaw08.NetworkGroups", spec := "networkGroups", unfollowed := true, recurses := true, plainKeys := false, apart := false, narrowed := true }
def NetworkGroupsUptoSaid : Prop := networkGroupsUptoRow.holds Tryz.pinned (OpenSpec.upto networkGroupsSpec)

/-- 'hachurelaw08.NetworkMore', WHERE WHAT IT READS IS OF BULK AT MOST 1048576: true; the input reads as it did. -/
def networkMoreUptoRow : OpenClaim := { program := "ytliaeiggcleoaaagreat", sum := "f2f2c2869a5c205fd5c43596c8415e9ec36afae9dfa41226d3e388907ebbb754", func := "hachure/hachurelaw08.NetworkMore", spec := "networkMore", unfollowed := true, recurses := true, plainKeys := false, apart := false, narrowed := true }
def NetworkMoreUptoSaid : Prop := networkMoreUptoRow.holds Tryz.pinned (OpenSpec.upto networkMoreSpec)

/-- 'hachurelaw08.NetworkTurns', WHERE WHAT IT READS IS OF BULK AT MOST 1048576: true; the input reads as it did. -/
def networkTurnsUptoRow : OpenClaim := { program := "ytliaeiggcleoaaagreat", sum := "f2f2c2869a5c205fd5c43596c8415e9ec36afae9dfa41226d3e388907ebbb754", func := "hachure/hachurelaw08.NetworkTurns", spec := "networkTurns", unfollowed := true, recurses := true, plainKeys := false, apart := false, narrowed := true }
def NetworkTurnsUptoSaid : Prop := networkTurnsUptoRow.holds Tryz.pinned (OpenSpec.upto networkTurnsSpec)

/-- 'hachurelaw14.ThinCans', WHERE WHAT IT READS IS OF BULK AT MOST 1048576: true; the input reads as it did. -/
def thinCansUptoRow : OpenClaim := { program := "ytliaeiggcleoaaagreat", sum := "f2f2c2869a5c205fd5c43596c8415e9ec36afae9dfa41226d3e388907ebbb754", func := "hachure/hachurelaw14.ThinCans", spec := "thinCans", unfollowed := true, recurses := true, plainKeys := false, apart := false, narrowed := true }
def ThinCansUptoSaid : Prop := thinCansUptoRow.holds Tryz.pinned (OpenSpec.upto thinCansSpec)

/-- 'hachurelaw14.ThinKeeps', WHERE WHAT IT READS IS OF BULK AT MOST 1048576: true; the input reads as it did. -/
def thinKeepsUptoRow : OpenClaim := { program := "ytliaeiggcleoaaagreat", sum := "f2f2c2869a5c205fd5c43596c8415e9ec36afae9dfa41226d3e388907ebbb754", func := "hachure/hachurelaw14.ThinKeeps", spec := "thinKeeps", unfollowed := true, recurses := true, plainKeys := false, apart := false, narrowed := true }
def ThinKeepsUptoSaid : Prop := thinKeepsUptoRow.holds Tryz.pinned (OpenSpec.upto thinKeepsSpec)

end Rows
end Go.Proofs.YtliaeiggcleoaaaGreat
