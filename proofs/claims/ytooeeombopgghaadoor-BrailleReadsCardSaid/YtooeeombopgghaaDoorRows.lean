/-
  NARROWER THAN 'FOR EVERY INPUT', by the rows' own cells (each row's printed sentence says how): BrailleWrites: laid · BrailleReads: laid · BrailleBack: laid · BrailleRead: laid · BrailleWords: laid · BrailleDots: laid.
  DERIVED. THE GIVEN ROWS OF THIS SEAT. 6 by the template 'for every input the law returns true; each argument reads behind the call as it read before'; 0 by the template 'total and deterministic' (their statements: YtooeeombopgghaaDoorTotals.lean).
  GIVEN WITH THE SEED: the statements are not yours to turn. If you find one false, say at which input.
  Laid BY PROGRAM, IN A SANDBOX (cutbox-rows.mjs): the forced cells as the released guide's own fill.sh prints them over the translation fbef5d0abf088431… (all of the seat's roots in one cut). By AI agents, Wed Nov 11 2026. No macro, syntax, notation, axiom, sorry.
-/
import Derived.Test.YtooeeombopgghaaDoorChecked
import GoSem.Claim
import GoSem.ClaimJoined
import GoSem.ClaimMapViews
import Derived.JoinedTies
import Derived.KernelRfl
namespace Go.Proofs.YtooeeombopgghaaDoor
/- THE CELL 'sum', in the pinned program and in every row, IS THE sha256 OF THE DUMP (.gsa) THAT YtooeeombopgghaaDoorProg.lean LOADS. Nothing in Lean hashes anything: it is a label: what it is worth is what the hold of that sum in a sandbox is worth. -/
noncomputable def Tryd.pinned : Pinned := { name := "ytooeeombopgghaadoor", sum := "fbef5d0abf088431a606fab5ddcb7612dbda9fb9d089bcb0c04b8957a255ed74", checked := Tryd.checked }
namespace Rows
def none {H : Type} : Left H := { results := [], args := [] }

/- WHAT THE LISTED PACKAGE-LEVEL VARIABLES READ AS WHEN THE CALL BEGINS. Each datum BY PROGRAM (the guide's laid-datum.mjs) off the statement by which the dump's own 'gosem.cut.vars' lays the variable. In a bare row this is a premise. The card (YtooeeombopgghaaDoorCards.lean) ties it to the program's text. -/
def laid_hachure_braille_none {H : Type} : DataW H := .iface "*errors.errorString" (.ptr (.agg [.lit (.string [110, 111, 32, 98, 114, 97, 105, 108, 108, 101])]))

/-- 'hachurelaw28.BrailleWrites': WHATEVER THE INPUT: true; the input reads as it did. -/
def brailleWritesSpec : ChangeSpec := { name := "brailleWrites", fn := fun _ => fun
  | [d1, d2] => { results := [.lit (.bool true)], args := [d1, d2] }
  | _ => none }
def brailleWritesRow : OpenClaim := { program := "ytooeeombopgghaadoor", sum := "fbef5d0abf088431a606fab5ddcb7612dbda9fb9d089bcb0c04b8957a255ed74", func := "hachure/hachurelaw28.BrailleWrites", spec := "brailleWrites", inPlace := ["internal/abi.NoEscape", "internal/bytealg.IndexByteString", "internal/reflectlite.TypeOf"], unfollowed := true, recurses := true, named := ["hachure/braille.none"], apart := false, laid := [("hachure/braille.none", laid_hachure_braille_none)] }
def BrailleWritesSaid : Prop := brailleWritesRow.holds Tryd.pinned (OpenSpec.ofChange brailleWritesSpec)

/-- ITS FALSE NEIGHBOUR: 'it returns false'. Refute it at one input. -/
def brailleWritesWrong : ChangeSpec := { name := "brailleWrites", fn := fun _ => fun
  | [d1, d2] => { results := [.lit (.bool false)], args := [d1, d2] }
  | _ => none }
def BrailleWritesWrongFalsely : Prop := brailleWritesRow.holds Tryd.pinned (OpenSpec.ofChange brailleWritesWrong)

/-- 'hachurelaw28.BrailleReads': WHATEVER THE INPUT: true; the input reads as it did. -/
def brailleReadsSpec : ChangeSpec := { name := "brailleReads", fn := fun _ => fun
  | [d1, d2, d3] => { results := [.lit (.bool true)], args := [d1, d2, d3] }
  | _ => none }
def brailleReadsRow : OpenClaim := { program := "ytooeeombopgghaadoor", sum := "fbef5d0abf088431a606fab5ddcb7612dbda9fb9d089bcb0c04b8957a255ed74", func := "hachure/hachurelaw28.BrailleReads", spec := "brailleReads", inPlace := ["internal/abi.NoEscape", "internal/bytealg.IndexByteString", "internal/reflectlite.TypeOf"], unfollowed := true, recurses := true, named := ["hachure/braille.none"], apart := false, laid := [("hachure/braille.none", laid_hachure_braille_none)] }
def BrailleReadsSaid : Prop := brailleReadsRow.holds Tryd.pinned (OpenSpec.ofChange brailleReadsSpec)

/-- ITS FALSE NEIGHBOUR: 'it returns false'. Refute it at one input. -/
def brailleReadsWrong : ChangeSpec := { name := "brailleReads", fn := fun _ => fun
  | [d1, d2, d3] => { results := [.lit (.bool false)], args := [d1, d2, d3] }
  | _ => none }
def BrailleReadsWrongFalsely : Prop := brailleReadsRow.holds Tryd.pinned (OpenSpec.ofChange brailleReadsWrong)

/-- 'hachurelaw28.BrailleBack': WHATEVER THE INPUT: true; the input reads as it did. -/
def brailleBackSpec : ChangeSpec := { name := "brailleBack", fn := fun _ => fun
  | [d1, d2, d3] => { results := [.lit (.bool true)], args := [d1, d2, d3] }
  | _ => none }
def brailleBackRow : OpenClaim := { program := "ytooeeombopgghaadoor", sum := "fbef5d0abf088431a606fab5ddcb7612dbda9fb9d089bcb0c04b8957a255ed74", func := "hachure/hachurelaw28.BrailleBack", spec := "brailleBack", inPlace := ["internal/abi.NoEscape", "internal/bytealg.IndexByteString", "internal/reflectlite.TypeOf"], unfollowed := true, recurses := true, named := ["hachure/braille.none"], apart := false, laid := [("hachure/braille.none", laid_hachure_braille_none)] }
def BrailleBackSaid : Prop := brailleBackRow.holds Tryd.pinned (OpenSpec.ofChange brailleBackSpec)

/-- ITS FALSE NEIGHBOUR: 'it returns false'. Refute it at one input. -/
def brailleBackWrong : ChangeSpec := { name := "brailleBack", fn := fun _ => fun
  | [d1, d2, d3] => { results := [.lit (.bool false)], args := [d1, d2, d3] }
  | _ => none }
def BrailleBackWrongFalsely : Prop := brailleBackRow.holds Tryd.pinned (OpenSpec.ofChange brailleBackWrong)

/-- 'hachurelaw28.BrailleRead': WHATEVER THE INPUT: true; the input reads as it did. -/
def brailleReadSpec : ChangeSpec := { name := "brailleRead", fn := fun _ => fun
  | [d1, d2, d3] => { results := [.lit (.bool true)], args := [d1, d2, d3] }
  | _ => none }
def brailleReadRow : OpenClaim := { program := "ytooeeombopgghaadoor", sum := "fbef5d0abf088431a606fab5ddcb7612dbda9fb9d089bcb0c04b8957a255ed74", func := "hachure/hachurelaw28.BrailleRead", spec := "brailleRead", inPlace := ["internal/abi.NoEscape", "internal/bytealg.IndexByteString", "internal/reflectlite.TypeOf"], unfollowed := true, recurses := true, named := ["hachure/braille.none"], apart := false, laid := [("hachure/braille.none", laid_hachure_braille_none)] }
def BrailleReadSaid : Prop := brailleReadRow.holds Tryd.pinned (OpenSpec.ofChange brailleReadSpec)

/-- ITS FALSE NEIGHBOUR: 'it returns false'. Refute it at one input. -/
def brailleReadWrong : ChangeSpec := { name := "brailleRead", fn := fun _ => fun
  | [d1, d2, d3] => { results := [.lit (.bool false)], args := [d1, d2, d3] }
  | _ => none }
def BrailleReadWrongFalsely : Prop := brailleReadRow.holds Tryd.pinned (OpenSpec.ofChange brailleReadWrong)

/-- 'hachurelaw28.BrailleWords': WHATEVER THE INPUT: true; the input reads as it did. -/
def brailleWordsSpec : ChangeSpec := { name := "brailleWords", fn := fun _ => fun
  | [d1, d2, d3] => { results := [.lit (.bool true)], args := [d1, d2, d3] }
  | _ => none }
def brailleWordsRow : OpenClaim := { program := "ytooeeombopgghaadoor", sum := "fbef5d0abf088431a606fab5ddcb7612dbda9fb9d089bcb0c04b8957a255ed74", func := "hachure/hachurelaw28.BrailleWords", spec := "brailleWords", inPlace := ["internal/abi.NoEscape", "internal/bytealg.IndexByteString", "internal/reflectlite.TypeOf"], unfollowed := true, recurses := true, named := ["hachure/braille.none"], apart := false, laid := [("hachure/braille.none", laid_hachure_braille_none)] }
def BrailleWordsSaid : Prop := brailleWordsRow.holds Tryd.pinned (OpenSpec.ofChange brailleWordsSpec)

/-- ITS FALSE NEIGHBOUR: 'it returns false'. Refute it at one input. -/
def brailleWordsWrong : ChangeSpec := { name := "brailleWords", fn := fun _ => fun
  | [d1, d2, d3] => { results := [.lit (.bool false)], args := [d1, d2, d3] }
  | _ => none }
def BrailleWordsWrongFalsely : Prop := brailleWordsRow.holds Tryd.pinned (OpenSpec.ofChange brailleWordsWrong)

/-- 'hachurelaw28.BrailleDots': WHATEVER THE INPUT: true; the input reads as it did. -/
def brailleDotsSpec : ChangeSpec := { name := "brailleDots", fn := fun _ => fun
  | [d1, d2] => { results := [.lit (.bool true)], args := [d1, d2] }
  | _ => none }
def brailleDotsRow : OpenClaim := { program := "ytooeeombopgghaadoor", sum := "fbef5d0abf088431a606fab5ddcb7612dbda9fb9d089bcb0c04b8957a255ed74", func := "hachure/hachurelaw28.BrailleDots", spec := "brailleDots", inPlace := ["internal/abi.NoEscape", "internal/bytealg.IndexByteString", "internal/reflectlite.TypeOf"], unfollowed := true, recurses := true, named := ["hachure/braille.none"], apart := false, laid := [("hachure/braille.none", laid_hachure_braille_none)] }
def BrailleDotsSaid : Prop := brailleDotsRow.holds Tryd.pinned (OpenSpec.ofChange brailleDotsSpec)

/-- ITS FALSE NEIGHBOUR: 'it returns false'. Refute it at one input. -/
def brailleDotsWrong : ChangeSpec := { name := "brailleDots", fn := fun _ => fun
  | [d1, d2] => { results := [.lit (.bool false)], args := [d1, d2] }
  | _ => none }
def BrailleDotsWrongFalsely : Prop := brailleDotsRow.holds Tryd.pinned (OpenSpec.ofChange brailleDotsWrong)

/- THE SECOND FORM. 'bulk': how many values and letters a reading holds, each counted each time it is reached (what is shared counts as often as it is met; a slice's spare places count too). A statement '..UptoSaid' is the law's where the arguments, and the package variables that the reading takes, are together of bulk at most 1048576: NARROWER than '..Said'. Prove '..Said' where nothing that the law and all that it calls make is longer than what came in: it says more and counts as full. Else prove '..UptoSaid'. A law counts once. -/
mutual
def uptoBulk {H : Type} : DataW H → Nat
  | .lit (.string bytes) => bytes.length + 1
  | .lit _ => 1
  | .nil => 1
  | .ptr d => uptoBulk d + 1
  | .slice elems spare => uptoBulkAll elems + uptoBulkAll spare + 1
  | .agg parts => uptoBulkAll parts + 1
  | .iface _ d => uptoBulk d + 1
  | .map entries => uptoBulkEntries entries + 1
  | .held _ => 1
def uptoBulkAll {H : Type} : List (DataW H) → Nat
  | [] => 0
  | d :: r => uptoBulk d + uptoBulkAll r
def uptoBulkEntries {H : Type} : List (Lit × DataW H) → Nat
  | [] => 0
  | x :: r => uptoBulkEntry x + uptoBulkEntries r
def uptoBulkEntry {H : Type} : Lit × DataW H → Nat
  | (.string bytes, d) => bytes.length + uptoBulk d + 1
  | (_, d) => uptoBulk d + 1
 end
def uptoSmall : (H : Type) → List (DataW H) → Bool := fun _ ds => decide (uptoBulkAll ds ≤ 1048576)
def OpenSpec.upto (s : _root_.Go.ChangeSpec) : _root_.Go.OpenSpec := { _root_.Go.OpenSpec.ofChange s with cond := some uptoSmall }

/-- 'hachurelaw28.BrailleWrites', WHERE WHAT IT READS IS OF BULK AT MOST 1048576: true; the input reads as it did. -/
def brailleWritesUptoRow : OpenClaim := { program := "ytooeeombopgghaadoor", sum := "fbef5d0abf088431a606fab5ddcb7612dbda9fb9d089bcb0c04b8957a255ed74", func := "hachure/hachurelaw28.BrailleWrites", spec := "brailleWrites", inPlace := ["internal/abi.NoEscape", "internal/bytealg.IndexByteString", "internal/reflectlite.TypeOf"], unfollowed := true, recurses := true, named := ["hachure/braille.none"], apart := false, laid := [("hachure/braille.none", laid_hachure_braille_none)], narrowed := true }
def BrailleWritesUptoSaid : Prop := brailleWritesUptoRow.holds Tryd.pinned (OpenSpec.upto brailleWritesSpec)

/-- 'hachurelaw28.BrailleReads', WHERE WHAT IT READS IS OF BULK AT MOST 1048576: true; the input reads as it did. -/
def brailleReadsUptoRow : OpenClaim := { program := "ytooeeombopgghaadoor", sum := "fbef5d0abf088431a606fab5ddcb7612dbda9fb9d089bcb0c04b8957a255ed74", func := "hachure/hachurelaw28.BrailleReads", spec := "brailleReads", inPlace := ["internal/abi.NoEscape", "internal/bytealg.IndexByteString", "internal/reflectlite.TypeOf"], unfollowed := true, recurses := true, named := ["hachure/braille.none"], apart := false, laid := [("hachure/braille.none", laid_hachure_braille_none)], narrowed := true }
def BrailleReadsUptoSaid : Prop := brailleReadsUptoRow.holds Tryd.pinned (OpenSpec.upto brailleReadsSpec)

/-- 'hachurelaw28.BrailleBack', WHERE WHAT IT READS IS OF BULK AT MOST 1048576: true; the input reads as it did. -/
def brailleBackUptoRow : OpenClaim := { program := "ytooeeombopgghaadoor", sum := "fbef5d0abf088431a606fab5ddcb7612dbda9fb9d089bcb0c04b8957a255ed74", func := "hachure/hachurelaw28.BrailleBack", spec := "brailleBack", inPlace := ["internal/abi.NoEscape", "internal/bytealg.IndexByteString", "internal/reflectlite.TypeOf"], unfollowed := true, recurses := true, named := ["hachure/braille.none"], apart := false, laid := [("hachure/braille.none", laid_hachure_braille_none)], narrowed := true }
def BrailleBackUptoSaid : Prop := brailleBackUptoRow.holds Tryd.pinned (OpenSpec.upto brailleBackSpec)

/-- 'hachurelaw28.BrailleRead', WHERE WHAT IT READS IS OF BULK AT MOST 1048576: true; the input reads as it did. -/
def brailleReadUptoRow : OpenClaim := { program := "ytooeeombopgghaadoor", sum := "fbef5d0abf088431a606fab5ddcb7612dbda9fb9d089bcb0c04b8957a255ed74", func := "hachure/hachurelaw28.BrailleRead", spec := "brailleRead", inPlace := ["internal/abi.NoEscape", "internal/bytealg.IndexByteString", "internal/reflectlite.TypeOf"], unfollowed := true, recurses := true, named := ["hachure/braille.none"], apart := false, laid := [("hachure/braille.none", laid_hachure_braille_none)], narrowed := true }
def BrailleReadUptoSaid : Prop := brailleReadUptoRow.holds Tryd.pinned (OpenSpec.upto brailleReadSpec)

/-- 'hachurelaw28.BrailleWords', WHERE WHAT IT READS IS OF BULK AT MOST 1048576: true; the input reads as it did. -/
def brailleWordsUptoRow : OpenClaim := { program := "ytooeeombopgghaadoor", sum := "fbef5d0abf088431a606fab5ddcb7612dbda9fb9d089bcb0c04b8957a255ed74", func := "hachure/hachurelaw28.BrailleWords", spec := "brailleWords", inPlace := ["internal/abi.NoEscape", "internal/bytealg.IndexByteString", "internal/reflectlite.TypeOf"], unfollowed := true, recurses := true, named := ["hachure/braille.none"], apart := false, laid := [("hachure/braille.none", laid_hachure_braille_none)], narrowed := true }
def BrailleWordsUptoSaid : Prop := brailleWordsUptoRow.holds Tryd.pinned (OpenSpec.upto brailleWordsSpec)

/-- 'hachurelaw28.BrailleDots', WHERE WHAT IT READS IS OF BULK AT MOST 1048576: true; the input reads as it did. -/
def brailleDotsUptoRow : OpenClaim := { program := "ytooeeombopgghaadoor", sum := "fbef5d0abf088431a606fab5ddcb7612dbda9fb9d089bcb0c04b8957a255ed74", func := "hachure/hachurelaw28.BrailleDots", spec := "brailleDots", inPlace := ["internal/abi.NoEscape", "internal/bytealg.IndexByteString", "internal/reflectlite.TypeOf"], unfollowed := true, recurses := true, named := ["hachure/braille.none"], apart := false, laid := [("hachure/braille.none", laid_hachure_braille_none)], narrowed := true }
def BrailleDotsUptoSaid : Prop := brailleDotsUptoRow.holds Tryd.pinned (OpenSpec.upto brailleDotsSpec)

end Rows
end Go.Proofs.YtooeeombopgghaaDoor
