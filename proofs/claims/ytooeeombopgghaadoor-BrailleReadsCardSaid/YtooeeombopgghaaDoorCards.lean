/-
  DERIVED. GIVEN WITH THE SEED: THE CARDS: each row of YtooeeombopgghaaDoorRows.lean that lists a variable, with what it lists TIED to the program's text (the seventh form; the later family's looks); each row that meets fmt, with fmt's text TOLD by the authors' own Lean function (tested against real Go, not proved from fmt's source: count such statements apart). THE CARD IS WHAT COUNTS. Prove the row's statement (the work); the ties are given (YtooeeombopgghaaDoorTie.lean); close each card by the builder's one call (the guide's Derived/Test/ToyasCard.lean, 'card_holds'). Laid BY PROGRAM, IN A SANDBOX (cutbox-door.mjs). By AI agents, Wed Nov 11 2026. No macro, syntax, notation, axiom, sorry.
-/
import Derived.Test.YtooeeombopgghaaDoorRows
import GoSem.ClaimSeven
namespace Go.Proofs.YtooeeombopgghaaDoor
namespace Rows

/-- THE TIED CARD OF 'hachurelaw28.BrailleWrites'. -/
def brailleWritesCard : Claim7 := { stood := { row := brailleWritesRow, standIns := [], harness := (true, "1a4d8e6e62973ba0332f957564796f631b3a02a418bc813e9ea1d781272536da"), looks := true }, kinds := [], alts := [], laidByText := true, laidKinds := [.sentinel], laidTests := true, laidLooks := .later }
def BrailleWritesCardSaid : Prop := Claim7.holds Tryd.pinned (.plain (OpenSpec.ofChange brailleWritesSpec)) brailleWritesCard

/-- THE TIED CARD OF 'hachurelaw28.BrailleReads'. -/
def brailleReadsCard : Claim7 := { stood := { row := brailleReadsRow, standIns := [], harness := (true, "1a4d8e6e62973ba0332f957564796f631b3a02a418bc813e9ea1d781272536da"), looks := true }, kinds := [], alts := [], laidByText := true, laidKinds := [.sentinel], laidTests := true, laidLooks := .later }
def BrailleReadsCardSaid : Prop := Claim7.holds Tryd.pinned (.plain (OpenSpec.ofChange brailleReadsSpec)) brailleReadsCard

/-- THE TIED CARD OF 'hachurelaw28.BrailleBack'. -/
def brailleBackCard : Claim7 := { stood := { row := brailleBackRow, standIns := [], harness := (true, "1a4d8e6e62973ba0332f957564796f631b3a02a418bc813e9ea1d781272536da"), looks := true }, kinds := [], alts := [], laidByText := true, laidKinds := [.sentinel], laidTests := true, laidLooks := .later }
def BrailleBackCardSaid : Prop := Claim7.holds Tryd.pinned (.plain (OpenSpec.ofChange brailleBackSpec)) brailleBackCard

/-- THE TIED CARD OF 'hachurelaw28.BrailleRead'. -/
def brailleReadCard : Claim7 := { stood := { row := brailleReadRow, standIns := [], harness := (true, "1a4d8e6e62973ba0332f957564796f631b3a02a418bc813e9ea1d781272536da"), looks := true }, kinds := [], alts := [], laidByText := true, laidKinds := [.sentinel], laidTests := true, laidLooks := .later }
def BrailleReadCardSaid : Prop := Claim7.holds Tryd.pinned (.plain (OpenSpec.ofChange brailleReadSpec)) brailleReadCard

/-- THE TIED CARD OF 'hachurelaw28.BrailleWords'. -/
def brailleWordsCard : Claim7 := { stood := { row := brailleWordsRow, standIns := [], harness := (true, "1a4d8e6e62973ba0332f957564796f631b3a02a418bc813e9ea1d781272536da"), looks := true }, kinds := [], alts := [], laidByText := true, laidKinds := [.sentinel], laidTests := true, laidLooks := .later }
def BrailleWordsCardSaid : Prop := Claim7.holds Tryd.pinned (.plain (OpenSpec.ofChange brailleWordsSpec)) brailleWordsCard

/-- THE TIED CARD OF 'hachurelaw28.BrailleDots'. -/
def brailleDotsCard : Claim7 := { stood := { row := brailleDotsRow, standIns := [], harness := (true, "1a4d8e6e62973ba0332f957564796f631b3a02a418bc813e9ea1d781272536da"), looks := true }, kinds := [], alts := [], laidByText := true, laidKinds := [.sentinel], laidTests := true, laidLooks := .later }
def BrailleDotsCardSaid : Prop := Claim7.holds Tryd.pinned (.plain (OpenSpec.ofChange brailleDotsSpec)) brailleDotsCard

/-- THE SECOND FORM's CARD OF 'hachurelaw28.BrailleWrites'. -/
def brailleWritesUptoCard : Claim7 := { stood := { row := brailleWritesUptoRow, standIns := [], harness := (true, "1a4d8e6e62973ba0332f957564796f631b3a02a418bc813e9ea1d781272536da"), looks := true }, kinds := [], alts := [], laidByText := true, laidKinds := [.sentinel], laidTests := true, laidLooks := .later }
def BrailleWritesUptoCardSaid : Prop := Claim7.holds Tryd.pinned (.plain (OpenSpec.upto brailleWritesSpec)) brailleWritesUptoCard

/-- THE SECOND FORM's CARD OF 'hachurelaw28.BrailleReads'. -/
def brailleReadsUptoCard : Claim7 := { stood := { row := brailleReadsUptoRow, standIns := [], harness := (true, "1a4d8e6e62973ba0332f957564796f631b3a02a418bc813e9ea1d781272536da"), looks := true }, kinds := [], alts := [], laidByText := true, laidKinds := [.sentinel], laidTests := true, laidLooks := .later }
def BrailleReadsUptoCardSaid : Prop := Claim7.holds Tryd.pinned (.plain (OpenSpec.upto brailleReadsSpec)) brailleReadsUptoCard

/-- THE SECOND FORM's CARD OF 'hachurelaw28.BrailleBack'. -/
def brailleBackUptoCard : Claim7 := { stood := { row := brailleBackUptoRow, standIns := [], harness := (true, "1a4d8e6e62973ba0332f957564796f631b3a02a418bc813e9ea1d781272536da"), looks := true }, kinds := [], alts := [], laidByText := true, laidKinds := [.sentinel], laidTests := true, laidLooks := .later }
def BrailleBackUptoCardSaid : Prop := Claim7.holds Tryd.pinned (.plain (OpenSpec.upto brailleBackSpec)) brailleBackUptoCard

/-- THE SECOND FORM's CARD OF 'hachurelaw28.BrailleRead'. -/
def brailleReadUptoCard : Claim7 := { stood := { row := brailleReadUptoRow, standIns := [], harness := (true, "1a4d8e6e62973ba0332f957564796f631b3a02a418bc813e9ea1d781272536da"), looks := true }, kinds := [], alts := [], laidByText := true, laidKinds := [.sentinel], laidTests := true, laidLooks := .later }
def BrailleReadUptoCardSaid : Prop := Claim7.holds Tryd.pinned (.plain (OpenSpec.upto brailleReadSpec)) brailleReadUptoCard

/-- THE SECOND FORM's CARD OF 'hachurelaw28.BrailleWords'. -/
def brailleWordsUptoCard : Claim7 := { stood := { row := brailleWordsUptoRow, standIns := [], harness := (true, "1a4d8e6e62973ba0332f957564796f631b3a02a418bc813e9ea1d781272536da"), looks := true }, kinds := [], alts := [], laidByText := true, laidKinds := [.sentinel], laidTests := true, laidLooks := .later }
def BrailleWordsUptoCardSaid : Prop := Claim7.holds Tryd.pinned (.plain (OpenSpec.upto brailleWordsSpec)) brailleWordsUptoCard

/-- THE SECOND FORM's CARD OF 'hachurelaw28.BrailleDots'. -/
def brailleDotsUptoCard : Claim7 := { stood := { row := brailleDotsUptoRow, standIns := [], harness := (true, "1a4d8e6e62973ba0332f957564796f631b3a02a418bc813e9ea1d781272536da"), looks := true }, kinds := [], alts := [], laidByText := true, laidKinds := [.sentinel], laidTests := true, laidLooks := .later }
def BrailleDotsUptoCardSaid : Prop := Claim7.holds Tryd.pinned (.plain (OpenSpec.upto brailleDotsSpec)) brailleDotsUptoCard
end Rows
end Go.Proofs.YtooeeombopgghaaDoor
