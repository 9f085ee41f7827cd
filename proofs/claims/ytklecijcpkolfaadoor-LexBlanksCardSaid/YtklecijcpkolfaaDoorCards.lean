/-
  DERIVED. GIVEN WITH THE SEED: THE CARDS: each row of YtklecijcpkolfaaDoorRows.lean that lists a variable, with what it lists TIED to the program's text (the seventh form; the later family's looks); each row that meets fmt, with fmt's text TOLD by the authors' own Lean function (tested against real Go, not proved from fmt's source: count such statements apart). THE CARD IS WHAT COUNTS. Prove the row's statement (the work); the ties are given (YtklecijcpkolfaaDoorTie.lean); close each card by the builder's one call (the guide's Derived/Test/ToyasCard.lean, 'card_holds'). Laid BY PROGRAM, IN A SANDBOX (cutbox-door.mjs). By AI agents, Wed Nov 11 2026. No macro, syntax, notation, axiom, sorry.
-/
import Derived.Test.YtklecijcpkolfaaDoorRows
import GoSem.ClaimSeven
namespace Go.Proofs.YtklecijcpkolfaaDoor
namespace Rows

/-- THE TIED CARD OF 'tammylaw06.LexReads'. -/
def lexReadsCard : Claim7 := { stood := { row := lexReadsRow, standIns := [], harness := (true, "86450f7b1d6e06000552b0c0a64a775caf93cade47a2c08b5abe1cf14b611c5d"), looks := true }, kinds := [], alts := [], laidByText := true, laidKinds := [.data, .data, .data, .sentinel, .sentinel], laidTests := true, laidLooks := .later }
def LexReadsCardSaid : Prop := Claim7.holds Tryd.pinned (.plain (OpenSpec.ofChange lexReadsSpec)) lexReadsCard

/-- THE TIED CARD OF 'tammylaw06.LexBack'. -/
def lexBackCard : Claim7 := { stood := { row := lexBackRow, standIns := [], harness := (true, "86450f7b1d6e06000552b0c0a64a775caf93cade47a2c08b5abe1cf14b611c5d"), looks := true }, kinds := [], alts := [], laidByText := true, laidKinds := [.data, .data, .data, .sentinel, .sentinel], laidTests := true, laidLooks := .later }
def LexBackCardSaid : Prop := Claim7.holds Tryd.pinned (.plain (OpenSpec.ofChange lexBackSpec)) lexBackCard

/-- THE TIED CARD OF 'tammylaw06.LexJoins'. -/
def lexJoinsCard : Claim7 := { stood := { row := lexJoinsRow, standIns := [], harness := (true, "86450f7b1d6e06000552b0c0a64a775caf93cade47a2c08b5abe1cf14b611c5d"), looks := true }, kinds := [], alts := [], laidByText := true, laidKinds := [.data, .data, .data, .sentinel, .sentinel], laidTests := true, laidLooks := .later }
def LexJoinsCardSaid : Prop := Claim7.holds Tryd.pinned (.plain (OpenSpec.ofChange lexJoinsSpec)) lexJoinsCard

/-- THE TIED CARD OF 'tammylaw06.LexNumbers'. -/
def lexNumbersCard : Claim7 := { stood := { row := lexNumbersRow, standIns := [], harness := (true, "86450f7b1d6e06000552b0c0a64a775caf93cade47a2c08b5abe1cf14b611c5d"), looks := true }, kinds := [], alts := [], laidByText := true, laidKinds := [.data, .data, .data, .sentinel, .sentinel], laidTests := true, laidLooks := .later }
def LexNumbersCardSaid : Prop := Claim7.holds Tryd.pinned (.plain (OpenSpec.ofChange lexNumbersSpec)) lexNumbersCard

/-- THE TIED CARD OF 'tammylaw06.LexKinds'. -/
def lexKindsCard : Claim7 := { stood := { row := lexKindsRow, standIns := [], harness := (true, "86450f7b1d6e06000552b0c0a64a775caf93cade47a2c08b5abe1cf14b611c5d"), looks := true }, kinds := [], alts := [], laidByText := true, laidKinds := [.data, .data, .data, .sentinel, .sentinel], laidTests := true, laidLooks := .later }
def LexKindsCardSaid : Prop := Claim7.holds Tryd.pinned (.plain (OpenSpec.ofChange lexKindsSpec)) lexKindsCard

/-- THE TIED CARD OF 'tammylaw06.LexBlanks'. -/
def lexBlanksCard : Claim7 := { stood := { row := lexBlanksRow, standIns := [], harness := (true, "86450f7b1d6e06000552b0c0a64a775caf93cade47a2c08b5abe1cf14b611c5d"), looks := true }, kinds := [], alts := [], laidByText := true, laidKinds := [.data, .data, .data, .sentinel, .sentinel], laidTests := true, laidLooks := .later }
def LexBlanksCardSaid : Prop := Claim7.holds Tryd.pinned (.plain (OpenSpec.ofChange lexBlanksSpec)) lexBlanksCard

/-- THE TIED CARD OF 'tammylaw06.LexTells'. -/
def lexTellsCard : Claim7 := { stood := { row := lexTellsRow, standIns := [], harness := (true, "86450f7b1d6e06000552b0c0a64a775caf93cade47a2c08b5abe1cf14b611c5d"), looks := true }, kinds := [], alts := [], laidByText := true, laidKinds := [.data, .data, .data, .sentinel, .sentinel], laidTests := true, laidLooks := .later }
def LexTellsCardSaid : Prop := Claim7.holds Tryd.pinned (.plain (OpenSpec.ofChange lexTellsSpec)) lexTellsCard

/-- THE SECOND FORM's CARD OF 'tammylaw06.LexReads'. -/
def lexReadsUptoCard : Claim7 := { stood := { row := lexReadsUptoRow, standIns := [], harness := (true, "86450f7b1d6e06000552b0c0a64a775caf93cade47a2c08b5abe1cf14b611c5d"), looks := true }, kinds := [], alts := [], laidByText := true, laidKinds := [.data, .data, .data, .sentinel, .sentinel], laidTests := true, laidLooks := .later }
def LexReadsUptoCardSaid : Prop := Claim7.holds Tryd.pinned (.plain (OpenSpec.upto lexReadsSpec)) lexReadsUptoCard

/-- THE SECOND FORM's CARD OF 'tammylaw06.LexBack'. -/
def lexBackUptoCard : Claim7 := { stood := { row := lexBackUptoRow, standIns := [], harness := (true, "86450f7b1d6e06000552b0c0a64a775caf93cade47a2c08b5abe1cf14b611c5d"), looks := true }, kinds := [], alts := [], laidByText := true, laidKinds := [.data, .data, .data, .sentinel, .sentinel], laidTests := true, laidLooks := .later }
def LexBackUptoCardSaid : Prop := Claim7.holds Tryd.pinned (.plain (OpenSpec.upto lexBackSpec)) lexBackUptoCard

/-- THE SECOND FORM's CARD OF 'tammylaw06.LexJoins'. -/
def lexJoinsUptoCard : Claim7 := { stood := { row := lexJoinsUptoRow, standIns := [], harness := (true, "86450f7b1d6e06000552b0c0a64a775caf93cade47a2c08b5abe1cf14b611c5d"), looks := true }, kinds := [], alts := [], laidByText := true, laidKinds := [.data, .data, .data, .sentinel, .sentinel], laidTests := true, laidLooks := .later }
def LexJoinsUptoCardSaid : Prop := Claim7.holds Tryd.pinned (.plain (OpenSpec.upto lexJoinsSpec)) lexJoinsUptoCard

/-- THE SECOND FORM's CARD OF 'tammylaw06.LexNumbers'. -/
def lexNumbersUptoCard : Claim7 := { stood := { row := lexNumbersUptoRow, standIns := [], harness := (true, "86450f7b1d6e06000552b0c0a64a775caf93cade47a2c08b5abe1cf14b611c5d"), looks := true }, kinds := [], alts := [], laidByText := true, laidKinds := [.data, .data, .data, .sentinel, .sentinel], laidTests := true, laidLooks := .later }
def LexNumbersUptoCardSaid : Prop := Claim7.holds Tryd.pinned (.plain (OpenSpec.upto lexNumbersSpec)) lexNumbersUptoCard

/-- THE SECOND FORM's CARD OF 'tammylaw06.LexKinds'. -/
def lexKindsUptoCard : Claim7 := { stood := { row := lexKindsUptoRow, standIns := [], harness := (true, "86450f7b1d6e06000552b0c0a64a775caf93cade47a2c08b5abe1cf14b611c5d"), looks := true }, kinds := [], alts := [], laidByText := true, laidKinds := [.data, .data, .data, .sentinel, .sentinel], laidTests := true, laidLooks := .later }
def LexKindsUptoCardSaid : Prop := Claim7.holds Tryd.pinned (.plain (OpenSpec.upto lexKindsSpec)) lexKindsUptoCard

/-- THE SECOND FORM's CARD OF 'tammylaw06.LexBlanks'. -/
def lexBlanksUptoCard : Claim7 := { stood := { row := lexBlanksUptoRow, standIns := [], harness := (true, "86450f7b1d6e06000552b0c0a64a775caf93cade47a2c08b5abe1cf14b611c5d"), looks := true }, kinds := [], alts := [], laidByText := true, laidKinds := [.data, .data, .data, .sentinel, .sentinel], laidTests := true, laidLooks := .later }
def LexBlanksUptoCardSaid : Prop := Claim7.holds Tryd.pinned (.plain (OpenSpec.upto lexBlanksSpec)) lexBlanksUptoCard

/-- THE SECOND FORM's CARD OF 'tammylaw06.LexTells'. -/
def lexTellsUptoCard : Claim7 := { stood := { row := lexTellsUptoRow, standIns := [], harness := (true, "86450f7b1d6e06000552b0c0a64a775caf93cade47a2c08b5abe1cf14b611c5d"), looks := true }, kinds := [], alts := [], laidByText := true, laidKinds := [.data, .data, .data, .sentinel, .sentinel], laidTests := true, laidLooks := .later }
def LexTellsUptoCardSaid : Prop := Claim7.holds Tryd.pinned (.plain (OpenSpec.upto lexTellsSpec)) lexTellsUptoCard
end Rows
end Go.Proofs.YtklecijcpkolfaaDoor
