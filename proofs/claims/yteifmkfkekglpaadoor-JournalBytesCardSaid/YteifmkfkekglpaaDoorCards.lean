/-
  DERIVED. GIVEN WITH THE SEED: THE CARDS: each row of YteifmkfkekglpaaDoorRows.lean that lists a variable, with what it lists TIED to the program's text (the seventh form; the later family's looks); each row that meets fmt, with fmt's text TOLD by the authors' own Lean function (tested against real Go, not proved from fmt's source: count such statements apart). THE CARD IS WHAT COUNTS. Prove the row's statement (the work); the ties are given (YteifmkfkekglpaaDoorTie.lean); close each card by the builder's one call (the guide's Derived/Test/ToyasCard.lean, 'card_holds'). Laid BY PROGRAM, IN A SANDBOX (cutbox-door.mjs). By AI agents, Wed Nov 11 2026. No macro, syntax, notation, axiom, sorry.
-/
import Derived.Test.YteifmkfkekglpaaDoorRows
import GoSem.ClaimSeven
namespace Go.Proofs.YteifmkfkekglpaaDoor
namespace Rows

/-- THE TIED CARD OF 'usufructlaw26.JournalBytes'. -/
def journalBytesCard : Claim7 := { stood := { row := journalBytesRow, standIns := [], harness := (true, "628d57f264b1ecd04e43680bd31d8d12c0b147bbe9fcf5d01dc8e5dbb54b096f"), looks := true }, kinds := [], alts := [], laidByText := true, laidKinds := [.handle], laidTests := true, laidLooks := .later }
def JournalBytesCardSaid : Prop := Claim7.holds Tryd.pinned (.plain (OpenSpec.ofChange journalBytesSpec)) journalBytesCard

/-- THE TIED CARD OF 'usufructlaw26.JournalFull'. -/
def journalFullCard : Claim7 := { stood := { row := journalFullRow, standIns := [], harness := (true, "628d57f264b1ecd04e43680bd31d8d12c0b147bbe9fcf5d01dc8e5dbb54b096f"), looks := true }, kinds := [], alts := [], laidByText := true, laidKinds := [.handle], laidTests := true, laidLooks := .later }
def JournalFullCardSaid : Prop := Claim7.holds Tryd.pinned (.plain (OpenSpec.ofChange journalFullSpec)) journalFullCard

/-- THE TIED CARD OF 'usufructlaw26.JournalJunk'. -/
def journalJunkCard : Claim7 := { stood := { row := journalJunkRow, standIns := [], harness := (true, "628d57f264b1ecd04e43680bd31d8d12c0b147bbe9fcf5d01dc8e5dbb54b096f"), looks := true }, kinds := [], alts := [], laidByText := true, laidKinds := [.handle], laidTests := true, laidLooks := .later }
def JournalJunkCardSaid : Prop := Claim7.holds Tryd.pinned (.plain (OpenSpec.ofChange journalJunkSpec)) journalJunkCard

/-- THE TIED CARD OF 'usufructlaw26.JournalCrash'. -/
def journalCrashCard : Claim7 := { stood := { row := journalCrashRow, standIns := [], harness := (true, "628d57f264b1ecd04e43680bd31d8d12c0b147bbe9fcf5d01dc8e5dbb54b096f"), looks := true }, kinds := [], alts := [], laidByText := true, laidKinds := [.handle], laidTests := true, laidLooks := .later }
def JournalCrashCardSaid : Prop := Claim7.holds Tryd.pinned (.plain (OpenSpec.ofChange journalCrashSpec)) journalCrashCard

/-- THE SECOND FORM's CARD OF 'usufructlaw26.JournalBytes'. -/
def journalBytesUptoCard : Claim7 := { stood := { row := journalBytesUptoRow, standIns := [], harness := (true, "628d57f264b1ecd04e43680bd31d8d12c0b147bbe9fcf5d01dc8e5dbb54b096f"), looks := true }, kinds := [], alts := [], laidByText := true, laidKinds := [.handle], laidTests := true, laidLooks := .later }
def JournalBytesUptoCardSaid : Prop := Claim7.holds Tryd.pinned (.plain (OpenSpec.upto journalBytesSpec)) journalBytesUptoCard

/-- THE SECOND FORM's CARD OF 'usufructlaw26.JournalFull'. -/
def journalFullUptoCard : Claim7 := { stood := { row := journalFullUptoRow, standIns := [], harness := (true, "628d57f264b1ecd04e43680bd31d8d12c0b147bbe9fcf5d01dc8e5dbb54b096f"), looks := true }, kinds := [], alts := [], laidByText := true, laidKinds := [.handle], laidTests := true, laidLooks := .later }
def JournalFullUptoCardSaid : Prop := Claim7.holds Tryd.pinned (.plain (OpenSpec.upto journalFullSpec)) journalFullUptoCard

/-- THE SECOND FORM's CARD OF 'usufructlaw26.JournalJunk'. -/
def journalJunkUptoCard : Claim7 := { stood := { row := journalJunkUptoRow, standIns := [], harness := (true, "628d57f264b1ecd04e43680bd31d8d12c0b147bbe9fcf5d01dc8e5dbb54b096f"), looks := true }, kinds := [], alts := [], laidByText := true, laidKinds := [.handle], laidTests := true, laidLooks := .later }
def JournalJunkUptoCardSaid : Prop := Claim7.holds Tryd.pinned (.plain (OpenSpec.upto journalJunkSpec)) journalJunkUptoCard

/-- THE SECOND FORM's CARD OF 'usufructlaw26.JournalCrash'. -/
def journalCrashUptoCard : Claim7 := { stood := { row := journalCrashUptoRow, standIns := [], harness := (true, "628d57f264b1ecd04e43680bd31d8d12c0b147bbe9fcf5d01dc8e5dbb54b096f"), looks := true }, kinds := [], alts := [], laidByText := true, laidKinds := [.handle], laidTests := true, laidLooks := .later }
def JournalCrashUptoCardSaid : Prop := Claim7.holds Tryd.pinned (.plain (OpenSpec.upto journalCrashSpec)) journalCrashUptoCard
end Rows
end Go.Proofs.YteifmkfkekglpaaDoor
