/-
  DERIVED. GIVEN WITH THE SEED: THE CARDS: each row of YtnpndnnoelnodaaDoorRows.lean that lists a variable, with what it lists TIED to the program's text (the seventh form; the later family's looks); each row that meets fmt, with fmt's text TOLD by the authors' own Lean function (tested against real Go, not proved from fmt's source: count such statements apart). THE CARD IS WHAT COUNTS. Prove the row's statement (the work); the ties are given (YtnpndnnoelnodaaDoorTie.lean); close each card by the builder's one call (the guide's Derived/Test/ToyasCard.lean, 'card_holds'). Laid BY PROGRAM, IN A SANDBOX (cutbox-door.mjs). By AI agents, Wed Nov 11 2026. No macro, syntax, notation, axiom, sorry.
-/
import Derived.Test.YtnpndnnoelnodaaDoorRows
import GoSem.ClaimSeven
namespace Go.Proofs.YtnpndnnoelnodaaDoor
namespace Rows

/-- THE TIED CARD OF 'usufructlaw1.FaultChains'. -/
def faultChainsCard : Claim7 := { stood := { row := faultChainsRow, standIns := [], harness := (true, "c22a9ba15930f2adbcdb293a54b5bb41cef266456d2930977e24fd38268d80cb"), looks := true }, kinds := [], alts := [], laidByText := true, laidKinds := [.handle], laidTests := true, laidLooks := .later }
def FaultChainsCardSaid : Prop := Claim7.holds Tryd.pinned (.plain (OpenSpec.ofChange faultChainsSpec)) faultChainsCard

/-- THE TIED CARD OF 'usufructlaw1.FaultForeign'. -/
def faultForeignCard : Claim7 := { stood := { row := faultForeignRow, standIns := [], harness := (true, "c22a9ba15930f2adbcdb293a54b5bb41cef266456d2930977e24fd38268d80cb"), looks := true }, kinds := [], alts := [], laidByText := true, laidKinds := [.handle], laidTests := true, laidLooks := .later }
def FaultForeignCardSaid : Prop := Claim7.holds Tryd.pinned (.plain (OpenSpec.ofChange faultForeignSpec)) faultForeignCard

/-- THE TIED CARD OF 'usufructlaw1.FaultIn'. -/
def faultInCard : Claim7 := { stood := { row := faultInRow, standIns := [], harness := (true, "c22a9ba15930f2adbcdb293a54b5bb41cef266456d2930977e24fd38268d80cb"), looks := true }, kinds := [], alts := [], laidByText := true, laidKinds := [.handle], laidTests := true, laidLooks := .later }
def FaultInCardSaid : Prop := Claim7.holds Tryd.pinned (.plain (OpenSpec.ofChange faultInSpec)) faultInCard

/-- THE SECOND FORM's CARD OF 'usufructlaw1.FaultChains'. -/
def faultChainsUptoCard : Claim7 := { stood := { row := faultChainsUptoRow, standIns := [], harness := (true, "c22a9ba15930f2adbcdb293a54b5bb41cef266456d2930977e24fd38268d80cb"), looks := true }, kinds := [], alts := [], laidByText := true, laidKinds := [.handle], laidTests := true, laidLooks := .later }
def FaultChainsUptoCardSaid : Prop := Claim7.holds Tryd.pinned (.plain (OpenSpec.upto faultChainsSpec)) faultChainsUptoCard

/-- THE SECOND FORM's CARD OF 'usufructlaw1.FaultForeign'. -/
def faultForeignUptoCard : Claim7 := { stood := { row := faultForeignUptoRow, standIns := [], harness := (true, "c22a9ba15930f2adbcdb293a54b5bb41cef266456d2930977e24fd38268d80cb"), looks := true }, kinds := [], alts := [], laidByText := true, laidKinds := [.handle], laidTests := true, laidLooks := .later }
def FaultForeignUptoCardSaid : Prop := Claim7.holds Tryd.pinned (.plain (OpenSpec.upto faultForeignSpec)) faultForeignUptoCard

/-- THE SECOND FORM's CARD OF 'usufructlaw1.FaultIn'. -/
def faultInUptoCard : Claim7 := { stood := { row := faultInUptoRow, standIns := [], harness := (true, "c22a9ba15930f2adbcdb293a54b5bb41cef266456d2930977e24fd38268d80cb"), looks := true }, kinds := [], alts := [], laidByText := true, laidKinds := [.handle], laidTests := true, laidLooks := .later }
def FaultInUptoCardSaid : Prop := Claim7.holds Tryd.pinned (.plain (OpenSpec.upto faultInSpec)) faultInUptoCard
end Rows
end Go.Proofs.YtnpndnnoelnodaaDoor
