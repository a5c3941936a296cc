/-
  DERIVED. GIVEN WITH THE SEED: THE CARDS: each row of YtiliajnijjkcdaaDoorRows.lean that lists a variable, with what it lists TIED to the program's text (the seventh form; the later family's looks); each row that meets fmt, with fmt's text TOLD by the authors' own Lean function (tested against real Go, not proved from fmt's source: count such statements apart). THE CARD IS WHAT COUNTS. Prove the row's statement (the work); the ties are given (YtiliajnijjkcdaaDoorTie.lean); close each card by the builder's one call (the guide's Derived/Test/ToyasCard.lean, 'card_holds'). Laid BY PROGRAM, IN A SANDBOX (cutbox-door.mjs). By AI agents, Wed Nov 11 2026. No macro, syntax, notation, axiom, sorry.
-/
import Derived.Test.YtiliajnijjkcdaaDoorRows
import GoSem.ClaimSeven
namespace Go.Proofs.YtiliajnijjkcdaaDoor
namespace Rows

/-- THE TIED CARD OF 'usufructlaw10.ManifestKnown'. -/
def manifestKnownCard : Claim7 := { stood := { row := manifestKnownRow, standIns := [], harness := (true, "e59e277dddb8699a29e528e9d50f326143489924521130614e71a5853aeb1e48"), looks := true }, kinds := [], alts := [], laidByText := true, laidKinds := [.data, .pinned], laidTests := true, laidLooks := .later }
def ManifestKnownCardSaid : Prop := Claim7.holds Tryd.pinned (.plain (OpenSpec.ofChange manifestKnownSpec)) manifestKnownCard

/-- THE TIED CARD OF 'usufructlaw10.ManifestReads'. -/
def manifestReadsCard : Claim7 := { stood := { row := manifestReadsRow, standIns := [], harness := (true, "e59e277dddb8699a29e528e9d50f326143489924521130614e71a5853aeb1e48"), looks := true }, kinds := [], alts := [], laidByText := true, laidKinds := [.data, .pinned], laidTests := true, laidLooks := .later }
def ManifestReadsCardSaid : Prop := Claim7.holds Tryd.pinned (.plain (OpenSpec.ofChange manifestReadsSpec)) manifestReadsCard

/-- THE TIED CARD OF 'usufructlaw10.ManifestJoined'. -/
def manifestJoinedCard : Claim7 := { stood := { row := manifestJoinedRow, standIns := [], harness := (true, "e59e277dddb8699a29e528e9d50f326143489924521130614e71a5853aeb1e48"), looks := true }, kinds := [], alts := [], laidByText := true, laidKinds := [.data, .pinned], laidTests := true, laidLooks := .later }
def ManifestJoinedCardSaid : Prop := Claim7.holds Tryd.pinned (.plain (OpenSpec.ofChange manifestJoinedSpec)) manifestJoinedCard

/-- THE TIED CARD OF 'usufructlaw10.ManifestPrints'. -/
def manifestPrintsCard : Claim7 := { stood := { row := manifestPrintsRow, standIns := [], harness := (true, "e59e277dddb8699a29e528e9d50f326143489924521130614e71a5853aeb1e48"), looks := true }, kinds := [], alts := [], laidByText := true, laidKinds := [.data, .pinned], laidTests := true, laidLooks := .later }
def ManifestPrintsCardSaid : Prop := Claim7.holds Tryd.pinned (.plain (OpenSpec.ofChange manifestPrintsSpec)) manifestPrintsCard

/-- THE TIED CARD OF 'usufructlaw10.ManifestBack'. -/
def manifestBackCard : Claim7 := { stood := { row := manifestBackRow, standIns := [], harness := (true, "e59e277dddb8699a29e528e9d50f326143489924521130614e71a5853aeb1e48"), looks := true }, kinds := [], alts := [], laidByText := true, laidKinds := [.data, .pinned], laidTests := true, laidLooks := .later }
def ManifestBackCardSaid : Prop := Claim7.holds Tryd.pinned (.plain (OpenSpec.ofChange manifestBackSpec)) manifestBackCard

/-- THE SECOND FORM's CARD OF 'usufructlaw10.ManifestKnown'. -/
def manifestKnownUptoCard : Claim7 := { stood := { row := manifestKnownUptoRow, standIns := [], harness := (true, "e59e277dddb8699a29e528e9d50f326143489924521130614e71a5853aeb1e48"), looks := true }, kinds := [], alts := [], laidByText := true, laidKinds := [.data, .pinned], laidTests := true, laidLooks := .later }
def ManifestKnownUptoCardSaid : Prop := Claim7.holds Tryd.pinned (.plain (OpenSpec.upto manifestKnownSpec)) manifestKnownUptoCard

/-- THE SECOND FORM's CARD OF 'usufructlaw10.ManifestReads'. -/
def manifestReadsUptoCard : Claim7 := { stood := { row := manifestReadsUptoRow, standIns := [], harness := (true, "e59e277dddb8699a29e528e9d50f326143489924521130614e71a5853aeb1e48"), looks := true }, kinds := [], alts := [], laidByText := true, laidKinds := [.data, .pinned], laidTests := true, laidLooks := .later }
def ManifestReadsUptoCardSaid : Prop := Claim7.holds Tryd.pinned (.plain (OpenSpec.upto manifestReadsSpec)) manifestReadsUptoCard

/-- THE SECOND FORM's CARD OF 'usufructlaw10.ManifestJoined'. -/
def manifestJoinedUptoCard : Claim7 := { stood := { row := manifestJoinedUptoRow, standIns := [], harness := (true, "e59e277dddb8699a29e528e9d50f326143489924521130614e71a5853aeb1e48"), looks := true }, kinds := [], alts := [], laidByText := true, laidKinds := [.data, .pinned], laidTests := true, laidLooks := .later }
def ManifestJoinedUptoCardSaid : Prop := Claim7.holds Tryd.pinned (.plain (OpenSpec.upto manifestJoinedSpec)) manifestJoinedUptoCard

/-- THE SECOND FORM's CARD OF 'usufructlaw10.ManifestPrints'. -/
def manifestPrintsUptoCard : Claim7 := { stood := { row := manifestPrintsUptoRow, standIns := [], harness := (true, "e59e277dddb8699a29e528e9d50f326143489924521130614e71a5853aeb1e48"), looks := true }, kinds := [], alts := [], laidByText := true, laidKinds := [.data, .pinned], laidTests := true, laidLooks := .later }
def ManifestPrintsUptoCardSaid : Prop := Claim7.holds Tryd.pinned (.plain (OpenSpec.upto manifestPrintsSpec)) manifestPrintsUptoCard

/-- THE SECOND FORM's CARD OF 'usufructlaw10.ManifestBack'. -/
def manifestBackUptoCard : Claim7 := { stood := { row := manifestBackUptoRow, standIns := [], harness := (true, "e59e277dddb8699a29e528e9d50f326143489924521130614e71a5853aeb1e48"), looks := true }, kinds := [], alts := [], laidByText := true, laidKinds := [.data, .pinned], laidTests := true, laidLooks := .later }
def ManifestBackUptoCardSaid : Prop := Claim7.holds Tryd.pinned (.plain (OpenSpec.upto manifestBackSpec)) manifestBackUptoCard
end Rows
end Go.Proofs.YtiliajnijjkcdaaDoor
